-- Functions of the program and of the document as plain Lean, each with the proof that the code comes to it. Written by a program of this session (wip/tools/myprint.py, pack.py) over the kit's printer; Lean checks it.
import Derived.Test.YtkaoiblgfpphoaaZCoderTakesPrt0
import Derived.Test.YtkaoiblgfpphoaaZCoderTakesM1
import Derived.Test.YtkaoiblgfpphoaaZCoderTakesM2
import Derived.Test.YtkaoiblgfpphoaaZCoderTakesM3
namespace Go.Proofs.Ytkaoiblgfpphoaa.Prt
open Go.RowKit Go.Proofs.YtkaoiblgfpphoaaW.PrintWords Go.Proofs.YtkaoiblgfpphoaaW.PrintLast Go.Proofs.YtkaoiblgfpphoaaW.PrintMore
attribute [local go_sem] max2_int min2_int max_two min_two max_three min_three max_four min_four   -- for this text's walks alone
set_option linter.unusedVariables false
set_option linter.unusedSimpArgs false

/-! ### psalterylaw05_CoderTakes: function 6 -/
mutual
def psalterylaw05_CoderTakes.j0 : Nat → Int → Int → Int → Int → Int → Bool → Int → Int → List Int → Int → Int → Int → List Int → Int → Option (Bool)
  | 0, _, _, _, _, _, _, _, _, _, _, _, _, _, _ => none
  | k + 1, x1, x2, x3, x10, x11, x32, x373000, x373001, x373002, x373003, x381000, x381001, x381002, x381003 => if x32 = true then (if x10 = 0 then (if x11 = 1 then (psalterylaw05_CoderTakes.j1 k x1 x2 x3 x373000 x373001 x373002 x373003 x381000 x381001 x381002 x381003) else (some false)) else (some false)) else ((psalteryref05_Get.f x381000 x381001 x381002 x381003 x3).bind fun t383 => (if x10 = t383 then (if x11 = 0 then (psalterylaw05_CoderTakes.j1 k x1 x2 x3 x373000 x373001 x373002 x373003 x381000 x381001 x381002 x381003) else (some false)) else (some false)))
def psalterylaw05_CoderTakes.j1 : Nat → Int → Int → Int → Int → Int → List Int → Int → Int → Int → List Int → Int → Option (Bool)
  | 0, _, _, _, _, _, _, _, _, _, _, _ => none
  | k + 1, x1, x2, x3, x373000, x373001, x373002, x373003, x381000, x381001, x381002, x381003 => (coder_Take.f k x373000 x373001 x373002 x373003 x1 x2 x3).bind fun bt384 => ((psalteryref05_Fair.f x1 x2 x3).bind fun t392 => (if t392 = true then (if bt384.2.2.2.2 = 0 then ((psalteryref05_Take.f k x381000 x381001 x381002 x381003 x1 x2 x3).bind fun bt395 => ((psalterylaw05_SameDec.f bt384.1 bt384.2.1 bt384.2.2.1 bt384.2.2.2.1 bt395.1 bt395.2.1 bt395.2.2.1 bt395.2.2.2).bind fun t401 => (if t401 = true then ((coder_RightDec.f bt384.1 bt384.2.1 bt384.2.2.1 bt384.2.2.2.1).bind fun t402 => (if t402 = true then ((psalterylaw05_knows.f k).bind fun t403 => (some t403)) else (some false))) else (some false)))) else (some false)) else (if bt384.2.2.2.2 = 1 then ((psalterylaw05_SameDec.f bt384.1 bt384.2.1 bt384.2.2.1 bt384.2.2.2.1 x381000 x381001 x381002 x381003).bind fun t393 => (if t393 = true then ((psalterylaw05_knows.f k).bind fun t394 => (some t394)) else (some false))) else (some false))))
end
def psalterylaw05_CoderTakes.f (k : Nat) (a0_0 : Int) (a0_1 : Int) (l0_2 : List Int) (a0_3 : Int) (a1 : Int) (a2 : Int) (a3 : Int) : Option (Bool) := if (l0_2.length : Int) > 5000 then ((psalterylaw05_knows.f k).bind fun t373 => (some t373)) else ((psalterylaw05_AsDec.f k a0_0 a0_1 l0_2 a0_3).bind fun bt374 => ((coder_Get.f a0_0 a0_1 l0_2 a0_3 a3).bind fun bt381 => (if a3 < 1 then (psalterylaw05_CoderTakes.j0 k a1 a2 a3 bt381.1 bt381.2 true a0_0 a0_1 l0_2 a0_3 bt374.1 bt374.2.1 bt374.2.2.1 bt374.2.2.2) else (psalterylaw05_CoderTakes.j0 k a1 a2 a3 bt381.1 bt381.2 (decide (a3 > 65536)) a0_0 a0_1 l0_2 a0_3 bt374.1 bt374.2.1 bt374.2.2.1 bt374.2.2.2))))
theorem psalterylaw05_CoderTakes.mono_l : ∀ k, (∀ y0 y1 y2 y3 y4 y5 y6 y7 y8 y9 y10 y11 y12 y13, LeO (psalterylaw05_CoderTakes.j0 k y0 y1 y2 y3 y4 y5 y6 y7 y8 y9 y10 y11 y12 y13) (psalterylaw05_CoderTakes.j0 (k + 1) y0 y1 y2 y3 y4 y5 y6 y7 y8 y9 y10 y11 y12 y13)) ∧ (∀ y0 y1 y2 y3 y4 y5 y6 y7 y8 y9 y10, LeO (psalterylaw05_CoderTakes.j1 k y0 y1 y2 y3 y4 y5 y6 y7 y8 y9 y10) (psalterylaw05_CoderTakes.j1 (k + 1) y0 y1 y2 y3 y4 y5 y6 y7 y8 y9 y10))
  | 0 => ⟨fun _ _ _ _ _ _ _ _ _ _ _ _ _ _ r h => by simp [psalterylaw05_CoderTakes.j0] at h, fun _ _ _ _ _ _ _ _ _ _ _ r h => by simp [psalterylaw05_CoderTakes.j1] at h⟩
  | k + 1 => by
    obtain ⟨ih0, ih1⟩ := psalterylaw05_CoderTakes.mono_l k
    refine ⟨?_, ?_⟩
    · intro y0 y1 y2 y3 y4 y5 y6 y7 y8 y9 y10 y11 y12 y13
      unfold psalterylaw05_CoderTakes.j0
      repeat' first
      | (with_reducible exact ih0 _ _ _ _ _ _ _ _ _ _ _ _ _ _)
      | (with_reducible exact ih1 _ _ _ _ _ _ _ _ _ _ _)
      | (with_reducible exact coder_Take.mono _ _ _ _ _ _ _ _)
      | (with_reducible exact psalterylaw05_AsDec.mono _ _ _ _ _)
      | (with_reducible exact psalterylaw05_knows.mono _)
      | (with_reducible exact psalteryref05_Take.mono _ _ _ _ _ _ _ _)
      | (with_reducible exact LeO.refl _)
      | (with_reducible exact LeO.none _)
      | (with_reducible refine LeO.ite ?_ ?_)
      | (with_reducible refine LeO.bind ?_ (fun _ => ?_))
      | exact ih0 _ _ _ _ _ _ _ _ _ _ _ _ _ _
      | exact ih1 _ _ _ _ _ _ _ _ _ _ _
      | exact coder_Take.mono _ _ _ _ _ _ _ _
      | exact psalterylaw05_AsDec.mono _ _ _ _ _
      | exact psalterylaw05_knows.mono _
      | exact psalteryref05_Take.mono _ _ _ _ _ _ _ _
      | exact LeO.none _
      | refine LeO.ite ?_ ?_
      | refine LeO.bind ?_ (fun _ => ?_)
    · intro y0 y1 y2 y3 y4 y5 y6 y7 y8 y9 y10
      unfold psalterylaw05_CoderTakes.j1
      repeat' first
      | (with_reducible exact ih0 _ _ _ _ _ _ _ _ _ _ _ _ _ _)
      | (with_reducible exact ih1 _ _ _ _ _ _ _ _ _ _ _)
      | (with_reducible exact coder_Take.mono _ _ _ _ _ _ _ _)
      | (with_reducible exact psalterylaw05_AsDec.mono _ _ _ _ _)
      | (with_reducible exact psalterylaw05_knows.mono _)
      | (with_reducible exact psalteryref05_Take.mono _ _ _ _ _ _ _ _)
      | (with_reducible exact LeO.refl _)
      | (with_reducible exact LeO.none _)
      | (with_reducible refine LeO.ite ?_ ?_)
      | (with_reducible refine LeO.bind ?_ (fun _ => ?_))
      | exact ih0 _ _ _ _ _ _ _ _ _ _ _ _ _ _
      | exact ih1 _ _ _ _ _ _ _ _ _ _ _
      | exact coder_Take.mono _ _ _ _ _ _ _ _
      | exact psalterylaw05_AsDec.mono _ _ _ _ _
      | exact psalterylaw05_knows.mono _
      | exact psalteryref05_Take.mono _ _ _ _ _ _ _ _
      | exact LeO.none _
      | refine LeO.ite ?_ ?_
      | refine LeO.bind ?_ (fun _ => ?_)
theorem psalterylaw05_CoderTakes.mono : ∀ a0 a1 a2 a3 a4 a5 a6 k, LeO (psalterylaw05_CoderTakes.f k a0 a1 a2 a3 a4 a5 a6) (psalterylaw05_CoderTakes.f (k + 1) a0 a1 a2 a3 a4 a5 a6) := by
  intro a0 a1 a2 a3 a4 a5 a6 k
  obtain ⟨ih0, ih1⟩ := psalterylaw05_CoderTakes.mono_l k
  unfold psalterylaw05_CoderTakes.f
  repeat' first
      | (with_reducible exact ih0 _ _ _ _ _ _ _ _ _ _ _ _ _ _)
      | (with_reducible exact ih1 _ _ _ _ _ _ _ _ _ _ _)
      | (with_reducible exact coder_Take.mono _ _ _ _ _ _ _ _)
      | (with_reducible exact psalterylaw05_AsDec.mono _ _ _ _ _)
      | (with_reducible exact psalterylaw05_knows.mono _)
      | (with_reducible exact psalteryref05_Take.mono _ _ _ _ _ _ _ _)
      | (with_reducible exact LeO.refl _)
      | (with_reducible exact LeO.none _)
      | (with_reducible refine LeO.ite ?_ ?_)
      | (with_reducible refine LeO.bind ?_ (fun _ => ?_))
      | exact ih0 _ _ _ _ _ _ _ _ _ _ _ _ _ _
      | exact ih1 _ _ _ _ _ _ _ _ _ _ _
      | exact coder_Take.mono _ _ _ _ _ _ _ _
      | exact psalterylaw05_AsDec.mono _ _ _ _ _
      | exact psalterylaw05_knows.mono _
      | exact psalteryref05_Take.mono _ _ _ _ _ _ _ _
      | exact LeO.none _
      | refine LeO.ite ?_ ?_
      | refine LeO.bind ?_ (fun _ => ?_)
def psalterylaw05_CoderTakes.T13 : Bool × List (List Nat × List Nat) := (true, [([], []), ([0], [0]), ([1], [1]), ([2], [2]), ([2], [2]), ([2], [2]), ([2], [2]), ([2], [2]), ([4, 5, 6, 7, 2, 2], [2, 4, 5, 6, 7]), ([3, 8, 8, 2], [2, 3, 8]), ([2, 9], [2, 9]), ([10, 9], [10]), ([11], [11]), ([12, 11, 11], [11, 12]), ([11, 13], [11, 13]), ([14, 13], [14]), ([15, 15], [15]), ([15, 16], [15, 16]), ([17, 16, 0, 1, 2, 3, 4, 5, 6, 7, 8, 9, 10, 11, 12, 13, 14, 15, 16, 17], [17])])
def psalterylaw05_CoderTakes.B13 : List Nat := [0, 1, 3, 7, 7, 7, 7, 7, 247, 511, 1023, 2047, 4095, 8191, 16383, 32767, 65535, 131071, 262143]
theorem psalterylaw05_CoderTakes.tab13 : rtab .any (opsOf Try.f6 13) = psalterylaw05_CoderTakes.T13 := by kernel_rfl
theorem psalterylaw05_CoderTakes.bits13 : waitsOk psalterylaw05_CoderTakes.T13.2 psalterylaw05_CoderTakes.B13 = true := by kernel_rfl
set_option maxHeartbeats 8000000 in
set_option maxRecDepth 100000 in
theorem psalterylaw05_CoderTakes.calls (k : Nat) (a0_0 : Int) (a0_1 : Int) (A0_2 : Option Addr) (c0_2 : Nat) (l0_2 : List Int) (a0_3 : Int) (a1 : Int) (a2 : Int) (a3 : Int) (r : Bool) (w : World) (hr0_2 : Kd.C (Kd.int .u8) w A0_2 l0_2.length l0_2) (hc0_2 : l0_2.length ≤ c0_2) (h : psalterylaw05_CoderTakes.f k a0_0 a0_1 l0_2 a0_3 a1 a2 a3 = some r) :
    Calls Try.prog 6 #[.agg #[.int .u64 a0_0, .int .u32 a0_1, .slice A0_2 l0_2.length c0_2, .int .i64 a0_3], .int .i64 a1, .int .i64 a2, .int .i64 a3] w fun e w' => e = .returned (.bool r) ∧ Below w.heap.size w w' := by
  have hu43 := Try.underlying43
  have hu46 := Try.underlying46
  have HR0_2 := Aside0.mk hr0_2
  have HC0_2 := Aside0.mk hc0_2
  clear hr0_2 hc0_2
  have HB := Aside0.mk (Below.refl w.heap.size w)
  have H : (if (l0_2.length : Int) > 5000 then ((psalterylaw05_knows.f k).bind fun t373 => (some t373)) else ((psalterylaw05_AsDec.f k a0_0 a0_1 l0_2 a0_3).bind fun bt374 => ((coder_Get.f a0_0 a0_1 l0_2 a0_3 a3).bind fun bt381 => (if a3 < 1 then (psalterylaw05_CoderTakes.j0 k a1 a2 a3 bt381.1 bt381.2 true a0_0 a0_1 l0_2 a0_3 bt374.1 bt374.2.1 bt374.2.2.1 bt374.2.2.2) else (psalterylaw05_CoderTakes.j0 k a1 a2 a3 bt381.1 bt381.2 (decide (a3 > 65536)) a0_0 a0_1 l0_2 a0_3 bt374.1 bt374.2.1 bt374.2.2.1 bt374.2.2.2))))) = some r := h
  clear h
  by_cases c5 : (l0_2.length : Int) > 5000
  · rw [if_pos c5] at H
    have c5b0 : decide (5000 < (l0_2.length : Int)) = true := decide_eq_true c5
    have c5b1 : decide (5000 < l0_2.length) = true := decide_eq_true (by omega)
    clear c5
    replace H := Option.bind_eq_some_iff.mp H
    obtain ⟨t373, A60, H⟩ := H
    replace H : (some t373) = some r := H
    have A6 := Aside0.mk A60
    clear A60
    obtain rfl := Option.some.inj H
    go_enter Try.func6, Try.ntmps6
    go_wp2_with (first | ((with_reducible refine gate_dst (N := 4) rfl ?_); refine box_event ?hg (N := 4) ?hd (cs := #[.int .u64 a0_0, .int .u32 a0_1, .slice A0_2 l0_2.length c0_2, .int .i64 a0_3]) (t := 43) ?hr ?_; (case hd => rfl); (case hg => rfl); (case hr => first | (go_simp; done) | (go_simp; rfl)); intro gb372 hg w7 hbox hb; have n0_ := Aside0.mk (below_step (by repeat (first | (with_reducible first | exact HB.out | apply below_alloc | apply pw_below_drewN | apply below_drew1) | exact HB.out)) hb); have n1_ := Aside0.mk (hbox); have n2_ := Aside0.mk ((by rw [hg]; exact (below_size (by repeat (first | (with_reducible first | exact HB.out | apply below_alloc | apply pw_below_drewN | apply below_drew1) | exact HB.out))) : w.heap.size ≤ gb372)); have n3_ := Aside0.mk ((by rw [hg]; exact (below_size (by repeat (first | (with_reducible first | exact HB.out | apply below_alloc | apply pw_below_drewN | apply below_drew1) | exact HB.out))) : w.heap.size ≤ gb372)); clear HB; have HB := n0_; have BK372 := n1_; have GW372 := n2_; have GE372 := n3_; clear n0_ n1_ n2_ n3_; clear hb hbox hg; have hcz8_0 : w7.cell? ⟨gb372, 0, none⟩ = some (.int .u64 a0_0) := (blk_cell BK372.out 0).trans rfl; have hcz8_1 : w7.cell? ⟨gb372, 1, none⟩ = some (.int .u32 a0_1) := (blk_cell BK372.out 1).trans rfl; have hcz8_2 : w7.cell? ⟨gb372, 2, none⟩ = some (.slice A0_2 l0_2.length c0_2) := (blk_cell BK372.out 2).trans rfl; have hcz8_3 : w7.cell? ⟨gb372, 3, none⟩ = some (.int .i64 a0_3) := (blk_cell BK372.out 3).trans rfl; have hfz8_0 := blk_frozen BK372.out 0; have hfz8_1 := blk_frozen BK372.out 1; have hfz8_2 := blk_frozen BK372.out 2; have hfz8_3 := blk_frozen BK372.out 3) | ((with_reducible refine gate_callee (f := 17) rfl ?_); refine goesL_ (some 18) rfl rfl Try.func17 (by kernel_rfl) rfl #[] rfl (by (try simp only [List.map_toArray, List.map_cons, List.map_nil]); first | done | rfl | (simp only [List.length_drop, List.length_take]; rfl)) ?_; (with_reducible refine (psalterylaw05_knows.calls k  t373 _ A6.out).mono ?_); rintro e w9 ⟨rfl, hb⟩; refine ⟨_, rfl, ?_⟩; have n0_ := Aside0.mk (blk_below (g := gb372) (o := .cells #[.int .u64 a0_0, .int .u32 a0_1, .slice A0_2 l0_2.length c0_2, .int .i64 a0_3] 43 (0, 0)) (by (with_reducible repeat (first | refine blk_drewN ?_ _ | refine blk_drew ?_ | refine blk_alloc ?_ _)); exact BK372.out) hb); have n1_ := Aside0.mk (below_step (by repeat (first | (with_reducible first | exact HB.out | apply below_alloc | apply pw_below_drewN | apply below_drew1 | refine below_set ?_ GE372.out) | exact HB.out)) hb); clear BK372; clear HB; have BK372 := n0_; have HB := n1_; clear n0_ n1_; (try clear hb); (try clear hb2); (try clear hk); (try clear hi)))
    go_ret
    exact ⟨by first | rfl | (simp [errW_none, errW_some] <;> rfl) | (simp [*, errW_none, errW_some] <;> rfl), by repeat (first | (with_reducible first | exact HB.out | apply below_alloc | apply pw_below_drewN | apply below_drew1 | refine below_set ?_ GE372.out) | exact HB.out)⟩
  · rw [if_neg c5] at H
    have c5b0 : decide (5000 < (l0_2.length : Int)) = false := decide_eq_false c5
    have c5b1 : decide (5000 < l0_2.length) = false := decide_eq_false (by omega)
    clear c5
    replace H := Option.bind_eq_some_iff.mp H
    obtain ⟨⟨t374, t375, t376, t379⟩, A100, H⟩ := H
    replace H : ((coder_Get.f a0_0 a0_1 l0_2 a0_3 a3).bind fun bt381 => (if a3 < 1 then (psalterylaw05_CoderTakes.j0 k a1 a2 a3 bt381.1 bt381.2 true a0_0 a0_1 l0_2 a0_3 t374 t375 t376 t379) else (psalterylaw05_CoderTakes.j0 k a1 a2 a3 bt381.1 bt381.2 (decide (a3 > 65536)) a0_0 a0_1 l0_2 a0_3 t374 t375 t376 t379))) = some r := H
    have A10 := Aside0.mk A100
    clear A100
    replace H := Option.bind_eq_some_iff.mp H
    obtain ⟨⟨t381, t382⟩, A110, H⟩ := H
    replace H : (if a3 < 1 then (psalterylaw05_CoderTakes.j0 k a1 a2 a3 t381 t382 true a0_0 a0_1 l0_2 a0_3 t374 t375 t376 t379) else (psalterylaw05_CoderTakes.j0 k a1 a2 a3 t381 t382 (decide (a3 > 65536)) a0_0 a0_1 l0_2 a0_3 t374 t375 t376 t379)) = some r := H
    have A11 := Aside0.mk A110
    clear A110
    have HC12 := Aside0.mk H
    clear H
    go_enter Try.func6, Try.ntmps6
    go_upto_region 5 with (first | ((with_reducible refine gate_dst (N := 4) rfl ?_); refine box_event ?hg (N := 4) ?hd (cs := #[.int .u64 a0_0, .int .u32 a0_1, .slice A0_2 l0_2.length c0_2, .int .i64 a0_3]) (t := 43) ?hr ?_; (case hd => rfl); (case hg => rfl); (case hr => first | (go_simp; done) | (go_simp; rfl)); intro gb372 hg w13 hbox hb; have n0_ := Aside0.mk (below_step (by repeat (first | (with_reducible first | exact HB.out | apply below_alloc | apply pw_below_drewN | apply below_drew1) | exact HB.out)) hb); have n1_ := Aside0.mk (hbox); have n2_ := Aside0.mk ((by rw [hg]; exact (below_size (by repeat (first | (with_reducible first | exact HB.out | apply below_alloc | apply pw_below_drewN | apply below_drew1) | exact HB.out))) : w.heap.size ≤ gb372)); have n3_ := Aside0.mk ((by rw [hg]; exact (below_size (by repeat (first | (with_reducible first | exact HB.out | apply below_alloc | apply pw_below_drewN | apply below_drew1) | exact HB.out))) : w.heap.size ≤ gb372)); clear HB; have HB := n0_; have BK372 := n1_; have GW372 := n2_; have GE372 := n3_; clear n0_ n1_ n2_ n3_; clear hb hbox hg; have hcz14_0 : w13.cell? ⟨gb372, 0, none⟩ = some (.int .u64 a0_0) := (blk_cell BK372.out 0).trans rfl; have hcz14_1 : w13.cell? ⟨gb372, 1, none⟩ = some (.int .u32 a0_1) := (blk_cell BK372.out 1).trans rfl; have hcz14_2 : w13.cell? ⟨gb372, 2, none⟩ = some (.slice A0_2 l0_2.length c0_2) := (blk_cell BK372.out 2).trans rfl; have hcz14_3 : w13.cell? ⟨gb372, 3, none⟩ = some (.int .i64 a0_3) := (blk_cell BK372.out 3).trans rfl; have hfz14_0 := blk_frozen BK372.out 0; have hfz14_1 := blk_frozen BK372.out 1; have hfz14_2 := blk_frozen BK372.out 2; have hfz14_3 := blk_frozen BK372.out 3) | ((with_reducible refine gate_callee (f := 31) rfl ?_); refine goesL_ (some 20) rfl rfl Try.func31 (by kernel_rfl) rfl #[.agg #[.int .u64 a0_0, .int .u32 a0_1, .slice A0_2 l0_2.length c0_2, .int .i64 a0_3]] rfl (by (try simp only [List.map_toArray, List.map_cons, List.map_nil]); first | done | rfl | (simp only [List.length_drop, List.length_take]; rfl)) ?_; (with_reducible refine (psalterylaw05_AsDec.calls k a0_0 a0_1 (fun k_ => k_ < w.heap.size) _ _ l0_2 a0_3 t374 t375 t376 t379 _ ?side1 A10.out).mono ?_); (case side1 => exact Kd.V_mk HC0_2.out (Kd.F_below (Kd.C_F (Kd.heap_int .u8) HR0_2.out) (by repeat (first | (with_reducible first | exact HB.out | apply below_alloc | apply pw_below_drewN | apply below_drew1 | refine below_set ?_ GE372.out) | exact HB.out)))); rintro e w15 ⟨v377, rfl, ho0, hb⟩; refine ⟨_, rfl, ?_⟩; have n0_ := Aside0.mk (Kd.V_lower (Kd.V_mono (ok' := fun k_ => k_ ≠ gb372) ho0 (fun k_ hk_ => Or.elim hk_ (fun hs_ => fun e_ => Nat.not_le.2 hs_ (by rw [e_]; exact GW372.out)) (fun hn_ => (Kd.freshB (g := gb372) (o := .cells #[.int .u64 a0_0, .int .u32 a0_1, .slice A0_2 l0_2.length c0_2, .int .i64 a0_3] 43 (0, 0)) (by (with_reducible repeat (first | refine blk_drewN ?_ _ | refine blk_drew ?_ | refine blk_alloc ?_ _)); exact BK372.out) k_ hn_)))) (below_size (by repeat (first | (with_reducible first | exact HB.out | apply below_alloc | apply pw_below_drewN | apply below_drew1 | refine below_set ?_ GE372.out) | exact HB.out)))); have n1_ := Aside0.mk (blk_below (g := gb372) (o := .cells #[.int .u64 a0_0, .int .u32 a0_1, .slice A0_2 l0_2.length c0_2, .int .i64 a0_3] 43 (0, 0)) (by (with_reducible repeat (first | refine blk_drewN ?_ _ | refine blk_drew ?_ | refine blk_alloc ?_ _)); exact BK372.out) hb); have n2_ := Aside0.mk (below_step (by repeat (first | (with_reducible first | exact HB.out | apply below_alloc | apply pw_below_drewN | apply below_drew1 | refine below_set ?_ GE372.out) | exact HB.out)) hb); clear BK372; clear HB; have HO378 := n0_; have BK372 := n1_; have HB := n2_; clear n0_ n1_ n2_; (try clear hb); (try clear hb2); (try clear hk); (try clear hi); (try clear ho0)) | ((with_reducible refine gate_dst (N := 9) rfl ?_); refine box_event ?hg (N := 9) ?hd (cs := #[.int .u64 0, .int .u64 0, .slice none 0 0, .int .i64 0]) (t := 46) ?hr ?_; (case hd => rfl); (case hg => rfl); (case hr => first | (go_simp; done) | (go_simp; rfl)); intro gb380 hg w16 hbox hb; have n0_ := Aside0.mk (Kd.V_below (Kd.V_elderB (by (with_reducible repeat (first | apply Kd.V_alloc | apply Kd.V_drewN | apply Kd.V_drew)); exact HO378.out) gb380 (Nat.le_of_eq hg.symm)) hb); have n1_ := Aside0.mk (blk_below (g := gb372) (o := .cells #[.int .u64 a0_0, .int .u32 a0_1, .slice A0_2 l0_2.length c0_2, .int .i64 a0_3] 43 (0, 0)) (by (with_reducible repeat (first | refine blk_drewN ?_ _ | refine blk_drew ?_ | refine blk_alloc ?_ _)); exact BK372.out) hb); have n2_ := Aside0.mk (below_step (by repeat (first | (with_reducible first | exact HB.out | apply below_alloc | apply pw_below_drewN | apply below_drew1 | refine below_set ?_ GE372.out) | exact HB.out)) hb); have n3_ := Aside0.mk (hbox); have n4_ := Aside0.mk ((by rw [hg]; exact (below_size (by repeat (first | (with_reducible first | exact HB.out | apply below_alloc | apply pw_below_drewN | apply below_drew1 | refine below_set ?_ GE372.out) | exact HB.out))) : w.heap.size ≤ gb380)); have n5_ := Aside0.mk ((by rw [hg]; exact (below_size (by repeat (first | (with_reducible first | exact HB.out | apply below_alloc | apply pw_below_drewN | apply below_drew1 | refine below_set ?_ GE372.out) | exact HB.out))) : w.heap.size ≤ gb380)); have n6_ := Aside0.mk ((by rw [hg]; exact Nat.ne_of_lt (blk_lt (g := gb372) (o := .cells #[.int .u64 a0_0, .int .u32 a0_1, .slice A0_2 l0_2.length c0_2, .int .i64 a0_3] 43 (0, 0)) (by (with_reducible repeat (first | refine blk_drewN ?_ _ | refine blk_drew ?_ | refine blk_alloc ?_ _)); exact BK372.out)) : gb372 ≠ gb380)); have n7_ := Aside0.mk ((by rw [hg]; exact Nat.ne_of_gt (blk_lt (g := gb372) (o := .cells #[.int .u64 a0_0, .int .u32 a0_1, .slice A0_2 l0_2.length c0_2, .int .i64 a0_3] 43 (0, 0)) (by (with_reducible repeat (first | refine blk_drewN ?_ _ | refine blk_drew ?_ | refine blk_alloc ?_ _)); exact BK372.out)) : gb380 ≠ gb372)); clear HO378; clear BK372; clear HB; have HO378 := n0_; have BK372 := n1_; have HB := n2_; have BK380 := n3_; have GW380 := n4_; have GE380 := n5_; have NB372_380 := n6_; have NB380_372 := n7_; clear n0_ n1_ n2_ n3_ n4_ n5_ n6_ n7_; clear hb hbox hg; have hnb17 := NB380_372.out; have hnc17 := NB372_380.out; have hcz18_0 : w16.cell? ⟨gb380, 0, none⟩ = some (.int .u64 0) := (blk_cell BK380.out 0).trans rfl; have hcz18_1 : w16.cell? ⟨gb380, 1, none⟩ = some (.int .u64 0) := (blk_cell BK380.out 1).trans rfl; have hcz18_2 : w16.cell? ⟨gb380, 2, none⟩ = some (.slice none 0 0) := (blk_cell BK380.out 2).trans rfl; have hcz18_3 : w16.cell? ⟨gb380, 3, none⟩ = some (.int .i64 0) := (blk_cell BK380.out 3).trans rfl; have hfz18_0 := blk_frozen BK380.out 0; have hfz18_1 := blk_frozen BK380.out 1; have hfz18_2 := blk_frozen BK380.out 2; have hfz18_3 := blk_frozen BK380.out 3; obtain ⟨Ao19, co19, eo19⟩ := Kd.V_slice HO378.out; subst eo19; have hcz20_0 : w16.cell? ⟨gb372, 0, none⟩ = some (.int .u64 a0_0) := (blk_cell BK372.out 0).trans rfl; have hcz20_1 : w16.cell? ⟨gb372, 1, none⟩ = some (.int .u32 a0_1) := (blk_cell BK372.out 1).trans rfl; have hcz20_2 : w16.cell? ⟨gb372, 2, none⟩ = some (.slice A0_2 l0_2.length c0_2) := (blk_cell BK372.out 2).trans rfl; have hcz20_3 : w16.cell? ⟨gb372, 3, none⟩ = some (.int .i64 a0_3) := (blk_cell BK372.out 3).trans rfl; have hfz20_0 := blk_frozen BK372.out 0; have hfz20_1 := blk_frozen BK372.out 1; have hfz20_2 := blk_frozen BK372.out 2; have hfz20_3 := blk_frozen BK372.out 3) | ((with_reducible refine gate_callee (f := 32) rfl ?_); refine goesL_ (some 24) rfl rfl Try.func32 (by kernel_rfl) rfl #[.agg #[.int .u64 a0_0, .int .u32 a0_1, .slice A0_2 l0_2.length c0_2, .int .i64 a0_3], .int .i64 a3] rfl (by (try simp only [List.map_toArray, List.map_cons, List.map_nil]); first | done | rfl | (simp only [List.length_drop, List.length_take]; rfl)) ?_; (with_reducible refine (coder_Get.calls a0_0 a0_1 _ _ l0_2 a0_3 a3 t381 t382 _ ?side1 ?side2 A11.out).mono ?_); (case side1 => exact Kd.C_below HR0_2.out (by repeat (first | (with_reducible first | exact HB.out | apply below_alloc | apply pw_below_drewN | apply below_drew1 | refine below_set ?_ GE372.out | refine below_set ?_ GE380.out) | exact HB.out))); (case side2 => exact HC0_2.out); rintro e w21 ⟨rfl, hb⟩; refine ⟨_, rfl, ?_⟩; have n0_ := Aside0.mk (Kd.V_below (by (with_reducible repeat (first | apply Kd.V_alloc | apply Kd.V_drewN | apply Kd.V_drew)); exact (Kd.V_mono (Kd.V_far (p := ⟨gb380, 3, none⟩) (Kd.V_far (p := ⟨gb380, 2, none⟩) (Kd.V_far (p := ⟨gb380, 1, none⟩) (Kd.V_far (p := ⟨gb380, 0, none⟩) (Kd.V_mono HO378.out (fun k_ hk => (⟨hk, hk.2⟩ : _ ∧ k_ ≠ gb380))) (fun _ hk => hk.2) (.int .u64 t374)) (fun _ hk => hk.2) (.int .u64 t375)) (fun _ hk => hk.2) (.slice Ao19 t376.length co19)) (fun _ hk => hk.2) (.int .i64 t379)) (fun _ h_ => h_.1))) hb); have n1_ := Aside0.mk (blk_below (g := gb372) (o := .cells #[.int .u64 a0_0, .int .u32 a0_1, .slice A0_2 l0_2.length c0_2, .int .i64 a0_3] 43 (0, 0)) (by (with_reducible repeat (first | refine blk_drewN ?_ _ | refine blk_drew ?_ | refine blk_alloc ?_ _)); refine blk_far ?_ NB372_380.out _; (with_reducible repeat (first | refine blk_drewN ?_ _ | refine blk_drew ?_ | refine blk_alloc ?_ _)); refine blk_far ?_ NB372_380.out _; (with_reducible repeat (first | refine blk_drewN ?_ _ | refine blk_drew ?_ | refine blk_alloc ?_ _)); refine blk_far ?_ NB372_380.out _; (with_reducible repeat (first | refine blk_drewN ?_ _ | refine blk_drew ?_ | refine blk_alloc ?_ _)); refine blk_far ?_ NB372_380.out _; (with_reducible repeat (first | refine blk_drewN ?_ _ | refine blk_drew ?_ | refine blk_alloc ?_ _)); exact BK372.out) hb); have n2_ := Aside0.mk (blk_below (g := gb380) (o := .cells #[.int .u64 t374, .int .u64 t375, .slice Ao19 t376.length co19, .int .i64 t379] 46 (0, 0)) (by (with_reducible repeat (first | refine blk_drewN ?_ _ | refine blk_drew ?_ | refine blk_alloc ?_ _)); refine blk_put (cs := #[.int .u64 t374, .int .u64 t375, .slice Ao19 t376.length co19, .int .i64 0]) ?_ 3 _ rfl; (with_reducible repeat (first | refine blk_drewN ?_ _ | refine blk_drew ?_ | refine blk_alloc ?_ _)); refine blk_put (cs := #[.int .u64 t374, .int .u64 t375, .slice none 0 0, .int .i64 0]) ?_ 2 _ rfl; (with_reducible repeat (first | refine blk_drewN ?_ _ | refine blk_drew ?_ | refine blk_alloc ?_ _)); refine blk_put (cs := #[.int .u64 t374, .int .u64 0, .slice none 0 0, .int .i64 0]) ?_ 1 _ rfl; (with_reducible repeat (first | refine blk_drewN ?_ _ | refine blk_drew ?_ | refine blk_alloc ?_ _)); refine blk_put (cs := #[.int .u64 0, .int .u64 0, .slice none 0 0, .int .i64 0]) ?_ 0 _ rfl; (with_reducible repeat (first | refine blk_drewN ?_ _ | refine blk_drew ?_ | refine blk_alloc ?_ _)); exact BK380.out) hb); have n3_ := Aside0.mk (below_step (by repeat (first | (with_reducible first | exact HB.out | apply below_alloc | apply pw_below_drewN | apply below_drew1 | refine below_set ?_ GE372.out | refine below_set ?_ GE380.out) | exact HB.out)) hb); clear HO378; clear BK372; clear BK380; clear HB; have HO378 := n0_; have BK372 := n1_; have BK380 := n2_; have HB := n3_; clear n0_ n1_ n2_ n3_; (try clear hb); (try clear hb2); (try clear hk); (try clear hi)))
    (try simp only [Act.put, List.setIfInBounds_toArray, List.set_cons_zero, List.set_cons_succ])
    go_cut [32] (fun v32 wc => ∃ (kq : Nat) (x32_11 : Bool), v32 = .bool x32_11 ∧ Aside0 (psalterylaw05_CoderTakes.j0 kq a1 a2 a3 t381 t382 x32_11 a0_0 a0_1 l0_2 a0_3 t374 t375 t376 t379 = some r) ∧ Aside0 (kq ≤ k) ∧ Aside0 (Kd.V (Kd.int .u8) 5 wc w.heap.size (fun k_ => k_ ≠ gb372 ∧ k_ ≠ gb380) (.slice Ao19 t376.length co19) t376) ∧ Aside0 (wc.heap[gb372]? = some (.cells #[.int .u64 a0_0, .int .u32 a0_1, (.slice A0_2 l0_2.length c0_2), .int .i64 a0_3] 43 (0, 0))) ∧ Aside0 (wc.heap[gb380]? = some (.cells #[.int .u64 t374, .int .u64 t375, (.slice Ao19 t376.length co19), .int .i64 t379] 46 (0, 0))) ∧ Aside0 (Below w.heap.size w wc))
    case first =>
      have H := HC12.out
      clear HC12
      by_cases c22 : a3 < 1
      · rw [if_pos c22] at H
        have c22b0 : decide (a3 < 1) = true := decide_eq_true c22
        clear c22
        (first | rw [c22b0] | (simp only [i64_w, i32_w]; rw [c22b0]) | skip)
        have H' := Aside0.mk H
        clear H
        go_wp2
        go_meet
        case rel => exact ⟨_, (true), (by first | rfl | (simp; done) | (simp [*]; done)), H', ⟨by first | omega | exact Nat.le_refl _⟩, ⟨by (with_reducible repeat (first | apply Kd.V_alloc | apply Kd.V_drewN | apply Kd.V_drew)); exact HO378.out⟩, ⟨by (with_reducible repeat (first | refine blk_drewN ?_ _ | refine blk_drew ?_ | refine blk_alloc ?_ _)); exact BK372.out⟩, ⟨by (with_reducible repeat (first | refine blk_drewN ?_ _ | refine blk_drew ?_ | refine blk_alloc ?_ _)); exact BK380.out⟩, ⟨by repeat (first | (with_reducible first | exact HB.out | apply below_alloc | apply pw_below_drewN | apply below_drew1 | refine below_set ?_ GE372.out | refine below_set ?_ GE380.out) | exact HB.out)⟩⟩
      · rw [if_neg c22] at H
        have c22b0 : decide (a3 < 1) = false := decide_eq_false c22
        clear c22
        (first | rw [c22b0] | (simp only [i64_w, i32_w]; rw [c22b0]) | skip)
        have H' := Aside0.mk H
        clear H
        go_wp2
        go_meet
        case rel => exact ⟨_, (decide (a3 > 65536)), (by first | rfl | (simp; done) | (simp [*]; done)), H', ⟨by first | omega | exact Nat.le_refl _⟩, ⟨by (with_reducible repeat (first | apply Kd.V_alloc | apply Kd.V_drewN | apply Kd.V_drew)); exact HO378.out⟩, ⟨by (with_reducible repeat (first | refine blk_drewN ?_ _ | refine blk_drew ?_ | refine blk_alloc ?_ _)); exact BK372.out⟩, ⟨by (with_reducible repeat (first | refine blk_drewN ?_ _ | refine blk_drew ?_ | refine blk_alloc ?_ _)); exact BK380.out⟩, ⟨by repeat (first | (with_reducible first | exact HB.out | apply below_alloc | apply pw_below_drewN | apply below_drew1 | refine below_set ?_ GE372.out | refine below_set ?_ GE380.out) | exact HB.out)⟩⟩
    case rest =>
      clear HC12
      try clear c1
      try clear c2
      try clear p2
      try clear c3
      try clear c5
      try clear c5b0
      try clear c5b1
      try clear c6
      try clear c17
      try clear c22
      try clear c22b0
      try clear hcz14_0
      try clear hcz14_1
      try clear hcz14_2
      try clear hcz14_3
      try clear hcz18_0
      try clear hcz18_1
      try clear hcz18_2
      try clear hcz18_3
      try clear hcz20_0
      try clear hcz20_1
      try clear hcz20_2
      try clear hcz20_3
      try clear hcz8_0
      try clear hcz8_1
      try clear hcz8_2
      try clear hcz8_3
      try clear hfz14_0
      try clear hfz14_1
      try clear hfz14_2
      try clear hfz14_3
      try clear hfz18_0
      try clear hfz18_1
      try clear hfz18_2
      try clear hfz18_3
      try clear hfz20_0
      try clear hfz20_1
      try clear hfz20_2
      try clear hfz20_3
      try clear hfz8_0
      try clear hfz8_1
      try clear hfz8_2
      try clear hfz8_3
      obtain ⟨kq, x32_11, rfl, HA, HJ11, HO_381002, BK372, BK380, HB⟩ := hcut
      cases kq with
      | zero => exact absurd HA.out (by simp [psalterylaw05_CoderTakes.j0])
      | succ kj11 =>
        have H := HA.out
        clear HA
        simp only [psalterylaw05_CoderTakes.j0] at H
        have HC23 := Aside0.mk H
        clear H
        go_upto_if 32 with (fail)
        go_cut [] (fun wc => ∃ (kq : Nat), Aside0 (psalterylaw05_CoderTakes.j1 kq a1 a2 a3 a0_0 a0_1 l0_2 a0_3 t374 t375 t376 t379 = some r) ∧ Aside0 (kq ≤ kj11) ∧ Aside0 (Kd.V (Kd.int .u8) 5 wc w.heap.size (fun k_ => k_ ≠ gb372 ∧ k_ ≠ gb380) (.slice Ao19 t376.length co19) t376) ∧ Aside0 (wc.heap[gb372]? = some (.cells #[.int .u64 a0_0, .int .u32 a0_1, (.slice A0_2 l0_2.length c0_2), .int .i64 a0_3] 43 (0, 0))) ∧ Aside0 (wc.heap[gb380]? = some (.cells #[.int .u64 t374, .int .u64 t375, (.slice Ao19 t376.length co19), .int .i64 t379] 46 (0, 0))) ∧ Aside0 (Below w.heap.size w wc))
        case first =>
          have H := HC23.out
          clear HC23
          by_cases c24 : x32_11 = true
          · subst c24
            have H1 : (if t381 = 0 then (if t382 = 1 then (psalterylaw05_CoderTakes.j1 kj11 a1 a2 a3 a0_0 a0_1 l0_2 a0_3 t374 t375 t376 t379) else (some false)) else (some false)) = some r := by rw [if_pos rfl] at H; exact H
            clear H
            have H := H1
            clear H1
            by_cases c25 : t381 = 0
            · rw [if_pos c25] at H
              have c25b0 : (t381 == 0) = true := beq_iff_eq.mpr c25
              have c25b1 : (t381 != 0) = false := bne_eq_false_iff_eq.mpr c25
              clear c25
              (first | rw [c25b0] | (simp only [i64_w, i32_w]; rw [c25b0]) | skip)
              by_cases c26 : t382 = 1
              · rw [if_pos c26] at H
                have c26b0 : (t382 == 1) = true := beq_iff_eq.mpr c26
                have c26b1 : (t382 != 1) = false := bne_eq_false_iff_eq.mpr c26
                clear c26
                have H' := Aside0.mk H
                clear H
                go_wp2
                go_meet
                case rel => exact ⟨_, H', ⟨by have := HJ11.out; first | omega | exact Nat.le_refl _⟩, ⟨by (with_reducible repeat (first | apply Kd.V_alloc | apply Kd.V_drewN | apply Kd.V_drew)); exact HO_381002.out⟩, ⟨by (with_reducible repeat (first | refine blk_drewN ?_ _ | refine blk_drew ?_ | refine blk_alloc ?_ _)); exact BK372.out⟩, ⟨by (with_reducible repeat (first | refine blk_drewN ?_ _ | refine blk_drew ?_ | refine blk_alloc ?_ _)); exact BK380.out⟩, ⟨by repeat (first | (with_reducible first | exact HB.out | apply below_alloc | apply pw_below_drewN | apply below_drew1 | refine below_set ?_ GE372.out | refine below_set ?_ GE380.out) | exact HB.out)⟩⟩
              · rw [if_neg c26] at H
                have c26b0 : (t382 == 1) = false := beq_eq_false_iff_ne.mpr c26
                have c26b1 : (t382 != 1) = true := bne_iff_ne.mpr c26
                obtain rfl := Option.some.inj H
                go_wp2
                go_ret
                exact ⟨by first | rfl | (simp [errW_none, errW_some] <;> rfl) | (simp [*, errW_none, errW_some] <;> rfl), by repeat (first | (with_reducible first | exact HB.out | apply below_alloc | apply pw_below_drewN | apply below_drew1 | refine below_set ?_ GE372.out | refine below_set ?_ GE380.out) | exact HB.out)⟩
            · rw [if_neg c25] at H
              have c25b0 : (t381 == 0) = false := beq_eq_false_iff_ne.mpr c25
              have c25b1 : (t381 != 0) = true := bne_iff_ne.mpr c25
              (first | rw [c25b0] | (simp only [i64_w, i32_w]; rw [c25b0]) | skip)
              obtain rfl := Option.some.inj H
              go_wp2
              go_ret
              exact ⟨by first | rfl | (simp [errW_none, errW_some] <;> rfl) | (simp [*, errW_none, errW_some] <;> rfl), by repeat (first | (with_reducible first | exact HB.out | apply below_alloc | apply pw_below_drewN | apply below_drew1 | refine below_set ?_ GE372.out | refine below_set ?_ GE380.out) | exact HB.out)⟩
          · replace c24 := Bool.eq_false_iff.mpr c24
            subst c24
            have H1 : ((psalteryref05_Get.f t374 t375 t376 t379 a3).bind fun t383 => (if t381 = t383 then (if t382 = 0 then (psalterylaw05_CoderTakes.j1 kj11 a1 a2 a3 a0_0 a0_1 l0_2 a0_3 t374 t375 t376 t379) else (some false)) else (some false))) = some r := by rw [if_neg (show ¬ (false = true) by decide)] at H; exact H
            clear H
            have H := H1
            clear H1
            replace H := Option.bind_eq_some_iff.mp H
            obtain ⟨t383, A270, H⟩ := H
            replace H : (if t381 = t383 then (if t382 = 0 then (psalterylaw05_CoderTakes.j1 kj11 a1 a2 a3 a0_0 a0_1 l0_2 a0_3 t374 t375 t376 t379) else (some false)) else (some false)) = some r := H
            have A27 := Aside0.mk A270
            clear A270
            by_cases c28 : t381 = t383
            · rw [if_pos c28] at H
              have c28b0 : (t381 == t383) = true := beq_iff_eq.mpr c28
              have c28b1 : (t381 != t383) = false := bne_eq_false_iff_eq.mpr c28
              clear c28
              by_cases c29 : t382 = 0
              · rw [if_pos c29] at H
                have c29b0 : (t382 == 0) = true := beq_iff_eq.mpr c29
                have c29b1 : (t382 != 0) = false := bne_eq_false_iff_eq.mpr c29
                clear c29
                have H' := Aside0.mk H
                clear H
                have hnb30 := NB380_372.out
                have hnc30 := NB372_380.out
                have hcz31_0 : wc.cell? ⟨gb380, 0, none⟩ = some (.int .u64 t374) := (blk_cell BK380.out 0).trans rfl
                have hcz31_1 : wc.cell? ⟨gb380, 1, none⟩ = some (.int .u64 t375) := (blk_cell BK380.out 1).trans rfl
                have hcz31_2 : wc.cell? ⟨gb380, 2, none⟩ = some (.slice Ao19 t376.length co19) := (blk_cell BK380.out 2).trans rfl
                have hcz31_3 : wc.cell? ⟨gb380, 3, none⟩ = some (.int .i64 t379) := (blk_cell BK380.out 3).trans rfl
                have hfz31_0 := blk_frozen BK380.out 0
                have hfz31_1 := blk_frozen BK380.out 1
                have hfz31_2 := blk_frozen BK380.out 2
                have hfz31_3 := blk_frozen BK380.out 3
                go_wp2_with (first | ((with_reducible refine gate_callee (f := 33) rfl ?_); refine goesL_ (some 42) rfl rfl Try.func33 (by kernel_rfl) rfl #[.agg #[.int .u64 t374, .int .u64 t375, .slice Ao19 t376.length co19, .int .i64 t379], .int .i64 a3] rfl (by (try simp only [List.map_toArray, List.map_cons, List.map_nil]); first | done | rfl | (simp only [List.length_drop, List.length_take]; rfl)) ?_; (with_reducible refine (psalteryref05_Get.calls t374 t375 _ _ t376 t379 a3 t383 _ ?side1 ?side2 A27.out).mono ?_); (case side1 => repeat (first | exact (Kd.V_reads' HO_381002.out).2.2 | (with_reducible refine Kd.C_alloc ?_ _) | (with_reducible refine Kd.C_drewN ?_ _) | (with_reducible refine Kd.C_drew ?_))); (case side2 => exact (Kd.V_reads' HO_381002.out).2.1); rintro e w32 ⟨rfl, hb⟩; refine ⟨_, rfl, ?_⟩; have n0_ := Aside0.mk (Kd.V_below (by (with_reducible repeat (first | apply Kd.V_alloc | apply Kd.V_drewN | apply Kd.V_drew)); exact HO_381002.out) hb); have n1_ := Aside0.mk (blk_below (g := gb372) (o := .cells #[.int .u64 a0_0, .int .u32 a0_1, .slice A0_2 l0_2.length c0_2, .int .i64 a0_3] 43 (0, 0)) (by (with_reducible repeat (first | refine blk_drewN ?_ _ | refine blk_drew ?_ | refine blk_alloc ?_ _)); exact BK372.out) hb); have n2_ := Aside0.mk (blk_below (g := gb380) (o := .cells #[.int .u64 t374, .int .u64 t375, .slice Ao19 t376.length co19, .int .i64 t379] 46 (0, 0)) (by (with_reducible repeat (first | refine blk_drewN ?_ _ | refine blk_drew ?_ | refine blk_alloc ?_ _)); exact BK380.out) hb); have n3_ := Aside0.mk (below_step (by repeat (first | (with_reducible first | exact HB.out | apply below_alloc | apply pw_below_drewN | apply below_drew1 | refine below_set ?_ GE372.out | refine below_set ?_ GE380.out) | exact HB.out)) hb); clear HO_381002; clear BK372; clear BK380; clear HB; have HO_381002 := n0_; have BK372 := n1_; have BK380 := n2_; have HB := n3_; clear n0_ n1_ n2_ n3_; (try clear hb); (try clear hb2); (try clear hk); (try clear hi)))
                go_meet
                case rel => exact ⟨_, H', ⟨by have := HJ11.out; first | omega | exact Nat.le_refl _⟩, ⟨by (with_reducible repeat (first | apply Kd.V_alloc | apply Kd.V_drewN | apply Kd.V_drew)); exact HO_381002.out⟩, ⟨by (with_reducible repeat (first | refine blk_drewN ?_ _ | refine blk_drew ?_ | refine blk_alloc ?_ _)); exact BK372.out⟩, ⟨by (with_reducible repeat (first | refine blk_drewN ?_ _ | refine blk_drew ?_ | refine blk_alloc ?_ _)); exact BK380.out⟩, ⟨by repeat (first | (with_reducible first | exact HB.out | apply below_alloc | apply pw_below_drewN | apply below_drew1 | refine below_set ?_ GE372.out | refine below_set ?_ GE380.out) | exact HB.out)⟩⟩
              · rw [if_neg c29] at H
                have c29b0 : (t382 == 0) = false := beq_eq_false_iff_ne.mpr c29
                have c29b1 : (t382 != 0) = true := bne_iff_ne.mpr c29
                obtain rfl := Option.some.inj H
                have hnb33 := NB380_372.out
                have hnc33 := NB372_380.out
                have hcz34_0 : wc.cell? ⟨gb380, 0, none⟩ = some (.int .u64 t374) := (blk_cell BK380.out 0).trans rfl
                have hcz34_1 : wc.cell? ⟨gb380, 1, none⟩ = some (.int .u64 t375) := (blk_cell BK380.out 1).trans rfl
                have hcz34_2 : wc.cell? ⟨gb380, 2, none⟩ = some (.slice Ao19 t376.length co19) := (blk_cell BK380.out 2).trans rfl
                have hcz34_3 : wc.cell? ⟨gb380, 3, none⟩ = some (.int .i64 t379) := (blk_cell BK380.out 3).trans rfl
                have hfz34_0 := blk_frozen BK380.out 0
                have hfz34_1 := blk_frozen BK380.out 1
                have hfz34_2 := blk_frozen BK380.out 2
                have hfz34_3 := blk_frozen BK380.out 3
                go_wp2_with (first | ((with_reducible refine gate_callee (f := 33) rfl ?_); refine goesL_ (some 42) rfl rfl Try.func33 (by kernel_rfl) rfl #[.agg #[.int .u64 t374, .int .u64 t375, .slice Ao19 t376.length co19, .int .i64 t379], .int .i64 a3] rfl (by (try simp only [List.map_toArray, List.map_cons, List.map_nil]); first | done | rfl | (simp only [List.length_drop, List.length_take]; rfl)) ?_; (with_reducible refine (psalteryref05_Get.calls t374 t375 _ _ t376 t379 a3 t383 _ ?side1 ?side2 A27.out).mono ?_); (case side1 => repeat (first | exact (Kd.V_reads' HO_381002.out).2.2 | (with_reducible refine Kd.C_alloc ?_ _) | (with_reducible refine Kd.C_drewN ?_ _) | (with_reducible refine Kd.C_drew ?_))); (case side2 => exact (Kd.V_reads' HO_381002.out).2.1); rintro e w35 ⟨rfl, hb⟩; refine ⟨_, rfl, ?_⟩; have n0_ := Aside0.mk (Kd.V_below (by (with_reducible repeat (first | apply Kd.V_alloc | apply Kd.V_drewN | apply Kd.V_drew)); exact HO_381002.out) hb); have n1_ := Aside0.mk (blk_below (g := gb372) (o := .cells #[.int .u64 a0_0, .int .u32 a0_1, .slice A0_2 l0_2.length c0_2, .int .i64 a0_3] 43 (0, 0)) (by (with_reducible repeat (first | refine blk_drewN ?_ _ | refine blk_drew ?_ | refine blk_alloc ?_ _)); exact BK372.out) hb); have n2_ := Aside0.mk (blk_below (g := gb380) (o := .cells #[.int .u64 t374, .int .u64 t375, .slice Ao19 t376.length co19, .int .i64 t379] 46 (0, 0)) (by (with_reducible repeat (first | refine blk_drewN ?_ _ | refine blk_drew ?_ | refine blk_alloc ?_ _)); exact BK380.out) hb); have n3_ := Aside0.mk (below_step (by repeat (first | (with_reducible first | exact HB.out | apply below_alloc | apply pw_below_drewN | apply below_drew1 | refine below_set ?_ GE372.out | refine below_set ?_ GE380.out) | exact HB.out)) hb); clear HO_381002; clear BK372; clear BK380; clear HB; have HO_381002 := n0_; have BK372 := n1_; have BK380 := n2_; have HB := n3_; clear n0_ n1_ n2_ n3_; (try clear hb); (try clear hb2); (try clear hk); (try clear hi)))
                go_ret
                exact ⟨by first | rfl | (simp [errW_none, errW_some] <;> rfl) | (simp [*, errW_none, errW_some] <;> rfl), by repeat (first | (with_reducible first | exact HB.out | apply below_alloc | apply pw_below_drewN | apply below_drew1 | refine below_set ?_ GE372.out | refine below_set ?_ GE380.out) | exact HB.out)⟩
            · rw [if_neg c28] at H
              have c28b0 : (t381 == t383) = false := beq_eq_false_iff_ne.mpr c28
              have c28b1 : (t381 != t383) = true := bne_iff_ne.mpr c28
              obtain rfl := Option.some.inj H
              have hnb36 := NB380_372.out
              have hnc36 := NB372_380.out
              have hcz37_0 : wc.cell? ⟨gb380, 0, none⟩ = some (.int .u64 t374) := (blk_cell BK380.out 0).trans rfl
              have hcz37_1 : wc.cell? ⟨gb380, 1, none⟩ = some (.int .u64 t375) := (blk_cell BK380.out 1).trans rfl
              have hcz37_2 : wc.cell? ⟨gb380, 2, none⟩ = some (.slice Ao19 t376.length co19) := (blk_cell BK380.out 2).trans rfl
              have hcz37_3 : wc.cell? ⟨gb380, 3, none⟩ = some (.int .i64 t379) := (blk_cell BK380.out 3).trans rfl
              have hfz37_0 := blk_frozen BK380.out 0
              have hfz37_1 := blk_frozen BK380.out 1
              have hfz37_2 := blk_frozen BK380.out 2
              have hfz37_3 := blk_frozen BK380.out 3
              go_wp2_with (first | ((with_reducible refine gate_callee (f := 33) rfl ?_); refine goesL_ (some 42) rfl rfl Try.func33 (by kernel_rfl) rfl #[.agg #[.int .u64 t374, .int .u64 t375, .slice Ao19 t376.length co19, .int .i64 t379], .int .i64 a3] rfl (by (try simp only [List.map_toArray, List.map_cons, List.map_nil]); first | done | rfl | (simp only [List.length_drop, List.length_take]; rfl)) ?_; (with_reducible refine (psalteryref05_Get.calls t374 t375 _ _ t376 t379 a3 t383 _ ?side1 ?side2 A27.out).mono ?_); (case side1 => repeat (first | exact (Kd.V_reads' HO_381002.out).2.2 | (with_reducible refine Kd.C_alloc ?_ _) | (with_reducible refine Kd.C_drewN ?_ _) | (with_reducible refine Kd.C_drew ?_))); (case side2 => exact (Kd.V_reads' HO_381002.out).2.1); rintro e w38 ⟨rfl, hb⟩; refine ⟨_, rfl, ?_⟩; have n0_ := Aside0.mk (Kd.V_below (by (with_reducible repeat (first | apply Kd.V_alloc | apply Kd.V_drewN | apply Kd.V_drew)); exact HO_381002.out) hb); have n1_ := Aside0.mk (blk_below (g := gb372) (o := .cells #[.int .u64 a0_0, .int .u32 a0_1, .slice A0_2 l0_2.length c0_2, .int .i64 a0_3] 43 (0, 0)) (by (with_reducible repeat (first | refine blk_drewN ?_ _ | refine blk_drew ?_ | refine blk_alloc ?_ _)); exact BK372.out) hb); have n2_ := Aside0.mk (blk_below (g := gb380) (o := .cells #[.int .u64 t374, .int .u64 t375, .slice Ao19 t376.length co19, .int .i64 t379] 46 (0, 0)) (by (with_reducible repeat (first | refine blk_drewN ?_ _ | refine blk_drew ?_ | refine blk_alloc ?_ _)); exact BK380.out) hb); have n3_ := Aside0.mk (below_step (by repeat (first | (with_reducible first | exact HB.out | apply below_alloc | apply pw_below_drewN | apply below_drew1 | refine below_set ?_ GE372.out | refine below_set ?_ GE380.out) | exact HB.out)) hb); clear HO_381002; clear BK372; clear BK380; clear HB; have HO_381002 := n0_; have BK372 := n1_; have BK380 := n2_; have HB := n3_; clear n0_ n1_ n2_ n3_; (try clear hb); (try clear hb2); (try clear hk); (try clear hi)))
              go_ret
              exact ⟨by first | rfl | (simp [errW_none, errW_some] <;> rfl) | (simp [*, errW_none, errW_some] <;> rfl), by repeat (first | (with_reducible first | exact HB.out | apply below_alloc | apply pw_below_drewN | apply below_drew1 | refine below_set ?_ GE372.out | refine below_set ?_ GE380.out) | exact HB.out)⟩
        case rest =>
          clear HC23
          try clear c1
          try clear c2
          try clear p2
          try clear c3
          try clear c5
          try clear c5b0
          try clear c5b1
          try clear c6
          try clear c17
          try clear c22
          try clear c22b0
          try clear c24
          try clear c25
          try clear c25b0
          try clear c25b1
          try clear c26
          try clear c26b0
          try clear c26b1
          try clear c28
          try clear c28b0
          try clear c28b1
          try clear c29
          try clear c29b0
          try clear c29b1
          try clear c30
          try clear c31
          try clear c32
          try clear c33
          try clear c36
          try clear hcz14_0
          try clear hcz14_1
          try clear hcz14_2
          try clear hcz14_3
          try clear hcz18_0
          try clear hcz18_1
          try clear hcz18_2
          try clear hcz18_3
          try clear hcz20_0
          try clear hcz20_1
          try clear hcz20_2
          try clear hcz20_3
          try clear hcz31_0
          try clear hcz31_1
          try clear hcz31_2
          try clear hcz31_3
          try clear hcz34_0
          try clear hcz34_1
          try clear hcz34_2
          try clear hcz34_3
          try clear hcz37_0
          try clear hcz37_1
          try clear hcz37_2
          try clear hcz37_3
          try clear hcz8_0
          try clear hcz8_1
          try clear hcz8_2
          try clear hcz8_3
          try clear hfz14_0
          try clear hfz14_1
          try clear hfz14_2
          try clear hfz14_3
          try clear hfz18_0
          try clear hfz18_1
          try clear hfz18_2
          try clear hfz18_3
          try clear hfz20_0
          try clear hfz20_1
          try clear hfz20_2
          try clear hfz20_3
          try clear hfz31_0
          try clear hfz31_1
          try clear hfz31_2
          try clear hfz31_3
          try clear hfz34_0
          try clear hfz34_1
          try clear hfz34_2
          try clear hfz34_3
          try clear hfz37_0
          try clear hfz37_1
          try clear hfz37_2
          try clear hfz37_3
          try clear hfz8_0
          try clear hfz8_1
          try clear hfz8_2
          try clear hfz8_3
          try clear p2
          obtain ⟨kq, HA, HJ22, HO_381002, BK372, BK380, HB⟩ := hcut
          cases kq with
          | zero => exact absurd HA.out (by simp [psalterylaw05_CoderTakes.j1])
          | succ kj22 =>
            have H := HA.out
            clear HA
            simp only [psalterylaw05_CoderTakes.j1] at H
            replace H := Option.bind_eq_some_iff.mp H
            obtain ⟨⟨t384, t385, t386, t389, t390⟩, A390, H⟩ := H
            replace H : ((psalteryref05_Fair.f a1 a2 a3).bind fun t392 => (if t392 = true then (if t390 = 0 then ((psalteryref05_Take.f kj22 t374 t375 t376 t379 a1 a2 a3).bind fun bt395 => ((psalterylaw05_SameDec.f t384 t385 t386 t389 bt395.1 bt395.2.1 bt395.2.2.1 bt395.2.2.2).bind fun t401 => (if t401 = true then ((coder_RightDec.f t384 t385 t386 t389).bind fun t402 => (if t402 = true then ((psalterylaw05_knows.f kj22).bind fun t403 => (some t403)) else (some false))) else (some false)))) else (some false)) else (if t390 = 1 then ((psalterylaw05_SameDec.f t384 t385 t386 t389 t374 t375 t376 t379).bind fun t393 => (if t393 = true then ((psalterylaw05_knows.f kj22).bind fun t394 => (some t394)) else (some false))) else (some false)))) = some r := H
            have A39 := Aside0.mk A390
            clear A390
            replace H := Option.bind_eq_some_iff.mp H
            obtain ⟨t392, A400, H⟩ := H
            replace H : (if t392 = true then (if t390 = 0 then ((psalteryref05_Take.f kj22 t374 t375 t376 t379 a1 a2 a3).bind fun bt395 => ((psalterylaw05_SameDec.f t384 t385 t386 t389 bt395.1 bt395.2.1 bt395.2.2.1 bt395.2.2.2).bind fun t401 => (if t401 = true then ((coder_RightDec.f t384 t385 t386 t389).bind fun t402 => (if t402 = true then ((psalterylaw05_knows.f kj22).bind fun t403 => (some t403)) else (some false))) else (some false)))) else (some false)) else (if t390 = 1 then ((psalterylaw05_SameDec.f t384 t385 t386 t389 t374 t375 t376 t379).bind fun t393 => (if t393 = true then ((psalterylaw05_knows.f kj22).bind fun t394 => (some t394)) else (some false))) else (some false))) = some r := H
            have A40 := Aside0.mk A400
            clear A400
            by_cases c41 : t392 = true
            · subst c41
              have H1 : (if t390 = 0 then ((psalteryref05_Take.f kj22 t374 t375 t376 t379 a1 a2 a3).bind fun bt395 => ((psalterylaw05_SameDec.f t384 t385 t386 t389 bt395.1 bt395.2.1 bt395.2.2.1 bt395.2.2.2).bind fun t401 => (if t401 = true then ((coder_RightDec.f t384 t385 t386 t389).bind fun t402 => (if t402 = true then ((psalterylaw05_knows.f kj22).bind fun t403 => (some t403)) else (some false))) else (some false)))) else (some false)) = some r := by rw [if_pos rfl] at H; exact H
              clear H
              have H := H1
              clear H1
              by_cases c42 : t390 = 0
              · rw [if_pos c42] at H
                have c42b0 : (t390 == 0) = true := beq_iff_eq.mpr c42
                have c42b1 : (t390 != 0) = false := bne_eq_false_iff_eq.mpr c42
                clear c42
                replace H := Option.bind_eq_some_iff.mp H
                obtain ⟨⟨t395, t396, t397, t400⟩, A430, H⟩ := H
                replace H : ((psalterylaw05_SameDec.f t384 t385 t386 t389 t395 t396 t397 t400).bind fun t401 => (if t401 = true then ((coder_RightDec.f t384 t385 t386 t389).bind fun t402 => (if t402 = true then ((psalterylaw05_knows.f kj22).bind fun t403 => (some t403)) else (some false))) else (some false))) = some r := H
                have A43 := Aside0.mk A430
                clear A430
                replace H := Option.bind_eq_some_iff.mp H
                obtain ⟨t401, A440, H⟩ := H
                replace H : (if t401 = true then ((coder_RightDec.f t384 t385 t386 t389).bind fun t402 => (if t402 = true then ((psalterylaw05_knows.f kj22).bind fun t403 => (some t403)) else (some false))) else (some false)) = some r := H
                have A44 := Aside0.mk A440
                clear A440
                by_cases c45 : t401 = true
                · subst c45
                  have H1 : ((coder_RightDec.f t384 t385 t386 t389).bind fun t402 => (if t402 = true then ((psalterylaw05_knows.f kj22).bind fun t403 => (some t403)) else (some false))) = some r := by rw [if_pos rfl] at H; exact H
                  clear H
                  have H := H1
                  clear H1
                  replace H := Option.bind_eq_some_iff.mp H
                  obtain ⟨t402, A460, H⟩ := H
                  replace H : (if t402 = true then ((psalterylaw05_knows.f kj22).bind fun t403 => (some t403)) else (some false)) = some r := H
                  have A46 := Aside0.mk A460
                  clear A460
                  by_cases c47 : t402 = true
                  · subst c47
                    have H1 : ((psalterylaw05_knows.f kj22).bind fun t403 => (some t403)) = some r := by rw [if_pos rfl] at H; exact H
                    clear H
                    have H := H1
                    clear H1
                    replace H := Option.bind_eq_some_iff.mp H
                    obtain ⟨t403, A480, H⟩ := H
                    replace H : (some t403) = some r := H
                    have A48 := Aside0.mk A480
                    clear A480
                    obtain rfl := Option.some.inj H
                    have hnb49 := NB372_380.out
                    have hnc49 := NB380_372.out
                    have hcz50_0 : wc.cell? ⟨gb372, 0, none⟩ = some (.int .u64 a0_0) := (blk_cell BK372.out 0).trans rfl
                    have hcz50_1 : wc.cell? ⟨gb372, 1, none⟩ = some (.int .u32 a0_1) := (blk_cell BK372.out 1).trans rfl
                    have hcz50_2 : wc.cell? ⟨gb372, 2, none⟩ = some (.slice A0_2 l0_2.length c0_2) := (blk_cell BK372.out 2).trans rfl
                    have hcz50_3 : wc.cell? ⟨gb372, 3, none⟩ = some (.int .i64 a0_3) := (blk_cell BK372.out 3).trans rfl
                    have hfz50_0 := blk_frozen BK372.out 0
                    have hfz50_1 := blk_frozen BK372.out 1
                    have hfz50_2 := blk_frozen BK372.out 2
                    have hfz50_3 := blk_frozen BK372.out 3
                    try go_wp2_with (first | ((with_reducible refine gate_callee (f := 34) rfl ?_); refine goesL_ (some 53) rfl rfl Try.func34 (by kernel_rfl) rfl #[.agg #[.int .u64 a0_0, .int .u32 a0_1, .slice A0_2 l0_2.length c0_2, .int .i64 a0_3], .int .i64 a1, .int .i64 a2, .int .i64 a3] rfl (by (try simp only [List.map_toArray, List.map_cons, List.map_nil]); first | done | rfl | (simp only [List.length_drop, List.length_take]; rfl)) ?_; (with_reducible refine (coder_Take.calls kj22 a0_0 a0_1 (fun k_ => k_ < w.heap.size) _ _ l0_2 a0_3 a1 a2 a3 t384 t385 t386 t389 t390 _ ?side1 A39.out).mono ?_); (case side1 => exact Kd.V_mk HC0_2.out (Kd.F_below (Kd.C_F (Kd.heap_int .u8) HR0_2.out) (by repeat (first | (with_reducible first | exact HB.out | apply below_alloc | apply pw_below_drewN | apply below_drew1 | refine below_set ?_ GE372.out | refine below_set ?_ GE380.out) | exact HB.out)))); rintro e w51 ⟨v387, rfl, ho0, hb⟩; refine ⟨_, rfl, ?_⟩; have n0_ := Aside0.mk (Kd.V_below (by (with_reducible repeat (first | apply Kd.V_alloc | apply Kd.V_drewN | apply Kd.V_drew)); exact HO_381002.out) hb); have n1_ := Aside0.mk (Kd.V_lower (Kd.V_mono (ok' := fun k_ => k_ ≠ gb372 ∧ k_ ≠ gb380) ho0 (fun k_ hk_ => ⟨Or.elim hk_ (fun hs_ => fun e_ => Nat.not_le.2 hs_ (by rw [e_]; exact GW372.out)) (fun hn_ => (Kd.freshB (g := gb372) (o := .cells #[.int .u64 a0_0, .int .u32 a0_1, .slice A0_2 l0_2.length c0_2, .int .i64 a0_3] 43 (0, 0)) (by (with_reducible repeat (first | refine blk_drewN ?_ _ | refine blk_drew ?_ | refine blk_alloc ?_ _)); exact BK372.out) k_ hn_)), Or.elim hk_ (fun hs_ => fun e_ => Nat.not_le.2 hs_ (by rw [e_]; exact GW380.out)) (fun hn_ => (Kd.freshB (g := gb380) (o := .cells #[.int .u64 t374, .int .u64 t375, .slice Ao19 t376.length co19, .int .i64 t379] 46 (0, 0)) (by (with_reducible repeat (first | refine blk_drewN ?_ _ | refine blk_drew ?_ | refine blk_alloc ?_ _)); exact BK380.out) k_ hn_))⟩)) (below_size (by repeat (first | (with_reducible first | exact HB.out | apply below_alloc | apply pw_below_drewN | apply below_drew1 | refine below_set ?_ GE372.out | refine below_set ?_ GE380.out) | exact HB.out)))); have n2_ := Aside0.mk (blk_below (g := gb372) (o := .cells #[.int .u64 a0_0, .int .u32 a0_1, .slice A0_2 l0_2.length c0_2, .int .i64 a0_3] 43 (0, 0)) (by (with_reducible repeat (first | refine blk_drewN ?_ _ | refine blk_drew ?_ | refine blk_alloc ?_ _)); exact BK372.out) hb); have n3_ := Aside0.mk (blk_below (g := gb380) (o := .cells #[.int .u64 t374, .int .u64 t375, .slice Ao19 t376.length co19, .int .i64 t379] 46 (0, 0)) (by (with_reducible repeat (first | refine blk_drewN ?_ _ | refine blk_drew ?_ | refine blk_alloc ?_ _)); exact BK380.out) hb); have n4_ := Aside0.mk (below_step (by repeat (first | (with_reducible first | exact HB.out | apply below_alloc | apply pw_below_drewN | apply below_drew1 | refine below_set ?_ GE372.out | refine below_set ?_ GE380.out) | exact HB.out)) hb); clear HO_381002; clear BK372; clear BK380; clear HB; have HO_381002 := n0_; have HO388 := n1_; have BK372 := n2_; have BK380 := n3_; have HB := n4_; clear n0_ n1_ n2_ n3_ n4_; (try clear hb); (try clear hb2); (try clear hk); (try clear hi); (try clear ho0)) | ((with_reducible refine gate_dst (N := 12) rfl ?_); refine box_event ?hg (N := 12) ?hd (cs := #[.int .u64 0, .int .u32 0, .slice none 0 0, .int .i64 0]) (t := 43) ?hr ?_; (case hd => rfl); (case hg => rfl); (case hr => first | (go_simp; done) | (go_simp; rfl)); intro gb391 hg w52 hbox hb; have n0_ := Aside0.mk (Kd.V_below (Kd.V_elderB (by (with_reducible repeat (first | apply Kd.V_alloc | apply Kd.V_drewN | apply Kd.V_drew)); exact HO_381002.out) gb391 (Nat.le_of_eq hg.symm)) hb); have n1_ := Aside0.mk (Kd.V_below (Kd.V_elderB (by (with_reducible repeat (first | apply Kd.V_alloc | apply Kd.V_drewN | apply Kd.V_drew)); exact HO388.out) gb391 (Nat.le_of_eq hg.symm)) hb); have n2_ := Aside0.mk (blk_below (g := gb372) (o := .cells #[.int .u64 a0_0, .int .u32 a0_1, .slice A0_2 l0_2.length c0_2, .int .i64 a0_3] 43 (0, 0)) (by (with_reducible repeat (first | refine blk_drewN ?_ _ | refine blk_drew ?_ | refine blk_alloc ?_ _)); exact BK372.out) hb); have n3_ := Aside0.mk (blk_below (g := gb380) (o := .cells #[.int .u64 t374, .int .u64 t375, .slice Ao19 t376.length co19, .int .i64 t379] 46 (0, 0)) (by (with_reducible repeat (first | refine blk_drewN ?_ _ | refine blk_drew ?_ | refine blk_alloc ?_ _)); exact BK380.out) hb); have n4_ := Aside0.mk (below_step (by repeat (first | (with_reducible first | exact HB.out | apply below_alloc | apply pw_below_drewN | apply below_drew1 | refine below_set ?_ GE372.out | refine below_set ?_ GE380.out) | exact HB.out)) hb); have n5_ := Aside0.mk (hbox); have n6_ := Aside0.mk ((by rw [hg]; exact (below_size (by repeat (first | (with_reducible first | exact HB.out | apply below_alloc | apply pw_below_drewN | apply below_drew1 | refine below_set ?_ GE372.out | refine below_set ?_ GE380.out) | exact HB.out))) : w.heap.size ≤ gb391)); have n7_ := Aside0.mk ((by rw [hg]; exact (below_size (by repeat (first | (with_reducible first | exact HB.out | apply below_alloc | apply pw_below_drewN | apply below_drew1 | refine below_set ?_ GE372.out | refine below_set ?_ GE380.out) | exact HB.out))) : w.heap.size ≤ gb391)); have n8_ := Aside0.mk ((by rw [hg]; exact Nat.ne_of_lt (blk_lt (g := gb372) (o := .cells #[.int .u64 a0_0, .int .u32 a0_1, .slice A0_2 l0_2.length c0_2, .int .i64 a0_3] 43 (0, 0)) (by (with_reducible repeat (first | refine blk_drewN ?_ _ | refine blk_drew ?_ | refine blk_alloc ?_ _)); exact BK372.out)) : gb372 ≠ gb391)); have n9_ := Aside0.mk ((by rw [hg]; exact Nat.ne_of_gt (blk_lt (g := gb372) (o := .cells #[.int .u64 a0_0, .int .u32 a0_1, .slice A0_2 l0_2.length c0_2, .int .i64 a0_3] 43 (0, 0)) (by (with_reducible repeat (first | refine blk_drewN ?_ _ | refine blk_drew ?_ | refine blk_alloc ?_ _)); exact BK372.out)) : gb391 ≠ gb372)); have n10_ := Aside0.mk ((by rw [hg]; exact Nat.ne_of_lt (blk_lt (g := gb380) (o := .cells #[.int .u64 t374, .int .u64 t375, .slice Ao19 t376.length co19, .int .i64 t379] 46 (0, 0)) (by (with_reducible repeat (first | refine blk_drewN ?_ _ | refine blk_drew ?_ | refine blk_alloc ?_ _)); exact BK380.out)) : gb380 ≠ gb391)); have n11_ := Aside0.mk ((by rw [hg]; exact Nat.ne_of_gt (blk_lt (g := gb380) (o := .cells #[.int .u64 t374, .int .u64 t375, .slice Ao19 t376.length co19, .int .i64 t379] 46 (0, 0)) (by (with_reducible repeat (first | refine blk_drewN ?_ _ | refine blk_drew ?_ | refine blk_alloc ?_ _)); exact BK380.out)) : gb391 ≠ gb380)); clear HO_381002; clear HO388; clear BK372; clear BK380; clear HB; have HO_381002 := n0_; have HO388 := n1_; have BK372 := n2_; have BK380 := n3_; have HB := n4_; have BK391 := n5_; have GW391 := n6_; have GE391 := n7_; have NB372_391 := n8_; have NB391_372 := n9_; have NB380_391 := n10_; have NB391_380 := n11_; clear n0_ n1_ n2_ n3_ n4_ n5_ n6_ n7_ n8_ n9_ n10_ n11_; clear hb hbox hg; have hnb53 := NB391_372.out; have hnc53 := NB372_391.out; have hnb54 := NB391_380.out; have hnc54 := NB380_391.out; have hcz55_0 : w52.cell? ⟨gb391, 0, none⟩ = some (.int .u64 0) := (blk_cell BK391.out 0).trans rfl; have hcz55_1 : w52.cell? ⟨gb391, 1, none⟩ = some (.int .u32 0) := (blk_cell BK391.out 1).trans rfl; have hcz55_2 : w52.cell? ⟨gb391, 2, none⟩ = some (.slice none 0 0) := (blk_cell BK391.out 2).trans rfl; have hcz55_3 : w52.cell? ⟨gb391, 3, none⟩ = some (.int .i64 0) := (blk_cell BK391.out 3).trans rfl; have hfz55_0 := blk_frozen BK391.out 0; have hfz55_1 := blk_frozen BK391.out 1; have hfz55_2 := blk_frozen BK391.out 2; have hfz55_3 := blk_frozen BK391.out 3; obtain ⟨Ao56, co56, eo56⟩ := Kd.V_slice HO388.out; subst eo56) | ((with_reducible refine gate_callee (f := 35) rfl ?_); refine goesL_ (some 59) rfl rfl Try.func35 (by kernel_rfl) rfl #[.int .i64 a1, .int .i64 a2, .int .i64 a3] rfl (by (try simp only [List.map_toArray, List.map_cons, List.map_nil]); first | done | rfl | (simp only [List.length_drop, List.length_take]; rfl)) ?_; (with_reducible refine (psalteryref05_Fair.calls a1 a2 a3 true _ A40.out).mono ?_); rintro e w' ⟨rfl, ⟨nd, rfl⟩⟩; refine ⟨_, rfl, ?_⟩))
                    have n0_ : Aside0 (Kd.V (Kd.int .u8) 5 ((((w52.setCell ⟨gb391, 0, none⟩ (.int .u64 t384)).setCell ⟨gb391, 1, none⟩ (.int .u32 t385)).setCell ⟨gb391, 2, none⟩ (.slice Ao56 t386.length co56)).setCell ⟨gb391, 3, none⟩ (.int .i64 t389)) w.heap.size (fun k_ => k_ ≠ gb372 ∧ k_ ≠ gb380 ∧ k_ ≠ gb391) (.slice Ao19 t376.length co19) t376) := ⟨by (with_reducible repeat (first | apply Kd.V_alloc | apply Kd.V_drewN | apply Kd.V_drew)); exact Kd.V_mono (Kd.V_far (p := ⟨gb391, 3, none⟩) (Kd.V_far (p := ⟨gb391, 2, none⟩) (Kd.V_far (p := ⟨gb391, 1, none⟩) (Kd.V_far (p := ⟨gb391, 0, none⟩) (Kd.V_mono HO_381002.out (fun k_ hk => (⟨hk, hk.2⟩ : _ ∧ k_ ≠ gb391))) (fun _ hk => hk.2) (.int .u64 t384)) (fun _ hk => hk.2) (.int .u32 t385)) (fun _ hk => hk.2) (.slice Ao56 t386.length co56)) (fun _ hk => hk.2) (.int .i64 t389)) (fun _ hk => ⟨hk.1.1.1, ⟨hk.1.1.2, hk.1.2⟩⟩)⟩
                    have n1_ : Aside0 (Kd.V (Kd.int .u8) 5 ((((w52.setCell ⟨gb391, 0, none⟩ (.int .u64 t384)).setCell ⟨gb391, 1, none⟩ (.int .u32 t385)).setCell ⟨gb391, 2, none⟩ (.slice Ao56 t386.length co56)).setCell ⟨gb391, 3, none⟩ (.int .i64 t389)) w.heap.size (fun k_ => k_ ≠ gb372 ∧ k_ ≠ gb380 ∧ k_ ≠ gb391) (.slice Ao56 t386.length co56) t386) := ⟨by (with_reducible repeat (first | apply Kd.V_alloc | apply Kd.V_drewN | apply Kd.V_drew)); exact Kd.V_mono (Kd.V_far (p := ⟨gb391, 3, none⟩) (Kd.V_far (p := ⟨gb391, 2, none⟩) (Kd.V_far (p := ⟨gb391, 1, none⟩) (Kd.V_far (p := ⟨gb391, 0, none⟩) (Kd.V_mono HO388.out (fun k_ hk => (⟨hk, hk.2⟩ : _ ∧ k_ ≠ gb391))) (fun _ hk => hk.2) (.int .u64 t384)) (fun _ hk => hk.2) (.int .u32 t385)) (fun _ hk => hk.2) (.slice Ao56 t386.length co56)) (fun _ hk => hk.2) (.int .i64 t389)) (fun _ hk => ⟨hk.1.1.1, ⟨hk.1.1.2, hk.1.2⟩⟩)⟩
                    have n2_ : Aside0 (((((w52.setCell ⟨gb391, 0, none⟩ (.int .u64 t384)).setCell ⟨gb391, 1, none⟩ (.int .u32 t385)).setCell ⟨gb391, 2, none⟩ (.slice Ao56 t386.length co56)).setCell ⟨gb391, 3, none⟩ (.int .i64 t389)).heap[gb372]? = some (.cells #[.int .u64 a0_0, .int .u32 a0_1, .slice A0_2 l0_2.length c0_2, .int .i64 a0_3] 43 (0, 0))) := ⟨by (with_reducible repeat (first | refine blk_drewN ?_ _ | refine blk_drew ?_ | refine blk_alloc ?_ _)); refine blk_far ?_ NB372_391.out _; (with_reducible repeat (first | refine blk_drewN ?_ _ | refine blk_drew ?_ | refine blk_alloc ?_ _)); refine blk_far ?_ NB372_391.out _; (with_reducible repeat (first | refine blk_drewN ?_ _ | refine blk_drew ?_ | refine blk_alloc ?_ _)); refine blk_far ?_ NB372_391.out _; (with_reducible repeat (first | refine blk_drewN ?_ _ | refine blk_drew ?_ | refine blk_alloc ?_ _)); refine blk_far ?_ NB372_391.out _; (with_reducible repeat (first | refine blk_drewN ?_ _ | refine blk_drew ?_ | refine blk_alloc ?_ _)); exact BK372.out⟩
                    have n3_ : Aside0 (((((w52.setCell ⟨gb391, 0, none⟩ (.int .u64 t384)).setCell ⟨gb391, 1, none⟩ (.int .u32 t385)).setCell ⟨gb391, 2, none⟩ (.slice Ao56 t386.length co56)).setCell ⟨gb391, 3, none⟩ (.int .i64 t389)).heap[gb380]? = some (.cells #[.int .u64 t374, .int .u64 t375, .slice Ao19 t376.length co19, .int .i64 t379] 46 (0, 0))) := ⟨by (with_reducible repeat (first | refine blk_drewN ?_ _ | refine blk_drew ?_ | refine blk_alloc ?_ _)); refine blk_far ?_ NB380_391.out _; (with_reducible repeat (first | refine blk_drewN ?_ _ | refine blk_drew ?_ | refine blk_alloc ?_ _)); refine blk_far ?_ NB380_391.out _; (with_reducible repeat (first | refine blk_drewN ?_ _ | refine blk_drew ?_ | refine blk_alloc ?_ _)); refine blk_far ?_ NB380_391.out _; (with_reducible repeat (first | refine blk_drewN ?_ _ | refine blk_drew ?_ | refine blk_alloc ?_ _)); refine blk_far ?_ NB380_391.out _; (with_reducible repeat (first | refine blk_drewN ?_ _ | refine blk_drew ?_ | refine blk_alloc ?_ _)); exact BK380.out⟩
                    have n4_ : Aside0 (((((w52.setCell ⟨gb391, 0, none⟩ (.int .u64 t384)).setCell ⟨gb391, 1, none⟩ (.int .u32 t385)).setCell ⟨gb391, 2, none⟩ (.slice Ao56 t386.length co56)).setCell ⟨gb391, 3, none⟩ (.int .i64 t389)).heap[gb391]? = some (.cells #[.int .u64 t384, .int .u32 t385, .slice Ao56 t386.length co56, .int .i64 t389] 43 (0, 0))) := ⟨by (with_reducible repeat (first | refine blk_drewN ?_ _ | refine blk_drew ?_ | refine blk_alloc ?_ _)); refine blk_put (cs := #[.int .u64 t384, .int .u32 t385, .slice Ao56 t386.length co56, .int .i64 0]) ?_ 3 _ rfl; (with_reducible repeat (first | refine blk_drewN ?_ _ | refine blk_drew ?_ | refine blk_alloc ?_ _)); refine blk_put (cs := #[.int .u64 t384, .int .u32 t385, .slice none 0 0, .int .i64 0]) ?_ 2 _ rfl; (with_reducible repeat (first | refine blk_drewN ?_ _ | refine blk_drew ?_ | refine blk_alloc ?_ _)); refine blk_put (cs := #[.int .u64 t384, .int .u32 0, .slice none 0 0, .int .i64 0]) ?_ 1 _ rfl; (with_reducible repeat (first | refine blk_drewN ?_ _ | refine blk_drew ?_ | refine blk_alloc ?_ _)); refine blk_put (cs := #[.int .u64 0, .int .u32 0, .slice none 0 0, .int .i64 0]) ?_ 0 _ rfl; (with_reducible repeat (first | refine blk_drewN ?_ _ | refine blk_drew ?_ | refine blk_alloc ?_ _)); exact BK391.out⟩
                    have n5_ : Aside0 (Below w.heap.size w ((((w52.setCell ⟨gb391, 0, none⟩ (.int .u64 t384)).setCell ⟨gb391, 1, none⟩ (.int .u32 t385)).setCell ⟨gb391, 2, none⟩ (.slice Ao56 t386.length co56)).setCell ⟨gb391, 3, none⟩ (.int .i64 t389))) := ⟨by repeat (first | (with_reducible first | exact HB.out | apply below_alloc | apply pw_below_drewN | apply below_drew1 | refine below_set ?_ GE372.out | refine below_set ?_ GE380.out | refine below_set ?_ GE391.out) | exact HB.out)⟩
                    (try clear HO_381002)
                    (try clear HO388)
                    (try clear BK372)
                    (try clear BK380)
                    (try clear BK391)
                    (try clear HB)
                    generalize ((((w52.setCell ⟨gb391, 0, none⟩ (.int .u64 t384)).setCell ⟨gb391, 1, none⟩ (.int .u32 t385)).setCell ⟨gb391, 2, none⟩ (.slice Ao56 t386.length co56)).setCell ⟨gb391, 3, none⟩ (.int .i64 t389)) = w57 at n0_ n1_ n2_ n3_ n4_ n5_ ⊢
                    have HO_381002 := n0_
                    have HO388 := n1_
                    have BK372 := n2_
                    have BK380 := n3_
                    have BK391 := n4_
                    have HB := n5_
                    clear n0_ n1_ n2_ n3_ n4_ n5_
                    (try (rw [drewN_self w57]; generalize hq_ : World.drewN w57 _ = w57; have n0_ : Aside0 (Kd.V (Kd.int .u8) 5 w57 w.heap.size (fun k_ => k_ ≠ gb372 ∧ k_ ≠ gb380 ∧ k_ ≠ gb391) (.slice Ao56 t386.length co56) t386) := ⟨by rw [← hq_]; exact (by (with_reducible repeat (first | apply Kd.V_alloc | apply Kd.V_drewN | apply Kd.V_drew)); exact HO388.out)⟩; have n1_ : Aside0 (Kd.V (Kd.int .u8) 5 w57 w.heap.size (fun k_ => k_ ≠ gb372 ∧ k_ ≠ gb380 ∧ k_ ≠ gb391) (.slice Ao19 t376.length co19) t376) := ⟨by rw [← hq_]; exact (by (with_reducible repeat (first | apply Kd.V_alloc | apply Kd.V_drewN | apply Kd.V_drew)); exact HO_381002.out)⟩; have n2_ : Aside0 (w57.heap[gb372]? = some (.cells #[.int .u64 a0_0, .int .u32 a0_1, .slice A0_2 l0_2.length c0_2, .int .i64 a0_3] 43 (0, 0))) := ⟨by rw [← hq_]; exact (by (with_reducible repeat (first | refine blk_drewN ?_ _ | refine blk_drew ?_ | refine blk_alloc ?_ _)); exact BK372.out)⟩; have n3_ : Aside0 (w57.heap[gb380]? = some (.cells #[.int .u64 t374, .int .u64 t375, .slice Ao19 t376.length co19, .int .i64 t379] 46 (0, 0))) := ⟨by rw [← hq_]; exact (by (with_reducible repeat (first | refine blk_drewN ?_ _ | refine blk_drew ?_ | refine blk_alloc ?_ _)); exact BK380.out)⟩; have n4_ : Aside0 (w57.heap[gb391]? = some (.cells #[.int .u64 t384, .int .u32 t385, .slice Ao56 t386.length co56, .int .i64 t389] 43 (0, 0))) := ⟨by rw [← hq_]; exact (by (with_reducible repeat (first | refine blk_drewN ?_ _ | refine blk_drew ?_ | refine blk_alloc ?_ _)); exact BK391.out)⟩; have n5_ : Aside0 (Below w.heap.size w w57) := ⟨by rw [← hq_]; exact (by repeat (first | (with_reducible first | exact HB.out | apply below_alloc | apply pw_below_drewN | apply below_drew1 | refine below_set ?_ GE372.out | refine below_set ?_ GE380.out | refine below_set ?_ GE391.out) | exact HB.out))⟩; clear HO388 HO_381002 BK372 BK380 BK391 HB hq_; have HO388 := n0_; have HO_381002 := n1_; have BK372 := n2_; have BK380 := n3_; have BK391 := n4_; have HB := n5_; clear n0_ n1_ n2_ n3_ n4_ n5_))
                    have n0_ := Aside0.mk (Kd.V_drew HO_381002.out)
                    have n1_ := Aside0.mk (Kd.V_drew HO388.out)
                    have n2_ := Aside0.mk (blk_drew BK372.out)
                    have n3_ := Aside0.mk (blk_drew BK380.out)
                    have n4_ := Aside0.mk (blk_drew BK391.out)
                    have n5_ := Aside0.mk (below_drew1 HB.out)
                    clear HO_381002
                    clear HO388
                    clear BK372
                    clear BK380
                    clear BK391
                    clear HB
                    have HO_381002 := n0_
                    have HO388 := n1_
                    have BK372 := n2_
                    have BK380 := n3_
                    have BK391 := n4_
                    have HB := n5_
                    clear n0_ n1_ n2_ n3_ n4_ n5_
                    refine start_ (n := 19) (S := fun w' => w'.cell? ⟨gb391, 0, none⟩ = some (.int .u64 t384) ∧ w'.cell? ⟨gb391, 1, none⟩ = some (.int .u32 t385) ∧ w'.cell? ⟨gb391, 2, none⟩ = some (.slice Ao56 t386.length co56) ∧ w'.cell? ⟨gb391, 3, none⟩ = some (.int .i64 t389) ∧ w'.cell? ⟨gb380, 0, none⟩ = some (.int .u64 t374) ∧ w'.cell? ⟨gb380, 1, none⟩ = some (.int .u64 t375) ∧ w'.cell? ⟨gb380, 2, none⟩ = some (.slice Ao19 t376.length co19) ∧ w'.cell? ⟨gb380, 3, none⟩ = some (.int .i64 t379)) (ds := []) #[false, false, false, false, false, false, false, false, false, false, false, false, false, false, false, false, false, false, false] (by kernel_rfl) rfl rfl ⟨(blk_cell BK391.out 0).trans rfl, (blk_cell BK391.out 1).trans rfl, (blk_cell BK391.out 2).trans rfl, (blk_cell BK391.out 3).trans rfl, (blk_cell BK380.out 0).trans rfl, (blk_cell BK380.out 1).trans rfl, (blk_cell BK380.out 2).trans rfl, (blk_cell BK380.out 3).trans rfl⟩ (fun hHeld => ?_); refine with_tabW psalterylaw05_CoderTakes.tab13 psalterylaw05_CoderTakes.bits13 (fun HT_ HW_ => ?_)
                    generalize w57.drew = w58 at HO_381002 HO388 BK372 BK380 BK391 HB hHeld ⊢
                    refine pure_ (i := 0) (N := some 71) (v := ?_) (a' := ?_) #[true, false, false, false, false, false, false, false, false, false, false, false, false, false, false, false, false, false, false] rfl rfl (any_of HT_.out (by kernel_rfl)) (fun _ _ _ h => h) (Or.inl ⟨by rfl, ?_⟩) ?_ ?_
                    rotate_left
                    · intro w'
                      go_simp
                      with_reducible rfl
                    rotate_left
                    · simp only [Act.put, List.setIfInBounds_toArray, List.set_cons_zero, List.set_cons_succ, i64_w, i32_w]
                      rfl
                    refine pure_ (i := 1) (N := some 72) (v := ?_) (a' := ?_) #[true, true, false, false, false, false, false, false, false, false, false, false, false, false, false, false, false, false, false] rfl rfl (any_of HT_.out (by kernel_rfl)) (fun _ _ _ h => h) (Or.inl ⟨by rfl, ?_⟩) ?_ ?_
                    rotate_left
                    · intro w'
                      go_simp
                      with_reducible rfl
                    rotate_left
                    · simp only [Act.put, List.setIfInBounds_toArray, List.set_cons_zero, List.set_cons_succ, i64_w, i32_w]
                      rfl
                    refine pure_ (i := 2) (N := some 73) (v := ?_) (a' := ?_) #[true, true, true, false, false, false, false, false, false, false, false, false, false, false, false, false, false, false, false] rfl rfl (any_of HT_.out (by kernel_rfl)) (fun _ _ _ h => h) (Or.inl ⟨by rfl, ?_⟩) ?_ ?_
                    rotate_left
                    · intro w'
                      go_simp
                      with_reducible rfl
                    rotate_left
                    · simp only [Act.put, List.setIfInBounds_toArray, List.set_cons_zero, List.set_cons_succ, i64_w, i32_w]
                      rfl
                    refine pure_ (i := 5) (N := some 76) (v := ?_) (a' := ?_) #[true, true, true, false, false, true, false, false, false, false, false, false, false, false, false, false, false, false, false] rfl rfl (any_of HT_.out (by kernel_rfl)) (fun _ _ _ h => h) (Or.inl ⟨by rfl, ?_⟩) ?_ ?_
                    rotate_left
                    · intro w'
                      go_simp
                      with_reducible rfl
                    rotate_left
                    · simp only [Act.put, List.setIfInBounds_toArray, List.set_cons_zero, List.set_cons_succ, i64_w, i32_w]
                      rfl
                    refine pure_ (i := 6) (N := some 77) (v := ?_) (a' := ?_) #[true, true, true, false, false, true, true, false, false, false, false, false, false, false, false, false, false, false, false] rfl rfl (any_of HT_.out (by kernel_rfl)) (fun _ _ _ h => h) (Or.inl ⟨by rfl, ?_⟩) ?_ ?_
                    rotate_left
                    · intro w'
                      go_simp
                      with_reducible rfl
                    rotate_left
                    · simp only [Act.put, List.setIfInBounds_toArray, List.set_cons_zero, List.set_cons_succ, i64_w, i32_w]
                      rfl
                    refine pure_ (i := 7) (N := some 78) (v := ?_) (a' := ?_) #[true, true, true, false, false, true, true, true, false, false, false, false, false, false, false, false, false, false, false] rfl rfl (any_of HT_.out (by kernel_rfl)) (fun _ _ _ h => h) (Or.inl ⟨by rfl, ?_⟩) ?_ ?_
                    rotate_left
                    · intro w'
                      go_simp
                      with_reducible rfl
                    rotate_left
                    · simp only [Act.put, List.setIfInBounds_toArray, List.set_cons_zero, List.set_cons_succ, i64_w, i32_w]
                      rfl
                    refine take_ (i := 3) (N := some 74) (v := ?_) (a' := ?_) #[true, true, true, true, false, true, true, true, false, false, false, false, false, false, false, false, false, false, false] rfl rfl (take_ofW HT_.out HW_.out (by kernel_rfl)) (fun _ _ _ h => h) (Or.inl ⟨by rfl, ?_⟩) hHeld ?_ ?_
                    rotate_left
                    · rintro w' ⟨s0, s1, s2, s3, s4, s5, s6, s7⟩
                      go_simp
                      with_reducible rfl
                    rotate_left
                    · simp only [Act.put, List.setIfInBounds_toArray, List.set_cons_zero, List.set_cons_succ, i64_w, i32_w]
                      rfl
                    refine take_ (i := 4) (N := some 75) (v := ?_) (a' := ?_) #[true, true, true, true, true, true, true, true, false, false, false, false, false, false, false, false, false, false, false] rfl rfl (take_ofW HT_.out HW_.out (by kernel_rfl)) (fun _ _ _ h => h) (Or.inl ⟨by rfl, ?_⟩) hHeld ?_ ?_
                    rotate_left
                    · rintro w' ⟨s0, s1, s2, s3, s4, s5, s6, s7⟩
                      go_simp
                      with_reducible rfl
                    rotate_left
                    · simp only [Act.put, List.setIfInBounds_toArray, List.set_cons_zero, List.set_cons_succ, i64_w, i32_w]
                      rfl
                    refine one_ (i := 8) (N := some 79) #[true, true, true, true, true, true, true, true, true, false, false, false, false, false, false, false, false, false, false] rfl rfl (one_of HT_.out (by kernel_rfl)) (by decide) (fun K hK => ?_)
                    refine goes_ Try.func36 (by kernel_rfl) rfl #[.agg #[.int .u64 t374, .int .u64 t375, .slice Ao19 t376.length co19, .int .i64 t379], .int .i64 a1, .int .i64 a2, .int .i64 a3] (by rfl) rfl rfl (by (try simp only [List.map_toArray, List.map_cons, List.map_nil]); first | done | rfl | (simp only [List.length_drop, List.length_take]; rfl)) ?_
                    with_reducible refine (psalteryref05_Take.calls kj22 t374 t375 (fun k_ => (k_ ≠ gb372 ∧ (k_ ≠ gb380 ∧ k_ ≠ gb391))) _ _ t376 t379 a1 a2 a3 t395 t396 t397 t400 _ ?side1 A43.out).mono ?_
                    (case side1 => exact HO_381002.out)
                    rintro e w59 ⟨v398, rfl, ho0, hb⟩
                    refine ⟨_, rfl, ?_⟩
                    have n0_ := Aside0.mk (Kd.V_below (by (with_reducible repeat (first | apply Kd.V_alloc | apply Kd.V_drewN | apply Kd.V_drew)); exact HO_381002.out) hb)
                    have n1_ := Aside0.mk (Kd.V_below (by (with_reducible repeat (first | apply Kd.V_alloc | apply Kd.V_drewN | apply Kd.V_drew)); exact HO388.out) hb)
                    have n2_ := Aside0.mk (Kd.V_lower (Kd.V_mono (ok' := fun k_ => k_ ≠ gb372 ∧ k_ ≠ gb380 ∧ k_ ≠ gb391) ho0 (fun k_ hk_ => ⟨Or.elim hk_ (fun hs_ => hs_.1) (fun hn_ => (Kd.freshB (g := gb372) (o := .cells #[.int .u64 a0_0, .int .u32 a0_1, .slice A0_2 l0_2.length c0_2, .int .i64 a0_3] 43 (0, 0)) (by (with_reducible repeat (first | refine blk_drewN ?_ _ | refine blk_drew ?_ | refine blk_alloc ?_ _)); exact BK372.out) k_ hn_)), Or.elim hk_ (fun hs_ => hs_.2.1) (fun hn_ => (Kd.freshB (g := gb380) (o := .cells #[.int .u64 t374, .int .u64 t375, .slice Ao19 t376.length co19, .int .i64 t379] 46 (0, 0)) (by (with_reducible repeat (first | refine blk_drewN ?_ _ | refine blk_drew ?_ | refine blk_alloc ?_ _)); exact BK380.out) k_ hn_)), Or.elim hk_ (fun hs_ => hs_.2.2) (fun hn_ => (Kd.freshB (g := gb391) (o := .cells #[.int .u64 t384, .int .u32 t385, .slice Ao56 t386.length co56, .int .i64 t389] 43 (0, 0)) (by (with_reducible repeat (first | refine blk_drewN ?_ _ | refine blk_drew ?_ | refine blk_alloc ?_ _)); exact BK391.out) k_ hn_))⟩)) (below_size (by repeat (first | (with_reducible first | exact HB.out | apply below_alloc | apply pw_below_drewN | apply below_drew1 | refine below_set ?_ GE372.out | refine below_set ?_ GE380.out | refine below_set ?_ GE391.out) | exact HB.out))))
                    have n3_ := Aside0.mk (blk_below (g := gb372) (o := .cells #[.int .u64 a0_0, .int .u32 a0_1, .slice A0_2 l0_2.length c0_2, .int .i64 a0_3] 43 (0, 0)) (by (with_reducible repeat (first | refine blk_drewN ?_ _ | refine blk_drew ?_ | refine blk_alloc ?_ _)); exact BK372.out) hb)
                    have n4_ := Aside0.mk (blk_below (g := gb380) (o := .cells #[.int .u64 t374, .int .u64 t375, .slice Ao19 t376.length co19, .int .i64 t379] 46 (0, 0)) (by (with_reducible repeat (first | refine blk_drewN ?_ _ | refine blk_drew ?_ | refine blk_alloc ?_ _)); exact BK380.out) hb)
                    have n5_ := Aside0.mk (blk_below (g := gb391) (o := .cells #[.int .u64 t384, .int .u32 t385, .slice Ao56 t386.length co56, .int .i64 t389] 43 (0, 0)) (by (with_reducible repeat (first | refine blk_drewN ?_ _ | refine blk_drew ?_ | refine blk_alloc ?_ _)); exact BK391.out) hb)
                    have n6_ := Aside0.mk (below_step (by repeat (first | (with_reducible first | exact HB.out | apply below_alloc | apply pw_below_drewN | apply below_drew1 | refine below_set ?_ GE372.out | refine below_set ?_ GE380.out | refine below_set ?_ GE391.out) | exact HB.out)) hb)
                    clear HO_381002
                    clear HO388
                    clear BK372
                    clear BK380
                    clear BK391
                    clear HB
                    have HO_381002 := n0_
                    have HO388 := n1_
                    have HO399 := n2_
                    have BK372 := n3_
                    have BK380 := n4_
                    have BK391 := n5_
                    have HB := n6_
                    clear n0_ n1_ n2_ n3_ n4_ n5_ n6_
                    (try clear hb)
                    (try clear hb2)
                    (try clear hk)
                    (try clear hi)
                    (try clear ho0)
                    obtain ⟨Ao60, co60, eo60⟩ := Kd.V_slice HO399.out
                    (first | subst eo60 | (injection eo60 with f1_ f2_ f3_; have f4_ := f1_.symm; have f5_ := f3_.symm; clear f1_ f2_ f3_; subst f4_; subst f5_))
                    refine hK.out _ _ ⟨(blk_cell BK391.out 0).trans rfl, (blk_cell BK391.out 1).trans rfl, (blk_cell BK391.out 2).trans rfl, (blk_cell BK391.out 3).trans rfl, (blk_cell BK380.out 0).trans rfl, (blk_cell BK380.out 1).trans rfl, (blk_cell BK380.out 2).trans rfl, (blk_cell BK380.out 3).trans rfl⟩ (fun hHeld => ?_)
                    clear hK K
                    refine norm_ (a' := ?_) ?_ ?_
                    rotate_left
                    · show Act.put _ (some 79) _ = _
                      simp only [Act.put, List.setIfInBounds_toArray, List.set_cons_zero, List.set_cons_succ, i64_w, i32_w]
                      rfl
                    refine one_ (i := 9) (N := some 80) #[true, true, true, true, true, true, true, true, true, true, false, false, false, false, false, false, false, false, false] rfl rfl (one_of HT_.out (by kernel_rfl)) (by decide) (fun K hK => ?_)
                    refine goes_ Try.func25 (by kernel_rfl) rfl #[.agg #[.int .u64 t384, .int .u32 t385, .slice Ao56 t386.length co56, .int .i64 t389], .agg #[.int .u64 t395, .int .u64 t396, .slice Ao60 t397.length co60, .int .i64 t400]] (by rfl) rfl rfl (by (try simp only [List.map_toArray, List.map_cons, List.map_nil]); first | done | rfl | (simp only [List.length_drop, List.length_take]; rfl)) ?_
                    with_reducible refine (psalterylaw05_SameDec.calls t384 t385 _ _ t386 t389 t395 t396 _ _ t397 t400 true _ ?side1 ?side2 ?side3 ?side4 A44.out).mono ?_
                    (case side1 => repeat (first | exact (Kd.V_reads' HO388.out).2.2 | (with_reducible refine Kd.C_alloc ?_ _) | (with_reducible refine Kd.C_drewN ?_ _) | (with_reducible refine Kd.C_drew ?_)))
                    (case side2 => exact (Kd.V_reads' HO388.out).2.1)
                    (case side3 => repeat (first | exact (Kd.V_reads' HO399.out).2.2 | (with_reducible refine Kd.C_alloc ?_ _) | (with_reducible refine Kd.C_drewN ?_ _) | (with_reducible refine Kd.C_drew ?_)))
                    (case side4 => exact (Kd.V_reads' HO399.out).2.1)
                    rintro e w61 ⟨rfl, hb⟩
                    refine ⟨_, rfl, ?_⟩
                    have n0_ := Aside0.mk (Kd.V_below (by (with_reducible repeat (first | apply Kd.V_alloc | apply Kd.V_drewN | apply Kd.V_drew)); exact HO_381002.out) hb)
                    have n1_ := Aside0.mk (Kd.V_below (by (with_reducible repeat (first | apply Kd.V_alloc | apply Kd.V_drewN | apply Kd.V_drew)); exact HO388.out) hb)
                    have n2_ := Aside0.mk (Kd.V_below (by (with_reducible repeat (first | apply Kd.V_alloc | apply Kd.V_drewN | apply Kd.V_drew)); exact HO399.out) hb)
                    have n3_ := Aside0.mk (blk_below (g := gb372) (o := .cells #[.int .u64 a0_0, .int .u32 a0_1, .slice A0_2 l0_2.length c0_2, .int .i64 a0_3] 43 (0, 0)) (by (with_reducible repeat (first | refine blk_drewN ?_ _ | refine blk_drew ?_ | refine blk_alloc ?_ _)); exact BK372.out) hb)
                    have n4_ := Aside0.mk (blk_below (g := gb380) (o := .cells #[.int .u64 t374, .int .u64 t375, .slice Ao19 t376.length co19, .int .i64 t379] 46 (0, 0)) (by (with_reducible repeat (first | refine blk_drewN ?_ _ | refine blk_drew ?_ | refine blk_alloc ?_ _)); exact BK380.out) hb)
                    have n5_ := Aside0.mk (blk_below (g := gb391) (o := .cells #[.int .u64 t384, .int .u32 t385, .slice Ao56 t386.length co56, .int .i64 t389] 43 (0, 0)) (by (with_reducible repeat (first | refine blk_drewN ?_ _ | refine blk_drew ?_ | refine blk_alloc ?_ _)); exact BK391.out) hb)
                    have n6_ := Aside0.mk (below_step (by repeat (first | (with_reducible first | exact HB.out | apply below_alloc | apply pw_below_drewN | apply below_drew1 | refine below_set ?_ GE372.out | refine below_set ?_ GE380.out | refine below_set ?_ GE391.out) | exact HB.out)) hb)
                    clear HO_381002
                    clear HO388
                    clear HO399
                    clear BK372
                    clear BK380
                    clear BK391
                    clear HB
                    have HO_381002 := n0_
                    have HO388 := n1_
                    have HO399 := n2_
                    have BK372 := n3_
                    have BK380 := n4_
                    have BK391 := n5_
                    have HB := n6_
                    clear n0_ n1_ n2_ n3_ n4_ n5_ n6_
                    (try clear hb)
                    (try clear hb2)
                    (try clear hk)
                    (try clear hi)
                    refine hK.out _ _ ⟨(blk_cell BK391.out 0).trans rfl, (blk_cell BK391.out 1).trans rfl, (blk_cell BK391.out 2).trans rfl, (blk_cell BK391.out 3).trans rfl, (blk_cell BK380.out 0).trans rfl, (blk_cell BK380.out 1).trans rfl, (blk_cell BK380.out 2).trans rfl, (blk_cell BK380.out 3).trans rfl⟩ (fun hHeld => ?_)
                    clear hK K
                    refine norm_ (a' := ?_) ?_ ?_
                    rotate_left
                    · show Act.put _ (some 80) _ = _
                      simp only [Act.put, List.setIfInBounds_toArray, List.set_cons_zero, List.set_cons_succ, i64_w, i32_w]
                      rfl
                    refine pure_ (i := 10) (N := some 81) (v := ?_) (a' := ?_) #[true, true, true, true, true, true, true, true, true, true, true, false, false, false, false, false, false, false, false] rfl rfl (any_of HT_.out (by kernel_rfl)) (fun _ _ _ h => h) (Or.inl ⟨by rfl, ?_⟩) ?_ ?_
                    rotate_left
                    · intro w'
                      go_simp
                      with_reducible rfl
                    rotate_left
                    · simp only [Act.put, List.setIfInBounds_toArray, List.set_cons_zero, List.set_cons_succ, i64_w, i32_w]
                      rfl
                    refine pure_ (i := 11) (N := some 82) (v := ?_) (a' := ?_) #[true, true, true, true, true, true, true, true, true, true, true, true, false, false, false, false, false, false, false] rfl rfl (any_of HT_.out (by kernel_rfl)) (fun _ _ _ h => h) (Or.inl ⟨by rfl, ?_⟩) ?_ ?_
                    rotate_left
                    · intro w'
                      go_simp
                      with_reducible rfl
                    rotate_left
                    · simp only [Act.put, List.setIfInBounds_toArray, List.set_cons_zero, List.set_cons_succ, i64_w, i32_w]
                      rfl
                    refine take_ (i := 12) (N := some 83) (v := ?_) (a' := ?_) #[true, true, true, true, true, true, true, true, true, true, true, true, true, false, false, false, false, false, false] rfl rfl (take_ofW HT_.out HW_.out (by kernel_rfl)) (fun _ _ _ h => h) (Or.inl ⟨by rfl, ?_⟩) hHeld ?_ ?_
                    rotate_left
                    · rintro w' ⟨s0, s1, s2, s3, s4, s5, s6, s7⟩
                      go_simp
                      with_reducible rfl
                    rotate_left
                    · simp only [Act.put, List.setIfInBounds_toArray, List.set_cons_zero, List.set_cons_succ, i64_w, i32_w]
                      rfl
                    refine one_ (i := 13) (N := some 84) #[true, true, true, true, true, true, true, true, true, true, true, true, true, true, false, false, false, false, false] rfl rfl (one_of HT_.out (by kernel_rfl)) (by decide) (fun K hK => ?_)
                    refine goes_ Try.func28 (by kernel_rfl) rfl #[.agg #[.int .u64 t384, .int .u32 t385, .slice Ao56 t386.length co56, .int .i64 t389]] (by rfl) rfl rfl (by (try simp only [List.map_toArray, List.map_cons, List.map_nil]); first | done | rfl | (simp only [List.length_drop, List.length_take]; rfl)) ?_
                    with_reducible refine (coder_RightDec.calls t384 t385 _ _ t386 t389 true _ ?side1 ?side2 A46.out).mono ?_
                    (case side1 => repeat (first | exact (Kd.V_reads' HO388.out).2.2 | (with_reducible refine Kd.C_alloc ?_ _) | (with_reducible refine Kd.C_drewN ?_ _) | (with_reducible refine Kd.C_drew ?_)))
                    (case side2 => exact (Kd.V_reads' HO388.out).2.1)
                    rintro e w62 ⟨rfl, hb⟩
                    refine ⟨_, rfl, ?_⟩
                    have n0_ := Aside0.mk (Kd.V_below (by (with_reducible repeat (first | apply Kd.V_alloc | apply Kd.V_drewN | apply Kd.V_drew)); exact HO_381002.out) hb)
                    have n1_ := Aside0.mk (Kd.V_below (by (with_reducible repeat (first | apply Kd.V_alloc | apply Kd.V_drewN | apply Kd.V_drew)); exact HO388.out) hb)
                    have n2_ := Aside0.mk (Kd.V_below (by (with_reducible repeat (first | apply Kd.V_alloc | apply Kd.V_drewN | apply Kd.V_drew)); exact HO399.out) hb)
                    have n3_ := Aside0.mk (blk_below (g := gb372) (o := .cells #[.int .u64 a0_0, .int .u32 a0_1, .slice A0_2 l0_2.length c0_2, .int .i64 a0_3] 43 (0, 0)) (by (with_reducible repeat (first | refine blk_drewN ?_ _ | refine blk_drew ?_ | refine blk_alloc ?_ _)); exact BK372.out) hb)
                    have n4_ := Aside0.mk (blk_below (g := gb380) (o := .cells #[.int .u64 t374, .int .u64 t375, .slice Ao19 t376.length co19, .int .i64 t379] 46 (0, 0)) (by (with_reducible repeat (first | refine blk_drewN ?_ _ | refine blk_drew ?_ | refine blk_alloc ?_ _)); exact BK380.out) hb)
                    have n5_ := Aside0.mk (blk_below (g := gb391) (o := .cells #[.int .u64 t384, .int .u32 t385, .slice Ao56 t386.length co56, .int .i64 t389] 43 (0, 0)) (by (with_reducible repeat (first | refine blk_drewN ?_ _ | refine blk_drew ?_ | refine blk_alloc ?_ _)); exact BK391.out) hb)
                    have n6_ := Aside0.mk (below_step (by repeat (first | (with_reducible first | exact HB.out | apply below_alloc | apply pw_below_drewN | apply below_drew1 | refine below_set ?_ GE372.out | refine below_set ?_ GE380.out | refine below_set ?_ GE391.out) | exact HB.out)) hb)
                    clear HO_381002
                    clear HO388
                    clear HO399
                    clear BK372
                    clear BK380
                    clear BK391
                    clear HB
                    have HO_381002 := n0_
                    have HO388 := n1_
                    have HO399 := n2_
                    have BK372 := n3_
                    have BK380 := n4_
                    have BK391 := n5_
                    have HB := n6_
                    clear n0_ n1_ n2_ n3_ n4_ n5_ n6_
                    (try clear hb)
                    (try clear hb2)
                    (try clear hk)
                    (try clear hi)
                    refine hK.out _ _ ⟨(blk_cell BK391.out 0).trans rfl, (blk_cell BK391.out 1).trans rfl, (blk_cell BK391.out 2).trans rfl, (blk_cell BK391.out 3).trans rfl, (blk_cell BK380.out 0).trans rfl, (blk_cell BK380.out 1).trans rfl, (blk_cell BK380.out 2).trans rfl, (blk_cell BK380.out 3).trans rfl⟩ (fun hHeld => ?_)
                    clear hK K
                    refine norm_ (a' := ?_) ?_ ?_
                    rotate_left
                    · show Act.put _ (some 84) _ = _
                      simp only [Act.put, List.setIfInBounds_toArray, List.set_cons_zero, List.set_cons_succ, i64_w, i32_w]
                      rfl
                    refine pure_ (i := 14) (N := some 85) (v := ?_) (a' := ?_) #[true, true, true, true, true, true, true, true, true, true, true, true, true, true, true, false, false, false, false] rfl rfl (any_of HT_.out (by kernel_rfl)) (fun _ _ _ h => h) (Or.inl ⟨by rfl, ?_⟩) ?_ ?_
                    rotate_left
                    · intro w'
                      go_simp
                      with_reducible rfl
                    rotate_left
                    · simp only [Act.put, List.setIfInBounds_toArray, List.set_cons_zero, List.set_cons_succ, i64_w, i32_w]
                      rfl
                    refine pure_ (i := 15) (N := some 86) (v := ?_) (a' := ?_) #[true, true, true, true, true, true, true, true, true, true, true, true, true, true, true, true, false, false, false] rfl rfl (any_of HT_.out (by kernel_rfl)) (fun _ _ _ h => h) (Or.inl ⟨by rfl, ?_⟩) ?_ ?_
                    rotate_left
                    · intro w'
                      go_simp
                      with_reducible rfl
                    rotate_left
                    · simp only [Act.put, List.setIfInBounds_toArray, List.set_cons_zero, List.set_cons_succ, i64_w, i32_w]
                      rfl
                    refine one_ (i := 16) (N := some 87) #[true, true, true, true, true, true, true, true, true, true, true, true, true, true, true, true, true, false, false] rfl rfl (one_of HT_.out (by kernel_rfl)) (by decide) (fun K hK => ?_)
                    refine goes_ Try.func17 (by kernel_rfl) rfl #[] (by rfl) rfl rfl (by (try simp only [List.map_toArray, List.map_cons, List.map_nil]); first | done | rfl | (simp only [List.length_drop, List.length_take]; rfl)) ?_
                    with_reducible refine (psalterylaw05_knows.calls kj22  t403 _ A48.out).mono ?_
                    rintro e w63 ⟨rfl, hb⟩
                    refine ⟨_, rfl, ?_⟩
                    have n0_ := Aside0.mk (Kd.V_below (by (with_reducible repeat (first | apply Kd.V_alloc | apply Kd.V_drewN | apply Kd.V_drew)); exact HO_381002.out) hb)
                    have n1_ := Aside0.mk (Kd.V_below (by (with_reducible repeat (first | apply Kd.V_alloc | apply Kd.V_drewN | apply Kd.V_drew)); exact HO388.out) hb)
                    have n2_ := Aside0.mk (Kd.V_below (by (with_reducible repeat (first | apply Kd.V_alloc | apply Kd.V_drewN | apply Kd.V_drew)); exact HO399.out) hb)
                    have n3_ := Aside0.mk (blk_below (g := gb372) (o := .cells #[.int .u64 a0_0, .int .u32 a0_1, .slice A0_2 l0_2.length c0_2, .int .i64 a0_3] 43 (0, 0)) (by (with_reducible repeat (first | refine blk_drewN ?_ _ | refine blk_drew ?_ | refine blk_alloc ?_ _)); exact BK372.out) hb)
                    have n4_ := Aside0.mk (blk_below (g := gb380) (o := .cells #[.int .u64 t374, .int .u64 t375, .slice Ao19 t376.length co19, .int .i64 t379] 46 (0, 0)) (by (with_reducible repeat (first | refine blk_drewN ?_ _ | refine blk_drew ?_ | refine blk_alloc ?_ _)); exact BK380.out) hb)
                    have n5_ := Aside0.mk (blk_below (g := gb391) (o := .cells #[.int .u64 t384, .int .u32 t385, .slice Ao56 t386.length co56, .int .i64 t389] 43 (0, 0)) (by (with_reducible repeat (first | refine blk_drewN ?_ _ | refine blk_drew ?_ | refine blk_alloc ?_ _)); exact BK391.out) hb)
                    have n6_ := Aside0.mk (below_step (by repeat (first | (with_reducible first | exact HB.out | apply below_alloc | apply pw_below_drewN | apply below_drew1 | refine below_set ?_ GE372.out | refine below_set ?_ GE380.out | refine below_set ?_ GE391.out) | exact HB.out)) hb)
                    clear HO_381002
                    clear HO388
                    clear HO399
                    clear BK372
                    clear BK380
                    clear BK391
                    clear HB
                    have HO_381002 := n0_
                    have HO388 := n1_
                    have HO399 := n2_
                    have BK372 := n3_
                    have BK380 := n4_
                    have BK391 := n5_
                    have HB := n6_
                    clear n0_ n1_ n2_ n3_ n4_ n5_ n6_
                    (try clear hb)
                    (try clear hb2)
                    (try clear hk)
                    (try clear hi)
                    refine hK.out _ _ ⟨(blk_cell BK391.out 0).trans rfl, (blk_cell BK391.out 1).trans rfl, (blk_cell BK391.out 2).trans rfl, (blk_cell BK391.out 3).trans rfl, (blk_cell BK380.out 0).trans rfl, (blk_cell BK380.out 1).trans rfl, (blk_cell BK380.out 2).trans rfl, (blk_cell BK380.out 3).trans rfl⟩ (fun hHeld => ?_)
                    clear hK K
                    refine norm_ (a' := ?_) ?_ ?_
                    rotate_left
                    · show Act.put _ (some 87) _ = _
                      simp only [Act.put, List.setIfInBounds_toArray, List.set_cons_zero, List.set_cons_succ, i64_w, i32_w]
                      rfl
                    refine pure_ (i := 17) (N := some 88) (v := ?_) (a' := ?_) #[true, true, true, true, true, true, true, true, true, true, true, true, true, true, true, true, true, true, false] rfl rfl (any_of HT_.out (by kernel_rfl)) (fun _ _ _ h => h) (Or.inl ⟨by rfl, ?_⟩) ?_ ?_
                    rotate_left
                    · intro w'
                      go_simp
                      with_reducible rfl
                    rotate_left
                    · simp only [Act.put, List.setIfInBounds_toArray, List.set_cons_zero, List.set_cons_succ, i64_w, i32_w]
                      rfl
                    refine pure_ (i := 18) (N := some 8) (v := ?_) (a' := ?_) #[true, true, true, true, true, true, true, true, true, true, true, true, true, true, true, true, true, true, true] rfl rfl (any_of HT_.out (by kernel_rfl)) (fun _ _ _ h => h) (Or.inl ⟨by rfl, ?_⟩) ?_ ?_
                    rotate_left
                    · intro w'
                      go_simp
                      with_reducible rfl
                    rotate_left
                    · simp only [Act.put, List.setIfInBounds_toArray, List.set_cons_zero, List.set_cons_succ, i64_w, i32_w]
                      rfl
                    refine done_ (done_of HT_.out (by kernel_rfl)) ?_
                    try go_wp2
                    go_ret
                    exact ⟨by first | rfl | (simp [errW_none, errW_some] <;> rfl) | (simp [*, errW_none, errW_some] <;> rfl), by repeat (first | (with_reducible first | exact HB.out | apply below_alloc | apply pw_below_drewN | apply below_drew1 | refine below_set ?_ GE372.out | refine below_set ?_ GE380.out | refine below_set ?_ GE391.out) | exact HB.out)⟩
                  · replace c47 := Bool.eq_false_iff.mpr c47
                    subst c47
                    have H1 : (some false) = some r := by rw [if_neg (show ¬ (false = true) by decide)] at H; exact H
                    clear H
                    have H := H1
                    clear H1
                    obtain rfl := Option.some.inj H
                    have hnb64 := NB372_380.out
                    have hnc64 := NB380_372.out
                    have hcz65_0 : wc.cell? ⟨gb372, 0, none⟩ = some (.int .u64 a0_0) := (blk_cell BK372.out 0).trans rfl
                    have hcz65_1 : wc.cell? ⟨gb372, 1, none⟩ = some (.int .u32 a0_1) := (blk_cell BK372.out 1).trans rfl
                    have hcz65_2 : wc.cell? ⟨gb372, 2, none⟩ = some (.slice A0_2 l0_2.length c0_2) := (blk_cell BK372.out 2).trans rfl
                    have hcz65_3 : wc.cell? ⟨gb372, 3, none⟩ = some (.int .i64 a0_3) := (blk_cell BK372.out 3).trans rfl
                    have hfz65_0 := blk_frozen BK372.out 0
                    have hfz65_1 := blk_frozen BK372.out 1
                    have hfz65_2 := blk_frozen BK372.out 2
                    have hfz65_3 := blk_frozen BK372.out 3
                    try go_wp2_with (first | ((with_reducible refine gate_callee (f := 34) rfl ?_); refine goesL_ (some 53) rfl rfl Try.func34 (by kernel_rfl) rfl #[.agg #[.int .u64 a0_0, .int .u32 a0_1, .slice A0_2 l0_2.length c0_2, .int .i64 a0_3], .int .i64 a1, .int .i64 a2, .int .i64 a3] rfl (by (try simp only [List.map_toArray, List.map_cons, List.map_nil]); first | done | rfl | (simp only [List.length_drop, List.length_take]; rfl)) ?_; (with_reducible refine (coder_Take.calls kj22 a0_0 a0_1 (fun k_ => k_ < w.heap.size) _ _ l0_2 a0_3 a1 a2 a3 t384 t385 t386 t389 t390 _ ?side1 A39.out).mono ?_); (case side1 => exact Kd.V_mk HC0_2.out (Kd.F_below (Kd.C_F (Kd.heap_int .u8) HR0_2.out) (by repeat (first | (with_reducible first | exact HB.out | apply below_alloc | apply pw_below_drewN | apply below_drew1 | refine below_set ?_ GE372.out | refine below_set ?_ GE380.out) | exact HB.out)))); rintro e w66 ⟨v387, rfl, ho0, hb⟩; refine ⟨_, rfl, ?_⟩; have n0_ := Aside0.mk (Kd.V_below (by (with_reducible repeat (first | apply Kd.V_alloc | apply Kd.V_drewN | apply Kd.V_drew)); exact HO_381002.out) hb); have n1_ := Aside0.mk (Kd.V_lower (Kd.V_mono (ok' := fun k_ => k_ ≠ gb372 ∧ k_ ≠ gb380) ho0 (fun k_ hk_ => ⟨Or.elim hk_ (fun hs_ => fun e_ => Nat.not_le.2 hs_ (by rw [e_]; exact GW372.out)) (fun hn_ => (Kd.freshB (g := gb372) (o := .cells #[.int .u64 a0_0, .int .u32 a0_1, .slice A0_2 l0_2.length c0_2, .int .i64 a0_3] 43 (0, 0)) (by (with_reducible repeat (first | refine blk_drewN ?_ _ | refine blk_drew ?_ | refine blk_alloc ?_ _)); exact BK372.out) k_ hn_)), Or.elim hk_ (fun hs_ => fun e_ => Nat.not_le.2 hs_ (by rw [e_]; exact GW380.out)) (fun hn_ => (Kd.freshB (g := gb380) (o := .cells #[.int .u64 t374, .int .u64 t375, .slice Ao19 t376.length co19, .int .i64 t379] 46 (0, 0)) (by (with_reducible repeat (first | refine blk_drewN ?_ _ | refine blk_drew ?_ | refine blk_alloc ?_ _)); exact BK380.out) k_ hn_))⟩)) (below_size (by repeat (first | (with_reducible first | exact HB.out | apply below_alloc | apply pw_below_drewN | apply below_drew1 | refine below_set ?_ GE372.out | refine below_set ?_ GE380.out) | exact HB.out)))); have n2_ := Aside0.mk (blk_below (g := gb372) (o := .cells #[.int .u64 a0_0, .int .u32 a0_1, .slice A0_2 l0_2.length c0_2, .int .i64 a0_3] 43 (0, 0)) (by (with_reducible repeat (first | refine blk_drewN ?_ _ | refine blk_drew ?_ | refine blk_alloc ?_ _)); exact BK372.out) hb); have n3_ := Aside0.mk (blk_below (g := gb380) (o := .cells #[.int .u64 t374, .int .u64 t375, .slice Ao19 t376.length co19, .int .i64 t379] 46 (0, 0)) (by (with_reducible repeat (first | refine blk_drewN ?_ _ | refine blk_drew ?_ | refine blk_alloc ?_ _)); exact BK380.out) hb); have n4_ := Aside0.mk (below_step (by repeat (first | (with_reducible first | exact HB.out | apply below_alloc | apply pw_below_drewN | apply below_drew1 | refine below_set ?_ GE372.out | refine below_set ?_ GE380.out) | exact HB.out)) hb); clear HO_381002; clear BK372; clear BK380; clear HB; have HO_381002 := n0_; have HO388 := n1_; have BK372 := n2_; have BK380 := n3_; have HB := n4_; clear n0_ n1_ n2_ n3_ n4_; (try clear hb); (try clear hb2); (try clear hk); (try clear hi); (try clear ho0)) | ((with_reducible refine gate_dst (N := 12) rfl ?_); refine box_event ?hg (N := 12) ?hd (cs := #[.int .u64 0, .int .u32 0, .slice none 0 0, .int .i64 0]) (t := 43) ?hr ?_; (case hd => rfl); (case hg => rfl); (case hr => first | (go_simp; done) | (go_simp; rfl)); intro gb391 hg w67 hbox hb; have n0_ := Aside0.mk (Kd.V_below (Kd.V_elderB (by (with_reducible repeat (first | apply Kd.V_alloc | apply Kd.V_drewN | apply Kd.V_drew)); exact HO_381002.out) gb391 (Nat.le_of_eq hg.symm)) hb); have n1_ := Aside0.mk (Kd.V_below (Kd.V_elderB (by (with_reducible repeat (first | apply Kd.V_alloc | apply Kd.V_drewN | apply Kd.V_drew)); exact HO388.out) gb391 (Nat.le_of_eq hg.symm)) hb); have n2_ := Aside0.mk (blk_below (g := gb372) (o := .cells #[.int .u64 a0_0, .int .u32 a0_1, .slice A0_2 l0_2.length c0_2, .int .i64 a0_3] 43 (0, 0)) (by (with_reducible repeat (first | refine blk_drewN ?_ _ | refine blk_drew ?_ | refine blk_alloc ?_ _)); exact BK372.out) hb); have n3_ := Aside0.mk (blk_below (g := gb380) (o := .cells #[.int .u64 t374, .int .u64 t375, .slice Ao19 t376.length co19, .int .i64 t379] 46 (0, 0)) (by (with_reducible repeat (first | refine blk_drewN ?_ _ | refine blk_drew ?_ | refine blk_alloc ?_ _)); exact BK380.out) hb); have n4_ := Aside0.mk (below_step (by repeat (first | (with_reducible first | exact HB.out | apply below_alloc | apply pw_below_drewN | apply below_drew1 | refine below_set ?_ GE372.out | refine below_set ?_ GE380.out) | exact HB.out)) hb); have n5_ := Aside0.mk (hbox); have n6_ := Aside0.mk ((by rw [hg]; exact (below_size (by repeat (first | (with_reducible first | exact HB.out | apply below_alloc | apply pw_below_drewN | apply below_drew1 | refine below_set ?_ GE372.out | refine below_set ?_ GE380.out) | exact HB.out))) : w.heap.size ≤ gb391)); have n7_ := Aside0.mk ((by rw [hg]; exact (below_size (by repeat (first | (with_reducible first | exact HB.out | apply below_alloc | apply pw_below_drewN | apply below_drew1 | refine below_set ?_ GE372.out | refine below_set ?_ GE380.out) | exact HB.out))) : w.heap.size ≤ gb391)); have n8_ := Aside0.mk ((by rw [hg]; exact Nat.ne_of_lt (blk_lt (g := gb372) (o := .cells #[.int .u64 a0_0, .int .u32 a0_1, .slice A0_2 l0_2.length c0_2, .int .i64 a0_3] 43 (0, 0)) (by (with_reducible repeat (first | refine blk_drewN ?_ _ | refine blk_drew ?_ | refine blk_alloc ?_ _)); exact BK372.out)) : gb372 ≠ gb391)); have n9_ := Aside0.mk ((by rw [hg]; exact Nat.ne_of_gt (blk_lt (g := gb372) (o := .cells #[.int .u64 a0_0, .int .u32 a0_1, .slice A0_2 l0_2.length c0_2, .int .i64 a0_3] 43 (0, 0)) (by (with_reducible repeat (first | refine blk_drewN ?_ _ | refine blk_drew ?_ | refine blk_alloc ?_ _)); exact BK372.out)) : gb391 ≠ gb372)); have n10_ := Aside0.mk ((by rw [hg]; exact Nat.ne_of_lt (blk_lt (g := gb380) (o := .cells #[.int .u64 t374, .int .u64 t375, .slice Ao19 t376.length co19, .int .i64 t379] 46 (0, 0)) (by (with_reducible repeat (first | refine blk_drewN ?_ _ | refine blk_drew ?_ | refine blk_alloc ?_ _)); exact BK380.out)) : gb380 ≠ gb391)); have n11_ := Aside0.mk ((by rw [hg]; exact Nat.ne_of_gt (blk_lt (g := gb380) (o := .cells #[.int .u64 t374, .int .u64 t375, .slice Ao19 t376.length co19, .int .i64 t379] 46 (0, 0)) (by (with_reducible repeat (first | refine blk_drewN ?_ _ | refine blk_drew ?_ | refine blk_alloc ?_ _)); exact BK380.out)) : gb391 ≠ gb380)); clear HO_381002; clear HO388; clear BK372; clear BK380; clear HB; have HO_381002 := n0_; have HO388 := n1_; have BK372 := n2_; have BK380 := n3_; have HB := n4_; have BK391 := n5_; have GW391 := n6_; have GE391 := n7_; have NB372_391 := n8_; have NB391_372 := n9_; have NB380_391 := n10_; have NB391_380 := n11_; clear n0_ n1_ n2_ n3_ n4_ n5_ n6_ n7_ n8_ n9_ n10_ n11_; clear hb hbox hg; have hnb68 := NB391_372.out; have hnc68 := NB372_391.out; have hnb69 := NB391_380.out; have hnc69 := NB380_391.out; have hcz70_0 : w67.cell? ⟨gb391, 0, none⟩ = some (.int .u64 0) := (blk_cell BK391.out 0).trans rfl; have hcz70_1 : w67.cell? ⟨gb391, 1, none⟩ = some (.int .u32 0) := (blk_cell BK391.out 1).trans rfl; have hcz70_2 : w67.cell? ⟨gb391, 2, none⟩ = some (.slice none 0 0) := (blk_cell BK391.out 2).trans rfl; have hcz70_3 : w67.cell? ⟨gb391, 3, none⟩ = some (.int .i64 0) := (blk_cell BK391.out 3).trans rfl; have hfz70_0 := blk_frozen BK391.out 0; have hfz70_1 := blk_frozen BK391.out 1; have hfz70_2 := blk_frozen BK391.out 2; have hfz70_3 := blk_frozen BK391.out 3; obtain ⟨Ao71, co71, eo71⟩ := Kd.V_slice HO388.out; subst eo71) | ((with_reducible refine gate_callee (f := 35) rfl ?_); refine goesL_ (some 59) rfl rfl Try.func35 (by kernel_rfl) rfl #[.int .i64 a1, .int .i64 a2, .int .i64 a3] rfl (by (try simp only [List.map_toArray, List.map_cons, List.map_nil]); first | done | rfl | (simp only [List.length_drop, List.length_take]; rfl)) ?_; (with_reducible refine (psalteryref05_Fair.calls a1 a2 a3 true _ A40.out).mono ?_); rintro e w' ⟨rfl, ⟨nd, rfl⟩⟩; refine ⟨_, rfl, ?_⟩))
                    have n0_ : Aside0 (Kd.V (Kd.int .u8) 5 ((((w67.setCell ⟨gb391, 0, none⟩ (.int .u64 t384)).setCell ⟨gb391, 1, none⟩ (.int .u32 t385)).setCell ⟨gb391, 2, none⟩ (.slice Ao71 t386.length co71)).setCell ⟨gb391, 3, none⟩ (.int .i64 t389)) w.heap.size (fun k_ => k_ ≠ gb372 ∧ k_ ≠ gb380 ∧ k_ ≠ gb391) (.slice Ao19 t376.length co19) t376) := ⟨by (with_reducible repeat (first | apply Kd.V_alloc | apply Kd.V_drewN | apply Kd.V_drew)); exact Kd.V_mono (Kd.V_far (p := ⟨gb391, 3, none⟩) (Kd.V_far (p := ⟨gb391, 2, none⟩) (Kd.V_far (p := ⟨gb391, 1, none⟩) (Kd.V_far (p := ⟨gb391, 0, none⟩) (Kd.V_mono HO_381002.out (fun k_ hk => (⟨hk, hk.2⟩ : _ ∧ k_ ≠ gb391))) (fun _ hk => hk.2) (.int .u64 t384)) (fun _ hk => hk.2) (.int .u32 t385)) (fun _ hk => hk.2) (.slice Ao71 t386.length co71)) (fun _ hk => hk.2) (.int .i64 t389)) (fun _ hk => ⟨hk.1.1.1, ⟨hk.1.1.2, hk.1.2⟩⟩)⟩
                    have n1_ : Aside0 (Kd.V (Kd.int .u8) 5 ((((w67.setCell ⟨gb391, 0, none⟩ (.int .u64 t384)).setCell ⟨gb391, 1, none⟩ (.int .u32 t385)).setCell ⟨gb391, 2, none⟩ (.slice Ao71 t386.length co71)).setCell ⟨gb391, 3, none⟩ (.int .i64 t389)) w.heap.size (fun k_ => k_ ≠ gb372 ∧ k_ ≠ gb380 ∧ k_ ≠ gb391) (.slice Ao71 t386.length co71) t386) := ⟨by (with_reducible repeat (first | apply Kd.V_alloc | apply Kd.V_drewN | apply Kd.V_drew)); exact Kd.V_mono (Kd.V_far (p := ⟨gb391, 3, none⟩) (Kd.V_far (p := ⟨gb391, 2, none⟩) (Kd.V_far (p := ⟨gb391, 1, none⟩) (Kd.V_far (p := ⟨gb391, 0, none⟩) (Kd.V_mono HO388.out (fun k_ hk => (⟨hk, hk.2⟩ : _ ∧ k_ ≠ gb391))) (fun _ hk => hk.2) (.int .u64 t384)) (fun _ hk => hk.2) (.int .u32 t385)) (fun _ hk => hk.2) (.slice Ao71 t386.length co71)) (fun _ hk => hk.2) (.int .i64 t389)) (fun _ hk => ⟨hk.1.1.1, ⟨hk.1.1.2, hk.1.2⟩⟩)⟩
                    have n2_ : Aside0 (((((w67.setCell ⟨gb391, 0, none⟩ (.int .u64 t384)).setCell ⟨gb391, 1, none⟩ (.int .u32 t385)).setCell ⟨gb391, 2, none⟩ (.slice Ao71 t386.length co71)).setCell ⟨gb391, 3, none⟩ (.int .i64 t389)).heap[gb372]? = some (.cells #[.int .u64 a0_0, .int .u32 a0_1, .slice A0_2 l0_2.length c0_2, .int .i64 a0_3] 43 (0, 0))) := ⟨by (with_reducible repeat (first | refine blk_drewN ?_ _ | refine blk_drew ?_ | refine blk_alloc ?_ _)); refine blk_far ?_ NB372_391.out _; (with_reducible repeat (first | refine blk_drewN ?_ _ | refine blk_drew ?_ | refine blk_alloc ?_ _)); refine blk_far ?_ NB372_391.out _; (with_reducible repeat (first | refine blk_drewN ?_ _ | refine blk_drew ?_ | refine blk_alloc ?_ _)); refine blk_far ?_ NB372_391.out _; (with_reducible repeat (first | refine blk_drewN ?_ _ | refine blk_drew ?_ | refine blk_alloc ?_ _)); refine blk_far ?_ NB372_391.out _; (with_reducible repeat (first | refine blk_drewN ?_ _ | refine blk_drew ?_ | refine blk_alloc ?_ _)); exact BK372.out⟩
                    have n3_ : Aside0 (((((w67.setCell ⟨gb391, 0, none⟩ (.int .u64 t384)).setCell ⟨gb391, 1, none⟩ (.int .u32 t385)).setCell ⟨gb391, 2, none⟩ (.slice Ao71 t386.length co71)).setCell ⟨gb391, 3, none⟩ (.int .i64 t389)).heap[gb380]? = some (.cells #[.int .u64 t374, .int .u64 t375, .slice Ao19 t376.length co19, .int .i64 t379] 46 (0, 0))) := ⟨by (with_reducible repeat (first | refine blk_drewN ?_ _ | refine blk_drew ?_ | refine blk_alloc ?_ _)); refine blk_far ?_ NB380_391.out _; (with_reducible repeat (first | refine blk_drewN ?_ _ | refine blk_drew ?_ | refine blk_alloc ?_ _)); refine blk_far ?_ NB380_391.out _; (with_reducible repeat (first | refine blk_drewN ?_ _ | refine blk_drew ?_ | refine blk_alloc ?_ _)); refine blk_far ?_ NB380_391.out _; (with_reducible repeat (first | refine blk_drewN ?_ _ | refine blk_drew ?_ | refine blk_alloc ?_ _)); refine blk_far ?_ NB380_391.out _; (with_reducible repeat (first | refine blk_drewN ?_ _ | refine blk_drew ?_ | refine blk_alloc ?_ _)); exact BK380.out⟩
                    have n4_ : Aside0 (((((w67.setCell ⟨gb391, 0, none⟩ (.int .u64 t384)).setCell ⟨gb391, 1, none⟩ (.int .u32 t385)).setCell ⟨gb391, 2, none⟩ (.slice Ao71 t386.length co71)).setCell ⟨gb391, 3, none⟩ (.int .i64 t389)).heap[gb391]? = some (.cells #[.int .u64 t384, .int .u32 t385, .slice Ao71 t386.length co71, .int .i64 t389] 43 (0, 0))) := ⟨by (with_reducible repeat (first | refine blk_drewN ?_ _ | refine blk_drew ?_ | refine blk_alloc ?_ _)); refine blk_put (cs := #[.int .u64 t384, .int .u32 t385, .slice Ao71 t386.length co71, .int .i64 0]) ?_ 3 _ rfl; (with_reducible repeat (first | refine blk_drewN ?_ _ | refine blk_drew ?_ | refine blk_alloc ?_ _)); refine blk_put (cs := #[.int .u64 t384, .int .u32 t385, .slice none 0 0, .int .i64 0]) ?_ 2 _ rfl; (with_reducible repeat (first | refine blk_drewN ?_ _ | refine blk_drew ?_ | refine blk_alloc ?_ _)); refine blk_put (cs := #[.int .u64 t384, .int .u32 0, .slice none 0 0, .int .i64 0]) ?_ 1 _ rfl; (with_reducible repeat (first | refine blk_drewN ?_ _ | refine blk_drew ?_ | refine blk_alloc ?_ _)); refine blk_put (cs := #[.int .u64 0, .int .u32 0, .slice none 0 0, .int .i64 0]) ?_ 0 _ rfl; (with_reducible repeat (first | refine blk_drewN ?_ _ | refine blk_drew ?_ | refine blk_alloc ?_ _)); exact BK391.out⟩
                    have n5_ : Aside0 (Below w.heap.size w ((((w67.setCell ⟨gb391, 0, none⟩ (.int .u64 t384)).setCell ⟨gb391, 1, none⟩ (.int .u32 t385)).setCell ⟨gb391, 2, none⟩ (.slice Ao71 t386.length co71)).setCell ⟨gb391, 3, none⟩ (.int .i64 t389))) := ⟨by repeat (first | (with_reducible first | exact HB.out | apply below_alloc | apply pw_below_drewN | apply below_drew1 | refine below_set ?_ GE372.out | refine below_set ?_ GE380.out | refine below_set ?_ GE391.out) | exact HB.out)⟩
                    (try clear HO_381002)
                    (try clear HO388)
                    (try clear BK372)
                    (try clear BK380)
                    (try clear BK391)
                    (try clear HB)
                    generalize ((((w67.setCell ⟨gb391, 0, none⟩ (.int .u64 t384)).setCell ⟨gb391, 1, none⟩ (.int .u32 t385)).setCell ⟨gb391, 2, none⟩ (.slice Ao71 t386.length co71)).setCell ⟨gb391, 3, none⟩ (.int .i64 t389)) = w72 at n0_ n1_ n2_ n3_ n4_ n5_ ⊢
                    have HO_381002 := n0_
                    have HO388 := n1_
                    have BK372 := n2_
                    have BK380 := n3_
                    have BK391 := n4_
                    have HB := n5_
                    clear n0_ n1_ n2_ n3_ n4_ n5_
                    (try (rw [drewN_self w72]; generalize hq_ : World.drewN w72 _ = w72; have n0_ : Aside0 (Kd.V (Kd.int .u8) 5 w72 w.heap.size (fun k_ => k_ ≠ gb372 ∧ k_ ≠ gb380 ∧ k_ ≠ gb391) (.slice Ao71 t386.length co71) t386) := ⟨by rw [← hq_]; exact (by (with_reducible repeat (first | apply Kd.V_alloc | apply Kd.V_drewN | apply Kd.V_drew)); exact HO388.out)⟩; have n1_ : Aside0 (Kd.V (Kd.int .u8) 5 w72 w.heap.size (fun k_ => k_ ≠ gb372 ∧ k_ ≠ gb380 ∧ k_ ≠ gb391) (.slice Ao19 t376.length co19) t376) := ⟨by rw [← hq_]; exact (by (with_reducible repeat (first | apply Kd.V_alloc | apply Kd.V_drewN | apply Kd.V_drew)); exact HO_381002.out)⟩; have n2_ : Aside0 (w72.heap[gb372]? = some (.cells #[.int .u64 a0_0, .int .u32 a0_1, .slice A0_2 l0_2.length c0_2, .int .i64 a0_3] 43 (0, 0))) := ⟨by rw [← hq_]; exact (by (with_reducible repeat (first | refine blk_drewN ?_ _ | refine blk_drew ?_ | refine blk_alloc ?_ _)); exact BK372.out)⟩; have n3_ : Aside0 (w72.heap[gb380]? = some (.cells #[.int .u64 t374, .int .u64 t375, .slice Ao19 t376.length co19, .int .i64 t379] 46 (0, 0))) := ⟨by rw [← hq_]; exact (by (with_reducible repeat (first | refine blk_drewN ?_ _ | refine blk_drew ?_ | refine blk_alloc ?_ _)); exact BK380.out)⟩; have n4_ : Aside0 (w72.heap[gb391]? = some (.cells #[.int .u64 t384, .int .u32 t385, .slice Ao71 t386.length co71, .int .i64 t389] 43 (0, 0))) := ⟨by rw [← hq_]; exact (by (with_reducible repeat (first | refine blk_drewN ?_ _ | refine blk_drew ?_ | refine blk_alloc ?_ _)); exact BK391.out)⟩; have n5_ : Aside0 (Below w.heap.size w w72) := ⟨by rw [← hq_]; exact (by repeat (first | (with_reducible first | exact HB.out | apply below_alloc | apply pw_below_drewN | apply below_drew1 | refine below_set ?_ GE372.out | refine below_set ?_ GE380.out | refine below_set ?_ GE391.out) | exact HB.out))⟩; clear HO388 HO_381002 BK372 BK380 BK391 HB hq_; have HO388 := n0_; have HO_381002 := n1_; have BK372 := n2_; have BK380 := n3_; have BK391 := n4_; have HB := n5_; clear n0_ n1_ n2_ n3_ n4_ n5_))
                    have n0_ := Aside0.mk (Kd.V_drew HO_381002.out)
                    have n1_ := Aside0.mk (Kd.V_drew HO388.out)
                    have n2_ := Aside0.mk (blk_drew BK372.out)
                    have n3_ := Aside0.mk (blk_drew BK380.out)
                    have n4_ := Aside0.mk (blk_drew BK391.out)
                    have n5_ := Aside0.mk (below_drew1 HB.out)
                    clear HO_381002
                    clear HO388
                    clear BK372
                    clear BK380
                    clear BK391
                    clear HB
                    have HO_381002 := n0_
                    have HO388 := n1_
                    have BK372 := n2_
                    have BK380 := n3_
                    have BK391 := n4_
                    have HB := n5_
                    clear n0_ n1_ n2_ n3_ n4_ n5_
                    refine start_ (n := 19) (S := fun w' => w'.cell? ⟨gb391, 0, none⟩ = some (.int .u64 t384) ∧ w'.cell? ⟨gb391, 1, none⟩ = some (.int .u32 t385) ∧ w'.cell? ⟨gb391, 2, none⟩ = some (.slice Ao71 t386.length co71) ∧ w'.cell? ⟨gb391, 3, none⟩ = some (.int .i64 t389) ∧ w'.cell? ⟨gb380, 0, none⟩ = some (.int .u64 t374) ∧ w'.cell? ⟨gb380, 1, none⟩ = some (.int .u64 t375) ∧ w'.cell? ⟨gb380, 2, none⟩ = some (.slice Ao19 t376.length co19) ∧ w'.cell? ⟨gb380, 3, none⟩ = some (.int .i64 t379)) (ds := []) #[false, false, false, false, false, false, false, false, false, false, false, false, false, false, false, false, false, false, false] (by kernel_rfl) rfl rfl ⟨(blk_cell BK391.out 0).trans rfl, (blk_cell BK391.out 1).trans rfl, (blk_cell BK391.out 2).trans rfl, (blk_cell BK391.out 3).trans rfl, (blk_cell BK380.out 0).trans rfl, (blk_cell BK380.out 1).trans rfl, (blk_cell BK380.out 2).trans rfl, (blk_cell BK380.out 3).trans rfl⟩ (fun hHeld => ?_); refine with_tabW psalterylaw05_CoderTakes.tab13 psalterylaw05_CoderTakes.bits13 (fun HT_ HW_ => ?_)
                    generalize w72.drew = w73 at HO_381002 HO388 BK372 BK380 BK391 HB hHeld ⊢
                    refine pure_ (i := 0) (N := some 71) (v := ?_) (a' := ?_) #[true, false, false, false, false, false, false, false, false, false, false, false, false, false, false, false, false, false, false] rfl rfl (any_of HT_.out (by kernel_rfl)) (fun _ _ _ h => h) (Or.inl ⟨by rfl, ?_⟩) ?_ ?_
                    rotate_left
                    · intro w'
                      go_simp
                      with_reducible rfl
                    rotate_left
                    · simp only [Act.put, List.setIfInBounds_toArray, List.set_cons_zero, List.set_cons_succ, i64_w, i32_w]
                      rfl
                    refine pure_ (i := 1) (N := some 72) (v := ?_) (a' := ?_) #[true, true, false, false, false, false, false, false, false, false, false, false, false, false, false, false, false, false, false] rfl rfl (any_of HT_.out (by kernel_rfl)) (fun _ _ _ h => h) (Or.inl ⟨by rfl, ?_⟩) ?_ ?_
                    rotate_left
                    · intro w'
                      go_simp
                      with_reducible rfl
                    rotate_left
                    · simp only [Act.put, List.setIfInBounds_toArray, List.set_cons_zero, List.set_cons_succ, i64_w, i32_w]
                      rfl
                    refine pure_ (i := 2) (N := some 73) (v := ?_) (a' := ?_) #[true, true, true, false, false, false, false, false, false, false, false, false, false, false, false, false, false, false, false] rfl rfl (any_of HT_.out (by kernel_rfl)) (fun _ _ _ h => h) (Or.inl ⟨by rfl, ?_⟩) ?_ ?_
                    rotate_left
                    · intro w'
                      go_simp
                      with_reducible rfl
                    rotate_left
                    · simp only [Act.put, List.setIfInBounds_toArray, List.set_cons_zero, List.set_cons_succ, i64_w, i32_w]
                      rfl
                    refine pure_ (i := 5) (N := some 76) (v := ?_) (a' := ?_) #[true, true, true, false, false, true, false, false, false, false, false, false, false, false, false, false, false, false, false] rfl rfl (any_of HT_.out (by kernel_rfl)) (fun _ _ _ h => h) (Or.inl ⟨by rfl, ?_⟩) ?_ ?_
                    rotate_left
                    · intro w'
                      go_simp
                      with_reducible rfl
                    rotate_left
                    · simp only [Act.put, List.setIfInBounds_toArray, List.set_cons_zero, List.set_cons_succ, i64_w, i32_w]
                      rfl
                    refine pure_ (i := 6) (N := some 77) (v := ?_) (a' := ?_) #[true, true, true, false, false, true, true, false, false, false, false, false, false, false, false, false, false, false, false] rfl rfl (any_of HT_.out (by kernel_rfl)) (fun _ _ _ h => h) (Or.inl ⟨by rfl, ?_⟩) ?_ ?_
                    rotate_left
                    · intro w'
                      go_simp
                      with_reducible rfl
                    rotate_left
                    · simp only [Act.put, List.setIfInBounds_toArray, List.set_cons_zero, List.set_cons_succ, i64_w, i32_w]
                      rfl
                    refine pure_ (i := 7) (N := some 78) (v := ?_) (a' := ?_) #[true, true, true, false, false, true, true, true, false, false, false, false, false, false, false, false, false, false, false] rfl rfl (any_of HT_.out (by kernel_rfl)) (fun _ _ _ h => h) (Or.inl ⟨by rfl, ?_⟩) ?_ ?_
                    rotate_left
                    · intro w'
                      go_simp
                      with_reducible rfl
                    rotate_left
                    · simp only [Act.put, List.setIfInBounds_toArray, List.set_cons_zero, List.set_cons_succ, i64_w, i32_w]
                      rfl
                    refine take_ (i := 3) (N := some 74) (v := ?_) (a' := ?_) #[true, true, true, true, false, true, true, true, false, false, false, false, false, false, false, false, false, false, false] rfl rfl (take_ofW HT_.out HW_.out (by kernel_rfl)) (fun _ _ _ h => h) (Or.inl ⟨by rfl, ?_⟩) hHeld ?_ ?_
                    rotate_left
                    · rintro w' ⟨s0, s1, s2, s3, s4, s5, s6, s7⟩
                      go_simp
                      with_reducible rfl
                    rotate_left
                    · simp only [Act.put, List.setIfInBounds_toArray, List.set_cons_zero, List.set_cons_succ, i64_w, i32_w]
                      rfl
                    refine take_ (i := 4) (N := some 75) (v := ?_) (a' := ?_) #[true, true, true, true, true, true, true, true, false, false, false, false, false, false, false, false, false, false, false] rfl rfl (take_ofW HT_.out HW_.out (by kernel_rfl)) (fun _ _ _ h => h) (Or.inl ⟨by rfl, ?_⟩) hHeld ?_ ?_
                    rotate_left
                    · rintro w' ⟨s0, s1, s2, s3, s4, s5, s6, s7⟩
                      go_simp
                      with_reducible rfl
                    rotate_left
                    · simp only [Act.put, List.setIfInBounds_toArray, List.set_cons_zero, List.set_cons_succ, i64_w, i32_w]
                      rfl
                    refine one_ (i := 8) (N := some 79) #[true, true, true, true, true, true, true, true, true, false, false, false, false, false, false, false, false, false, false] rfl rfl (one_of HT_.out (by kernel_rfl)) (by decide) (fun K hK => ?_)
                    refine goes_ Try.func36 (by kernel_rfl) rfl #[.agg #[.int .u64 t374, .int .u64 t375, .slice Ao19 t376.length co19, .int .i64 t379], .int .i64 a1, .int .i64 a2, .int .i64 a3] (by rfl) rfl rfl (by (try simp only [List.map_toArray, List.map_cons, List.map_nil]); first | done | rfl | (simp only [List.length_drop, List.length_take]; rfl)) ?_
                    with_reducible refine (psalteryref05_Take.calls kj22 t374 t375 (fun k_ => (k_ ≠ gb372 ∧ (k_ ≠ gb380 ∧ k_ ≠ gb391))) _ _ t376 t379 a1 a2 a3 t395 t396 t397 t400 _ ?side1 A43.out).mono ?_
                    (case side1 => exact HO_381002.out)
                    rintro e w74 ⟨v398, rfl, ho0, hb⟩
                    refine ⟨_, rfl, ?_⟩
                    have n0_ := Aside0.mk (Kd.V_below (by (with_reducible repeat (first | apply Kd.V_alloc | apply Kd.V_drewN | apply Kd.V_drew)); exact HO_381002.out) hb)
                    have n1_ := Aside0.mk (Kd.V_below (by (with_reducible repeat (first | apply Kd.V_alloc | apply Kd.V_drewN | apply Kd.V_drew)); exact HO388.out) hb)
                    have n2_ := Aside0.mk (Kd.V_lower (Kd.V_mono (ok' := fun k_ => k_ ≠ gb372 ∧ k_ ≠ gb380 ∧ k_ ≠ gb391) ho0 (fun k_ hk_ => ⟨Or.elim hk_ (fun hs_ => hs_.1) (fun hn_ => (Kd.freshB (g := gb372) (o := .cells #[.int .u64 a0_0, .int .u32 a0_1, .slice A0_2 l0_2.length c0_2, .int .i64 a0_3] 43 (0, 0)) (by (with_reducible repeat (first | refine blk_drewN ?_ _ | refine blk_drew ?_ | refine blk_alloc ?_ _)); exact BK372.out) k_ hn_)), Or.elim hk_ (fun hs_ => hs_.2.1) (fun hn_ => (Kd.freshB (g := gb380) (o := .cells #[.int .u64 t374, .int .u64 t375, .slice Ao19 t376.length co19, .int .i64 t379] 46 (0, 0)) (by (with_reducible repeat (first | refine blk_drewN ?_ _ | refine blk_drew ?_ | refine blk_alloc ?_ _)); exact BK380.out) k_ hn_)), Or.elim hk_ (fun hs_ => hs_.2.2) (fun hn_ => (Kd.freshB (g := gb391) (o := .cells #[.int .u64 t384, .int .u32 t385, .slice Ao71 t386.length co71, .int .i64 t389] 43 (0, 0)) (by (with_reducible repeat (first | refine blk_drewN ?_ _ | refine blk_drew ?_ | refine blk_alloc ?_ _)); exact BK391.out) k_ hn_))⟩)) (below_size (by repeat (first | (with_reducible first | exact HB.out | apply below_alloc | apply pw_below_drewN | apply below_drew1 | refine below_set ?_ GE372.out | refine below_set ?_ GE380.out | refine below_set ?_ GE391.out) | exact HB.out))))
                    have n3_ := Aside0.mk (blk_below (g := gb372) (o := .cells #[.int .u64 a0_0, .int .u32 a0_1, .slice A0_2 l0_2.length c0_2, .int .i64 a0_3] 43 (0, 0)) (by (with_reducible repeat (first | refine blk_drewN ?_ _ | refine blk_drew ?_ | refine blk_alloc ?_ _)); exact BK372.out) hb)
                    have n4_ := Aside0.mk (blk_below (g := gb380) (o := .cells #[.int .u64 t374, .int .u64 t375, .slice Ao19 t376.length co19, .int .i64 t379] 46 (0, 0)) (by (with_reducible repeat (first | refine blk_drewN ?_ _ | refine blk_drew ?_ | refine blk_alloc ?_ _)); exact BK380.out) hb)
                    have n5_ := Aside0.mk (blk_below (g := gb391) (o := .cells #[.int .u64 t384, .int .u32 t385, .slice Ao71 t386.length co71, .int .i64 t389] 43 (0, 0)) (by (with_reducible repeat (first | refine blk_drewN ?_ _ | refine blk_drew ?_ | refine blk_alloc ?_ _)); exact BK391.out) hb)
                    have n6_ := Aside0.mk (below_step (by repeat (first | (with_reducible first | exact HB.out | apply below_alloc | apply pw_below_drewN | apply below_drew1 | refine below_set ?_ GE372.out | refine below_set ?_ GE380.out | refine below_set ?_ GE391.out) | exact HB.out)) hb)
                    clear HO_381002
                    clear HO388
                    clear BK372
                    clear BK380
                    clear BK391
                    clear HB
                    have HO_381002 := n0_
                    have HO388 := n1_
                    have HO399 := n2_
                    have BK372 := n3_
                    have BK380 := n4_
                    have BK391 := n5_
                    have HB := n6_
                    clear n0_ n1_ n2_ n3_ n4_ n5_ n6_
                    (try clear hb)
                    (try clear hb2)
                    (try clear hk)
                    (try clear hi)
                    (try clear ho0)
                    obtain ⟨Ao75, co75, eo75⟩ := Kd.V_slice HO399.out
                    (first | subst eo75 | (injection eo75 with f1_ f2_ f3_; have f4_ := f1_.symm; have f5_ := f3_.symm; clear f1_ f2_ f3_; subst f4_; subst f5_))
                    refine hK.out _ _ ⟨(blk_cell BK391.out 0).trans rfl, (blk_cell BK391.out 1).trans rfl, (blk_cell BK391.out 2).trans rfl, (blk_cell BK391.out 3).trans rfl, (blk_cell BK380.out 0).trans rfl, (blk_cell BK380.out 1).trans rfl, (blk_cell BK380.out 2).trans rfl, (blk_cell BK380.out 3).trans rfl⟩ (fun hHeld => ?_)
                    clear hK K
                    refine norm_ (a' := ?_) ?_ ?_
                    rotate_left
                    · show Act.put _ (some 79) _ = _
                      simp only [Act.put, List.setIfInBounds_toArray, List.set_cons_zero, List.set_cons_succ, i64_w, i32_w]
                      rfl
                    refine one_ (i := 9) (N := some 80) #[true, true, true, true, true, true, true, true, true, true, false, false, false, false, false, false, false, false, false] rfl rfl (one_of HT_.out (by kernel_rfl)) (by decide) (fun K hK => ?_)
                    refine goes_ Try.func25 (by kernel_rfl) rfl #[.agg #[.int .u64 t384, .int .u32 t385, .slice Ao71 t386.length co71, .int .i64 t389], .agg #[.int .u64 t395, .int .u64 t396, .slice Ao75 t397.length co75, .int .i64 t400]] (by rfl) rfl rfl (by (try simp only [List.map_toArray, List.map_cons, List.map_nil]); first | done | rfl | (simp only [List.length_drop, List.length_take]; rfl)) ?_
                    with_reducible refine (psalterylaw05_SameDec.calls t384 t385 _ _ t386 t389 t395 t396 _ _ t397 t400 true _ ?side1 ?side2 ?side3 ?side4 A44.out).mono ?_
                    (case side1 => repeat (first | exact (Kd.V_reads' HO388.out).2.2 | (with_reducible refine Kd.C_alloc ?_ _) | (with_reducible refine Kd.C_drewN ?_ _) | (with_reducible refine Kd.C_drew ?_)))
                    (case side2 => exact (Kd.V_reads' HO388.out).2.1)
                    (case side3 => repeat (first | exact (Kd.V_reads' HO399.out).2.2 | (with_reducible refine Kd.C_alloc ?_ _) | (with_reducible refine Kd.C_drewN ?_ _) | (with_reducible refine Kd.C_drew ?_)))
                    (case side4 => exact (Kd.V_reads' HO399.out).2.1)
                    rintro e w76 ⟨rfl, hb⟩
                    refine ⟨_, rfl, ?_⟩
                    have n0_ := Aside0.mk (Kd.V_below (by (with_reducible repeat (first | apply Kd.V_alloc | apply Kd.V_drewN | apply Kd.V_drew)); exact HO_381002.out) hb)
                    have n1_ := Aside0.mk (Kd.V_below (by (with_reducible repeat (first | apply Kd.V_alloc | apply Kd.V_drewN | apply Kd.V_drew)); exact HO388.out) hb)
                    have n2_ := Aside0.mk (Kd.V_below (by (with_reducible repeat (first | apply Kd.V_alloc | apply Kd.V_drewN | apply Kd.V_drew)); exact HO399.out) hb)
                    have n3_ := Aside0.mk (blk_below (g := gb372) (o := .cells #[.int .u64 a0_0, .int .u32 a0_1, .slice A0_2 l0_2.length c0_2, .int .i64 a0_3] 43 (0, 0)) (by (with_reducible repeat (first | refine blk_drewN ?_ _ | refine blk_drew ?_ | refine blk_alloc ?_ _)); exact BK372.out) hb)
                    have n4_ := Aside0.mk (blk_below (g := gb380) (o := .cells #[.int .u64 t374, .int .u64 t375, .slice Ao19 t376.length co19, .int .i64 t379] 46 (0, 0)) (by (with_reducible repeat (first | refine blk_drewN ?_ _ | refine blk_drew ?_ | refine blk_alloc ?_ _)); exact BK380.out) hb)
                    have n5_ := Aside0.mk (blk_below (g := gb391) (o := .cells #[.int .u64 t384, .int .u32 t385, .slice Ao71 t386.length co71, .int .i64 t389] 43 (0, 0)) (by (with_reducible repeat (first | refine blk_drewN ?_ _ | refine blk_drew ?_ | refine blk_alloc ?_ _)); exact BK391.out) hb)
                    have n6_ := Aside0.mk (below_step (by repeat (first | (with_reducible first | exact HB.out | apply below_alloc | apply pw_below_drewN | apply below_drew1 | refine below_set ?_ GE372.out | refine below_set ?_ GE380.out | refine below_set ?_ GE391.out) | exact HB.out)) hb)
                    clear HO_381002
                    clear HO388
                    clear HO399
                    clear BK372
                    clear BK380
                    clear BK391
                    clear HB
                    have HO_381002 := n0_
                    have HO388 := n1_
                    have HO399 := n2_
                    have BK372 := n3_
                    have BK380 := n4_
                    have BK391 := n5_
                    have HB := n6_
                    clear n0_ n1_ n2_ n3_ n4_ n5_ n6_
                    (try clear hb)
                    (try clear hb2)
                    (try clear hk)
                    (try clear hi)
                    refine hK.out _ _ ⟨(blk_cell BK391.out 0).trans rfl, (blk_cell BK391.out 1).trans rfl, (blk_cell BK391.out 2).trans rfl, (blk_cell BK391.out 3).trans rfl, (blk_cell BK380.out 0).trans rfl, (blk_cell BK380.out 1).trans rfl, (blk_cell BK380.out 2).trans rfl, (blk_cell BK380.out 3).trans rfl⟩ (fun hHeld => ?_)
                    clear hK K
                    refine norm_ (a' := ?_) ?_ ?_
                    rotate_left
                    · show Act.put _ (some 80) _ = _
                      simp only [Act.put, List.setIfInBounds_toArray, List.set_cons_zero, List.set_cons_succ, i64_w, i32_w]
                      rfl
                    refine pure_ (i := 10) (N := some 81) (v := ?_) (a' := ?_) #[true, true, true, true, true, true, true, true, true, true, true, false, false, false, false, false, false, false, false] rfl rfl (any_of HT_.out (by kernel_rfl)) (fun _ _ _ h => h) (Or.inl ⟨by rfl, ?_⟩) ?_ ?_
                    rotate_left
                    · intro w'
                      go_simp
                      with_reducible rfl
                    rotate_left
                    · simp only [Act.put, List.setIfInBounds_toArray, List.set_cons_zero, List.set_cons_succ, i64_w, i32_w]
                      rfl
                    refine pure_ (i := 11) (N := some 82) (v := ?_) (a' := ?_) #[true, true, true, true, true, true, true, true, true, true, true, true, false, false, false, false, false, false, false] rfl rfl (any_of HT_.out (by kernel_rfl)) (fun _ _ _ h => h) (Or.inl ⟨by rfl, ?_⟩) ?_ ?_
                    rotate_left
                    · intro w'
                      go_simp
                      with_reducible rfl
                    rotate_left
                    · simp only [Act.put, List.setIfInBounds_toArray, List.set_cons_zero, List.set_cons_succ, i64_w, i32_w]
                      rfl
                    refine take_ (i := 12) (N := some 83) (v := ?_) (a' := ?_) #[true, true, true, true, true, true, true, true, true, true, true, true, true, false, false, false, false, false, false] rfl rfl (take_ofW HT_.out HW_.out (by kernel_rfl)) (fun _ _ _ h => h) (Or.inl ⟨by rfl, ?_⟩) hHeld ?_ ?_
                    rotate_left
                    · rintro w' ⟨s0, s1, s2, s3, s4, s5, s6, s7⟩
                      go_simp
                      with_reducible rfl
                    rotate_left
                    · simp only [Act.put, List.setIfInBounds_toArray, List.set_cons_zero, List.set_cons_succ, i64_w, i32_w]
                      rfl
                    refine one_ (i := 13) (N := some 84) #[true, true, true, true, true, true, true, true, true, true, true, true, true, true, false, false, false, false, false] rfl rfl (one_of HT_.out (by kernel_rfl)) (by decide) (fun K hK => ?_)
                    refine goes_ Try.func28 (by kernel_rfl) rfl #[.agg #[.int .u64 t384, .int .u32 t385, .slice Ao71 t386.length co71, .int .i64 t389]] (by rfl) rfl rfl (by (try simp only [List.map_toArray, List.map_cons, List.map_nil]); first | done | rfl | (simp only [List.length_drop, List.length_take]; rfl)) ?_
                    with_reducible refine (coder_RightDec.calls t384 t385 _ _ t386 t389 false _ ?side1 ?side2 A46.out).mono ?_
                    (case side1 => repeat (first | exact (Kd.V_reads' HO388.out).2.2 | (with_reducible refine Kd.C_alloc ?_ _) | (with_reducible refine Kd.C_drewN ?_ _) | (with_reducible refine Kd.C_drew ?_)))
                    (case side2 => exact (Kd.V_reads' HO388.out).2.1)
                    rintro e w77 ⟨rfl, hb⟩
                    refine ⟨_, rfl, ?_⟩
                    have n0_ := Aside0.mk (Kd.V_below (by (with_reducible repeat (first | apply Kd.V_alloc | apply Kd.V_drewN | apply Kd.V_drew)); exact HO_381002.out) hb)
                    have n1_ := Aside0.mk (Kd.V_below (by (with_reducible repeat (first | apply Kd.V_alloc | apply Kd.V_drewN | apply Kd.V_drew)); exact HO388.out) hb)
                    have n2_ := Aside0.mk (Kd.V_below (by (with_reducible repeat (first | apply Kd.V_alloc | apply Kd.V_drewN | apply Kd.V_drew)); exact HO399.out) hb)
                    have n3_ := Aside0.mk (blk_below (g := gb372) (o := .cells #[.int .u64 a0_0, .int .u32 a0_1, .slice A0_2 l0_2.length c0_2, .int .i64 a0_3] 43 (0, 0)) (by (with_reducible repeat (first | refine blk_drewN ?_ _ | refine blk_drew ?_ | refine blk_alloc ?_ _)); exact BK372.out) hb)
                    have n4_ := Aside0.mk (blk_below (g := gb380) (o := .cells #[.int .u64 t374, .int .u64 t375, .slice Ao19 t376.length co19, .int .i64 t379] 46 (0, 0)) (by (with_reducible repeat (first | refine blk_drewN ?_ _ | refine blk_drew ?_ | refine blk_alloc ?_ _)); exact BK380.out) hb)
                    have n5_ := Aside0.mk (blk_below (g := gb391) (o := .cells #[.int .u64 t384, .int .u32 t385, .slice Ao71 t386.length co71, .int .i64 t389] 43 (0, 0)) (by (with_reducible repeat (first | refine blk_drewN ?_ _ | refine blk_drew ?_ | refine blk_alloc ?_ _)); exact BK391.out) hb)
                    have n6_ := Aside0.mk (below_step (by repeat (first | (with_reducible first | exact HB.out | apply below_alloc | apply pw_below_drewN | apply below_drew1 | refine below_set ?_ GE372.out | refine below_set ?_ GE380.out | refine below_set ?_ GE391.out) | exact HB.out)) hb)
                    clear HO_381002
                    clear HO388
                    clear HO399
                    clear BK372
                    clear BK380
                    clear BK391
                    clear HB
                    have HO_381002 := n0_
                    have HO388 := n1_
                    have HO399 := n2_
                    have BK372 := n3_
                    have BK380 := n4_
                    have BK391 := n5_
                    have HB := n6_
                    clear n0_ n1_ n2_ n3_ n4_ n5_ n6_
                    (try clear hb)
                    (try clear hb2)
                    (try clear hk)
                    (try clear hi)
                    refine hK.out _ _ ⟨(blk_cell BK391.out 0).trans rfl, (blk_cell BK391.out 1).trans rfl, (blk_cell BK391.out 2).trans rfl, (blk_cell BK391.out 3).trans rfl, (blk_cell BK380.out 0).trans rfl, (blk_cell BK380.out 1).trans rfl, (blk_cell BK380.out 2).trans rfl, (blk_cell BK380.out 3).trans rfl⟩ (fun hHeld => ?_)
                    clear hK K
                    refine norm_ (a' := ?_) ?_ ?_
                    rotate_left
                    · show Act.put _ (some 84) _ = _
                      simp only [Act.put, List.setIfInBounds_toArray, List.set_cons_zero, List.set_cons_succ, i64_w, i32_w]
                      rfl
                    refine pure_ (i := 14) (N := some 85) (v := ?_) (a' := ?_) #[true, true, true, true, true, true, true, true, true, true, true, true, true, true, true, false, false, false, false] rfl rfl (any_of HT_.out (by kernel_rfl)) (fun _ _ _ h => h) (Or.inl ⟨by rfl, ?_⟩) ?_ ?_
                    rotate_left
                    · intro w'
                      go_simp
                      with_reducible rfl
                    rotate_left
                    · simp only [Act.put, List.setIfInBounds_toArray, List.set_cons_zero, List.set_cons_succ, i64_w, i32_w]
                      rfl
                    refine pure_ (i := 15) (N := some 86) (v := ?_) (a' := ?_) #[true, true, true, true, true, true, true, true, true, true, true, true, true, true, true, true, false, false, false] rfl rfl (any_of HT_.out (by kernel_rfl)) (fun _ _ _ h => h) (Or.inl ⟨by rfl, ?_⟩) ?_ ?_
                    rotate_left
                    · intro w'
                      go_simp
                      with_reducible rfl
                    rotate_left
                    · simp only [Act.put, List.setIfInBounds_toArray, List.set_cons_zero, List.set_cons_succ, i64_w, i32_w]
                      rfl
                    refine pure_ (i := 16) (N := some 87) (v := undef) (a' := ?_) #[true, true, true, true, true, true, true, true, true, true, true, true, true, true, true, true, true, false, false] rfl rfl (any_of HT_.out (by kernel_rfl)) (fun _ _ _ h => h) (Or.inr ⟨by rfl, rfl⟩) ?_ ?_
                    rotate_left
                    · simp only [Act.put, List.setIfInBounds_toArray, List.set_cons_zero, List.set_cons_succ, i64_w, i32_w]
                      rfl
                    refine pure_ (i := 17) (N := some 88) (v := ?_) (a' := ?_) #[true, true, true, true, true, true, true, true, true, true, true, true, true, true, true, true, true, true, false] rfl rfl (any_of HT_.out (by kernel_rfl)) (fun _ _ _ h => h) (Or.inl ⟨by rfl, ?_⟩) ?_ ?_
                    rotate_left
                    · intro w'
                      go_simp
                      with_reducible rfl
                    rotate_left
                    · simp only [Act.put, List.setIfInBounds_toArray, List.set_cons_zero, List.set_cons_succ, i64_w, i32_w]
                      rfl
                    refine pure_ (i := 18) (N := some 8) (v := ?_) (a' := ?_) #[true, true, true, true, true, true, true, true, true, true, true, true, true, true, true, true, true, true, true] rfl rfl (any_of HT_.out (by kernel_rfl)) (fun _ _ _ h => h) (Or.inl ⟨by rfl, ?_⟩) ?_ ?_
                    rotate_left
                    · intro w'
                      go_simp
                      with_reducible rfl
                    rotate_left
                    · simp only [Act.put, List.setIfInBounds_toArray, List.set_cons_zero, List.set_cons_succ, i64_w, i32_w]
                      rfl
                    refine done_ (done_of HT_.out (by kernel_rfl)) ?_
                    try go_wp2
                    go_ret
                    exact ⟨by first | rfl | (simp [errW_none, errW_some] <;> rfl) | (simp [*, errW_none, errW_some] <;> rfl), by repeat (first | (with_reducible first | exact HB.out | apply below_alloc | apply pw_below_drewN | apply below_drew1 | refine below_set ?_ GE372.out | refine below_set ?_ GE380.out | refine below_set ?_ GE391.out) | exact HB.out)⟩
                · replace c45 := Bool.eq_false_iff.mpr c45
                  subst c45
                  have H1 : (some false) = some r := by rw [if_neg (show ¬ (false = true) by decide)] at H; exact H
                  clear H
                  have H := H1
                  clear H1
                  obtain rfl := Option.some.inj H
                  have hnb78 := NB372_380.out
                  have hnc78 := NB380_372.out
                  have hcz79_0 : wc.cell? ⟨gb372, 0, none⟩ = some (.int .u64 a0_0) := (blk_cell BK372.out 0).trans rfl
                  have hcz79_1 : wc.cell? ⟨gb372, 1, none⟩ = some (.int .u32 a0_1) := (blk_cell BK372.out 1).trans rfl
                  have hcz79_2 : wc.cell? ⟨gb372, 2, none⟩ = some (.slice A0_2 l0_2.length c0_2) := (blk_cell BK372.out 2).trans rfl
                  have hcz79_3 : wc.cell? ⟨gb372, 3, none⟩ = some (.int .i64 a0_3) := (blk_cell BK372.out 3).trans rfl
                  have hfz79_0 := blk_frozen BK372.out 0
                  have hfz79_1 := blk_frozen BK372.out 1
                  have hfz79_2 := blk_frozen BK372.out 2
                  have hfz79_3 := blk_frozen BK372.out 3
                  try go_wp2_with (first | ((with_reducible refine gate_callee (f := 34) rfl ?_); refine goesL_ (some 53) rfl rfl Try.func34 (by kernel_rfl) rfl #[.agg #[.int .u64 a0_0, .int .u32 a0_1, .slice A0_2 l0_2.length c0_2, .int .i64 a0_3], .int .i64 a1, .int .i64 a2, .int .i64 a3] rfl (by (try simp only [List.map_toArray, List.map_cons, List.map_nil]); first | done | rfl | (simp only [List.length_drop, List.length_take]; rfl)) ?_; (with_reducible refine (coder_Take.calls kj22 a0_0 a0_1 (fun k_ => k_ < w.heap.size) _ _ l0_2 a0_3 a1 a2 a3 t384 t385 t386 t389 t390 _ ?side1 A39.out).mono ?_); (case side1 => exact Kd.V_mk HC0_2.out (Kd.F_below (Kd.C_F (Kd.heap_int .u8) HR0_2.out) (by repeat (first | (with_reducible first | exact HB.out | apply below_alloc | apply pw_below_drewN | apply below_drew1 | refine below_set ?_ GE372.out | refine below_set ?_ GE380.out) | exact HB.out)))); rintro e w80 ⟨v387, rfl, ho0, hb⟩; refine ⟨_, rfl, ?_⟩; have n0_ := Aside0.mk (Kd.V_below (by (with_reducible repeat (first | apply Kd.V_alloc | apply Kd.V_drewN | apply Kd.V_drew)); exact HO_381002.out) hb); have n1_ := Aside0.mk (Kd.V_lower (Kd.V_mono (ok' := fun k_ => k_ ≠ gb372 ∧ k_ ≠ gb380) ho0 (fun k_ hk_ => ⟨Or.elim hk_ (fun hs_ => fun e_ => Nat.not_le.2 hs_ (by rw [e_]; exact GW372.out)) (fun hn_ => (Kd.freshB (g := gb372) (o := .cells #[.int .u64 a0_0, .int .u32 a0_1, .slice A0_2 l0_2.length c0_2, .int .i64 a0_3] 43 (0, 0)) (by (with_reducible repeat (first | refine blk_drewN ?_ _ | refine blk_drew ?_ | refine blk_alloc ?_ _)); exact BK372.out) k_ hn_)), Or.elim hk_ (fun hs_ => fun e_ => Nat.not_le.2 hs_ (by rw [e_]; exact GW380.out)) (fun hn_ => (Kd.freshB (g := gb380) (o := .cells #[.int .u64 t374, .int .u64 t375, .slice Ao19 t376.length co19, .int .i64 t379] 46 (0, 0)) (by (with_reducible repeat (first | refine blk_drewN ?_ _ | refine blk_drew ?_ | refine blk_alloc ?_ _)); exact BK380.out) k_ hn_))⟩)) (below_size (by repeat (first | (with_reducible first | exact HB.out | apply below_alloc | apply pw_below_drewN | apply below_drew1 | refine below_set ?_ GE372.out | refine below_set ?_ GE380.out) | exact HB.out)))); have n2_ := Aside0.mk (blk_below (g := gb372) (o := .cells #[.int .u64 a0_0, .int .u32 a0_1, .slice A0_2 l0_2.length c0_2, .int .i64 a0_3] 43 (0, 0)) (by (with_reducible repeat (first | refine blk_drewN ?_ _ | refine blk_drew ?_ | refine blk_alloc ?_ _)); exact BK372.out) hb); have n3_ := Aside0.mk (blk_below (g := gb380) (o := .cells #[.int .u64 t374, .int .u64 t375, .slice Ao19 t376.length co19, .int .i64 t379] 46 (0, 0)) (by (with_reducible repeat (first | refine blk_drewN ?_ _ | refine blk_drew ?_ | refine blk_alloc ?_ _)); exact BK380.out) hb); have n4_ := Aside0.mk (below_step (by repeat (first | (with_reducible first | exact HB.out | apply below_alloc | apply pw_below_drewN | apply below_drew1 | refine below_set ?_ GE372.out | refine below_set ?_ GE380.out) | exact HB.out)) hb); clear HO_381002; clear BK372; clear BK380; clear HB; have HO_381002 := n0_; have HO388 := n1_; have BK372 := n2_; have BK380 := n3_; have HB := n4_; clear n0_ n1_ n2_ n3_ n4_; (try clear hb); (try clear hb2); (try clear hk); (try clear hi); (try clear ho0)) | ((with_reducible refine gate_dst (N := 12) rfl ?_); refine box_event ?hg (N := 12) ?hd (cs := #[.int .u64 0, .int .u32 0, .slice none 0 0, .int .i64 0]) (t := 43) ?hr ?_; (case hd => rfl); (case hg => rfl); (case hr => first | (go_simp; done) | (go_simp; rfl)); intro gb391 hg w81 hbox hb; have n0_ := Aside0.mk (Kd.V_below (Kd.V_elderB (by (with_reducible repeat (first | apply Kd.V_alloc | apply Kd.V_drewN | apply Kd.V_drew)); exact HO_381002.out) gb391 (Nat.le_of_eq hg.symm)) hb); have n1_ := Aside0.mk (Kd.V_below (Kd.V_elderB (by (with_reducible repeat (first | apply Kd.V_alloc | apply Kd.V_drewN | apply Kd.V_drew)); exact HO388.out) gb391 (Nat.le_of_eq hg.symm)) hb); have n2_ := Aside0.mk (blk_below (g := gb372) (o := .cells #[.int .u64 a0_0, .int .u32 a0_1, .slice A0_2 l0_2.length c0_2, .int .i64 a0_3] 43 (0, 0)) (by (with_reducible repeat (first | refine blk_drewN ?_ _ | refine blk_drew ?_ | refine blk_alloc ?_ _)); exact BK372.out) hb); have n3_ := Aside0.mk (blk_below (g := gb380) (o := .cells #[.int .u64 t374, .int .u64 t375, .slice Ao19 t376.length co19, .int .i64 t379] 46 (0, 0)) (by (with_reducible repeat (first | refine blk_drewN ?_ _ | refine blk_drew ?_ | refine blk_alloc ?_ _)); exact BK380.out) hb); have n4_ := Aside0.mk (below_step (by repeat (first | (with_reducible first | exact HB.out | apply below_alloc | apply pw_below_drewN | apply below_drew1 | refine below_set ?_ GE372.out | refine below_set ?_ GE380.out) | exact HB.out)) hb); have n5_ := Aside0.mk (hbox); have n6_ := Aside0.mk ((by rw [hg]; exact (below_size (by repeat (first | (with_reducible first | exact HB.out | apply below_alloc | apply pw_below_drewN | apply below_drew1 | refine below_set ?_ GE372.out | refine below_set ?_ GE380.out) | exact HB.out))) : w.heap.size ≤ gb391)); have n7_ := Aside0.mk ((by rw [hg]; exact (below_size (by repeat (first | (with_reducible first | exact HB.out | apply below_alloc | apply pw_below_drewN | apply below_drew1 | refine below_set ?_ GE372.out | refine below_set ?_ GE380.out) | exact HB.out))) : w.heap.size ≤ gb391)); have n8_ := Aside0.mk ((by rw [hg]; exact Nat.ne_of_lt (blk_lt (g := gb372) (o := .cells #[.int .u64 a0_0, .int .u32 a0_1, .slice A0_2 l0_2.length c0_2, .int .i64 a0_3] 43 (0, 0)) (by (with_reducible repeat (first | refine blk_drewN ?_ _ | refine blk_drew ?_ | refine blk_alloc ?_ _)); exact BK372.out)) : gb372 ≠ gb391)); have n9_ := Aside0.mk ((by rw [hg]; exact Nat.ne_of_gt (blk_lt (g := gb372) (o := .cells #[.int .u64 a0_0, .int .u32 a0_1, .slice A0_2 l0_2.length c0_2, .int .i64 a0_3] 43 (0, 0)) (by (with_reducible repeat (first | refine blk_drewN ?_ _ | refine blk_drew ?_ | refine blk_alloc ?_ _)); exact BK372.out)) : gb391 ≠ gb372)); have n10_ := Aside0.mk ((by rw [hg]; exact Nat.ne_of_lt (blk_lt (g := gb380) (o := .cells #[.int .u64 t374, .int .u64 t375, .slice Ao19 t376.length co19, .int .i64 t379] 46 (0, 0)) (by (with_reducible repeat (first | refine blk_drewN ?_ _ | refine blk_drew ?_ | refine blk_alloc ?_ _)); exact BK380.out)) : gb380 ≠ gb391)); have n11_ := Aside0.mk ((by rw [hg]; exact Nat.ne_of_gt (blk_lt (g := gb380) (o := .cells #[.int .u64 t374, .int .u64 t375, .slice Ao19 t376.length co19, .int .i64 t379] 46 (0, 0)) (by (with_reducible repeat (first | refine blk_drewN ?_ _ | refine blk_drew ?_ | refine blk_alloc ?_ _)); exact BK380.out)) : gb391 ≠ gb380)); clear HO_381002; clear HO388; clear BK372; clear BK380; clear HB; have HO_381002 := n0_; have HO388 := n1_; have BK372 := n2_; have BK380 := n3_; have HB := n4_; have BK391 := n5_; have GW391 := n6_; have GE391 := n7_; have NB372_391 := n8_; have NB391_372 := n9_; have NB380_391 := n10_; have NB391_380 := n11_; clear n0_ n1_ n2_ n3_ n4_ n5_ n6_ n7_ n8_ n9_ n10_ n11_; clear hb hbox hg; have hnb82 := NB391_372.out; have hnc82 := NB372_391.out; have hnb83 := NB391_380.out; have hnc83 := NB380_391.out; have hcz84_0 : w81.cell? ⟨gb391, 0, none⟩ = some (.int .u64 0) := (blk_cell BK391.out 0).trans rfl; have hcz84_1 : w81.cell? ⟨gb391, 1, none⟩ = some (.int .u32 0) := (blk_cell BK391.out 1).trans rfl; have hcz84_2 : w81.cell? ⟨gb391, 2, none⟩ = some (.slice none 0 0) := (blk_cell BK391.out 2).trans rfl; have hcz84_3 : w81.cell? ⟨gb391, 3, none⟩ = some (.int .i64 0) := (blk_cell BK391.out 3).trans rfl; have hfz84_0 := blk_frozen BK391.out 0; have hfz84_1 := blk_frozen BK391.out 1; have hfz84_2 := blk_frozen BK391.out 2; have hfz84_3 := blk_frozen BK391.out 3; obtain ⟨Ao85, co85, eo85⟩ := Kd.V_slice HO388.out; subst eo85) | ((with_reducible refine gate_callee (f := 35) rfl ?_); refine goesL_ (some 59) rfl rfl Try.func35 (by kernel_rfl) rfl #[.int .i64 a1, .int .i64 a2, .int .i64 a3] rfl (by (try simp only [List.map_toArray, List.map_cons, List.map_nil]); first | done | rfl | (simp only [List.length_drop, List.length_take]; rfl)) ?_; (with_reducible refine (psalteryref05_Fair.calls a1 a2 a3 true _ A40.out).mono ?_); rintro e w' ⟨rfl, ⟨nd, rfl⟩⟩; refine ⟨_, rfl, ?_⟩))
                  have n0_ : Aside0 (Kd.V (Kd.int .u8) 5 ((((w81.setCell ⟨gb391, 0, none⟩ (.int .u64 t384)).setCell ⟨gb391, 1, none⟩ (.int .u32 t385)).setCell ⟨gb391, 2, none⟩ (.slice Ao85 t386.length co85)).setCell ⟨gb391, 3, none⟩ (.int .i64 t389)) w.heap.size (fun k_ => k_ ≠ gb372 ∧ k_ ≠ gb380 ∧ k_ ≠ gb391) (.slice Ao19 t376.length co19) t376) := ⟨by (with_reducible repeat (first | apply Kd.V_alloc | apply Kd.V_drewN | apply Kd.V_drew)); exact Kd.V_mono (Kd.V_far (p := ⟨gb391, 3, none⟩) (Kd.V_far (p := ⟨gb391, 2, none⟩) (Kd.V_far (p := ⟨gb391, 1, none⟩) (Kd.V_far (p := ⟨gb391, 0, none⟩) (Kd.V_mono HO_381002.out (fun k_ hk => (⟨hk, hk.2⟩ : _ ∧ k_ ≠ gb391))) (fun _ hk => hk.2) (.int .u64 t384)) (fun _ hk => hk.2) (.int .u32 t385)) (fun _ hk => hk.2) (.slice Ao85 t386.length co85)) (fun _ hk => hk.2) (.int .i64 t389)) (fun _ hk => ⟨hk.1.1.1, ⟨hk.1.1.2, hk.1.2⟩⟩)⟩
                  have n1_ : Aside0 (Kd.V (Kd.int .u8) 5 ((((w81.setCell ⟨gb391, 0, none⟩ (.int .u64 t384)).setCell ⟨gb391, 1, none⟩ (.int .u32 t385)).setCell ⟨gb391, 2, none⟩ (.slice Ao85 t386.length co85)).setCell ⟨gb391, 3, none⟩ (.int .i64 t389)) w.heap.size (fun k_ => k_ ≠ gb372 ∧ k_ ≠ gb380 ∧ k_ ≠ gb391) (.slice Ao85 t386.length co85) t386) := ⟨by (with_reducible repeat (first | apply Kd.V_alloc | apply Kd.V_drewN | apply Kd.V_drew)); exact Kd.V_mono (Kd.V_far (p := ⟨gb391, 3, none⟩) (Kd.V_far (p := ⟨gb391, 2, none⟩) (Kd.V_far (p := ⟨gb391, 1, none⟩) (Kd.V_far (p := ⟨gb391, 0, none⟩) (Kd.V_mono HO388.out (fun k_ hk => (⟨hk, hk.2⟩ : _ ∧ k_ ≠ gb391))) (fun _ hk => hk.2) (.int .u64 t384)) (fun _ hk => hk.2) (.int .u32 t385)) (fun _ hk => hk.2) (.slice Ao85 t386.length co85)) (fun _ hk => hk.2) (.int .i64 t389)) (fun _ hk => ⟨hk.1.1.1, ⟨hk.1.1.2, hk.1.2⟩⟩)⟩
                  have n2_ : Aside0 (((((w81.setCell ⟨gb391, 0, none⟩ (.int .u64 t384)).setCell ⟨gb391, 1, none⟩ (.int .u32 t385)).setCell ⟨gb391, 2, none⟩ (.slice Ao85 t386.length co85)).setCell ⟨gb391, 3, none⟩ (.int .i64 t389)).heap[gb372]? = some (.cells #[.int .u64 a0_0, .int .u32 a0_1, .slice A0_2 l0_2.length c0_2, .int .i64 a0_3] 43 (0, 0))) := ⟨by (with_reducible repeat (first | refine blk_drewN ?_ _ | refine blk_drew ?_ | refine blk_alloc ?_ _)); refine blk_far ?_ NB372_391.out _; (with_reducible repeat (first | refine blk_drewN ?_ _ | refine blk_drew ?_ | refine blk_alloc ?_ _)); refine blk_far ?_ NB372_391.out _; (with_reducible repeat (first | refine blk_drewN ?_ _ | refine blk_drew ?_ | refine blk_alloc ?_ _)); refine blk_far ?_ NB372_391.out _; (with_reducible repeat (first | refine blk_drewN ?_ _ | refine blk_drew ?_ | refine blk_alloc ?_ _)); refine blk_far ?_ NB372_391.out _; (with_reducible repeat (first | refine blk_drewN ?_ _ | refine blk_drew ?_ | refine blk_alloc ?_ _)); exact BK372.out⟩
                  have n3_ : Aside0 (((((w81.setCell ⟨gb391, 0, none⟩ (.int .u64 t384)).setCell ⟨gb391, 1, none⟩ (.int .u32 t385)).setCell ⟨gb391, 2, none⟩ (.slice Ao85 t386.length co85)).setCell ⟨gb391, 3, none⟩ (.int .i64 t389)).heap[gb380]? = some (.cells #[.int .u64 t374, .int .u64 t375, .slice Ao19 t376.length co19, .int .i64 t379] 46 (0, 0))) := ⟨by (with_reducible repeat (first | refine blk_drewN ?_ _ | refine blk_drew ?_ | refine blk_alloc ?_ _)); refine blk_far ?_ NB380_391.out _; (with_reducible repeat (first | refine blk_drewN ?_ _ | refine blk_drew ?_ | refine blk_alloc ?_ _)); refine blk_far ?_ NB380_391.out _; (with_reducible repeat (first | refine blk_drewN ?_ _ | refine blk_drew ?_ | refine blk_alloc ?_ _)); refine blk_far ?_ NB380_391.out _; (with_reducible repeat (first | refine blk_drewN ?_ _ | refine blk_drew ?_ | refine blk_alloc ?_ _)); refine blk_far ?_ NB380_391.out _; (with_reducible repeat (first | refine blk_drewN ?_ _ | refine blk_drew ?_ | refine blk_alloc ?_ _)); exact BK380.out⟩
                  have n4_ : Aside0 (((((w81.setCell ⟨gb391, 0, none⟩ (.int .u64 t384)).setCell ⟨gb391, 1, none⟩ (.int .u32 t385)).setCell ⟨gb391, 2, none⟩ (.slice Ao85 t386.length co85)).setCell ⟨gb391, 3, none⟩ (.int .i64 t389)).heap[gb391]? = some (.cells #[.int .u64 t384, .int .u32 t385, .slice Ao85 t386.length co85, .int .i64 t389] 43 (0, 0))) := ⟨by (with_reducible repeat (first | refine blk_drewN ?_ _ | refine blk_drew ?_ | refine blk_alloc ?_ _)); refine blk_put (cs := #[.int .u64 t384, .int .u32 t385, .slice Ao85 t386.length co85, .int .i64 0]) ?_ 3 _ rfl; (with_reducible repeat (first | refine blk_drewN ?_ _ | refine blk_drew ?_ | refine blk_alloc ?_ _)); refine blk_put (cs := #[.int .u64 t384, .int .u32 t385, .slice none 0 0, .int .i64 0]) ?_ 2 _ rfl; (with_reducible repeat (first | refine blk_drewN ?_ _ | refine blk_drew ?_ | refine blk_alloc ?_ _)); refine blk_put (cs := #[.int .u64 t384, .int .u32 0, .slice none 0 0, .int .i64 0]) ?_ 1 _ rfl; (with_reducible repeat (first | refine blk_drewN ?_ _ | refine blk_drew ?_ | refine blk_alloc ?_ _)); refine blk_put (cs := #[.int .u64 0, .int .u32 0, .slice none 0 0, .int .i64 0]) ?_ 0 _ rfl; (with_reducible repeat (first | refine blk_drewN ?_ _ | refine blk_drew ?_ | refine blk_alloc ?_ _)); exact BK391.out⟩
                  have n5_ : Aside0 (Below w.heap.size w ((((w81.setCell ⟨gb391, 0, none⟩ (.int .u64 t384)).setCell ⟨gb391, 1, none⟩ (.int .u32 t385)).setCell ⟨gb391, 2, none⟩ (.slice Ao85 t386.length co85)).setCell ⟨gb391, 3, none⟩ (.int .i64 t389))) := ⟨by repeat (first | (with_reducible first | exact HB.out | apply below_alloc | apply pw_below_drewN | apply below_drew1 | refine below_set ?_ GE372.out | refine below_set ?_ GE380.out | refine below_set ?_ GE391.out) | exact HB.out)⟩
                  (try clear HO_381002)
                  (try clear HO388)
                  (try clear BK372)
                  (try clear BK380)
                  (try clear BK391)
                  (try clear HB)
                  generalize ((((w81.setCell ⟨gb391, 0, none⟩ (.int .u64 t384)).setCell ⟨gb391, 1, none⟩ (.int .u32 t385)).setCell ⟨gb391, 2, none⟩ (.slice Ao85 t386.length co85)).setCell ⟨gb391, 3, none⟩ (.int .i64 t389)) = w86 at n0_ n1_ n2_ n3_ n4_ n5_ ⊢
                  have HO_381002 := n0_
                  have HO388 := n1_
                  have BK372 := n2_
                  have BK380 := n3_
                  have BK391 := n4_
                  have HB := n5_
                  clear n0_ n1_ n2_ n3_ n4_ n5_
                  (try (rw [drewN_self w86]; generalize hq_ : World.drewN w86 _ = w86; have n0_ : Aside0 (Kd.V (Kd.int .u8) 5 w86 w.heap.size (fun k_ => k_ ≠ gb372 ∧ k_ ≠ gb380 ∧ k_ ≠ gb391) (.slice Ao85 t386.length co85) t386) := ⟨by rw [← hq_]; exact (by (with_reducible repeat (first | apply Kd.V_alloc | apply Kd.V_drewN | apply Kd.V_drew)); exact HO388.out)⟩; have n1_ : Aside0 (Kd.V (Kd.int .u8) 5 w86 w.heap.size (fun k_ => k_ ≠ gb372 ∧ k_ ≠ gb380 ∧ k_ ≠ gb391) (.slice Ao19 t376.length co19) t376) := ⟨by rw [← hq_]; exact (by (with_reducible repeat (first | apply Kd.V_alloc | apply Kd.V_drewN | apply Kd.V_drew)); exact HO_381002.out)⟩; have n2_ : Aside0 (w86.heap[gb372]? = some (.cells #[.int .u64 a0_0, .int .u32 a0_1, .slice A0_2 l0_2.length c0_2, .int .i64 a0_3] 43 (0, 0))) := ⟨by rw [← hq_]; exact (by (with_reducible repeat (first | refine blk_drewN ?_ _ | refine blk_drew ?_ | refine blk_alloc ?_ _)); exact BK372.out)⟩; have n3_ : Aside0 (w86.heap[gb380]? = some (.cells #[.int .u64 t374, .int .u64 t375, .slice Ao19 t376.length co19, .int .i64 t379] 46 (0, 0))) := ⟨by rw [← hq_]; exact (by (with_reducible repeat (first | refine blk_drewN ?_ _ | refine blk_drew ?_ | refine blk_alloc ?_ _)); exact BK380.out)⟩; have n4_ : Aside0 (w86.heap[gb391]? = some (.cells #[.int .u64 t384, .int .u32 t385, .slice Ao85 t386.length co85, .int .i64 t389] 43 (0, 0))) := ⟨by rw [← hq_]; exact (by (with_reducible repeat (first | refine blk_drewN ?_ _ | refine blk_drew ?_ | refine blk_alloc ?_ _)); exact BK391.out)⟩; have n5_ : Aside0 (Below w.heap.size w w86) := ⟨by rw [← hq_]; exact (by repeat (first | (with_reducible first | exact HB.out | apply below_alloc | apply pw_below_drewN | apply below_drew1 | refine below_set ?_ GE372.out | refine below_set ?_ GE380.out | refine below_set ?_ GE391.out) | exact HB.out))⟩; clear HO388 HO_381002 BK372 BK380 BK391 HB hq_; have HO388 := n0_; have HO_381002 := n1_; have BK372 := n2_; have BK380 := n3_; have BK391 := n4_; have HB := n5_; clear n0_ n1_ n2_ n3_ n4_ n5_))
                  have n0_ := Aside0.mk (Kd.V_drew HO_381002.out)
                  have n1_ := Aside0.mk (Kd.V_drew HO388.out)
                  have n2_ := Aside0.mk (blk_drew BK372.out)
                  have n3_ := Aside0.mk (blk_drew BK380.out)
                  have n4_ := Aside0.mk (blk_drew BK391.out)
                  have n5_ := Aside0.mk (below_drew1 HB.out)
                  clear HO_381002
                  clear HO388
                  clear BK372
                  clear BK380
                  clear BK391
                  clear HB
                  have HO_381002 := n0_
                  have HO388 := n1_
                  have BK372 := n2_
                  have BK380 := n3_
                  have BK391 := n4_
                  have HB := n5_
                  clear n0_ n1_ n2_ n3_ n4_ n5_
                  refine start_ (n := 19) (S := fun w' => w'.cell? ⟨gb391, 0, none⟩ = some (.int .u64 t384) ∧ w'.cell? ⟨gb391, 1, none⟩ = some (.int .u32 t385) ∧ w'.cell? ⟨gb391, 2, none⟩ = some (.slice Ao85 t386.length co85) ∧ w'.cell? ⟨gb391, 3, none⟩ = some (.int .i64 t389) ∧ w'.cell? ⟨gb380, 0, none⟩ = some (.int .u64 t374) ∧ w'.cell? ⟨gb380, 1, none⟩ = some (.int .u64 t375) ∧ w'.cell? ⟨gb380, 2, none⟩ = some (.slice Ao19 t376.length co19) ∧ w'.cell? ⟨gb380, 3, none⟩ = some (.int .i64 t379)) (ds := []) #[false, false, false, false, false, false, false, false, false, false, false, false, false, false, false, false, false, false, false] (by kernel_rfl) rfl rfl ⟨(blk_cell BK391.out 0).trans rfl, (blk_cell BK391.out 1).trans rfl, (blk_cell BK391.out 2).trans rfl, (blk_cell BK391.out 3).trans rfl, (blk_cell BK380.out 0).trans rfl, (blk_cell BK380.out 1).trans rfl, (blk_cell BK380.out 2).trans rfl, (blk_cell BK380.out 3).trans rfl⟩ (fun hHeld => ?_); refine with_tabW psalterylaw05_CoderTakes.tab13 psalterylaw05_CoderTakes.bits13 (fun HT_ HW_ => ?_)
                  generalize w86.drew = w87 at HO_381002 HO388 BK372 BK380 BK391 HB hHeld ⊢
                  refine pure_ (i := 0) (N := some 71) (v := ?_) (a' := ?_) #[true, false, false, false, false, false, false, false, false, false, false, false, false, false, false, false, false, false, false] rfl rfl (any_of HT_.out (by kernel_rfl)) (fun _ _ _ h => h) (Or.inl ⟨by rfl, ?_⟩) ?_ ?_
                  rotate_left
                  · intro w'
                    go_simp
                    with_reducible rfl
                  rotate_left
                  · simp only [Act.put, List.setIfInBounds_toArray, List.set_cons_zero, List.set_cons_succ, i64_w, i32_w]
                    rfl
                  refine pure_ (i := 1) (N := some 72) (v := ?_) (a' := ?_) #[true, true, false, false, false, false, false, false, false, false, false, false, false, false, false, false, false, false, false] rfl rfl (any_of HT_.out (by kernel_rfl)) (fun _ _ _ h => h) (Or.inl ⟨by rfl, ?_⟩) ?_ ?_
                  rotate_left
                  · intro w'
                    go_simp
                    with_reducible rfl
                  rotate_left
                  · simp only [Act.put, List.setIfInBounds_toArray, List.set_cons_zero, List.set_cons_succ, i64_w, i32_w]
                    rfl
                  refine pure_ (i := 2) (N := some 73) (v := ?_) (a' := ?_) #[true, true, true, false, false, false, false, false, false, false, false, false, false, false, false, false, false, false, false] rfl rfl (any_of HT_.out (by kernel_rfl)) (fun _ _ _ h => h) (Or.inl ⟨by rfl, ?_⟩) ?_ ?_
                  rotate_left
                  · intro w'
                    go_simp
                    with_reducible rfl
                  rotate_left
                  · simp only [Act.put, List.setIfInBounds_toArray, List.set_cons_zero, List.set_cons_succ, i64_w, i32_w]
                    rfl
                  refine pure_ (i := 5) (N := some 76) (v := ?_) (a' := ?_) #[true, true, true, false, false, true, false, false, false, false, false, false, false, false, false, false, false, false, false] rfl rfl (any_of HT_.out (by kernel_rfl)) (fun _ _ _ h => h) (Or.inl ⟨by rfl, ?_⟩) ?_ ?_
                  rotate_left
                  · intro w'
                    go_simp
                    with_reducible rfl
                  rotate_left
                  · simp only [Act.put, List.setIfInBounds_toArray, List.set_cons_zero, List.set_cons_succ, i64_w, i32_w]
                    rfl
                  refine pure_ (i := 6) (N := some 77) (v := ?_) (a' := ?_) #[true, true, true, false, false, true, true, false, false, false, false, false, false, false, false, false, false, false, false] rfl rfl (any_of HT_.out (by kernel_rfl)) (fun _ _ _ h => h) (Or.inl ⟨by rfl, ?_⟩) ?_ ?_
                  rotate_left
                  · intro w'
                    go_simp
                    with_reducible rfl
                  rotate_left
                  · simp only [Act.put, List.setIfInBounds_toArray, List.set_cons_zero, List.set_cons_succ, i64_w, i32_w]
                    rfl
                  refine pure_ (i := 7) (N := some 78) (v := ?_) (a' := ?_) #[true, true, true, false, false, true, true, true, false, false, false, false, false, false, false, false, false, false, false] rfl rfl (any_of HT_.out (by kernel_rfl)) (fun _ _ _ h => h) (Or.inl ⟨by rfl, ?_⟩) ?_ ?_
                  rotate_left
                  · intro w'
                    go_simp
                    with_reducible rfl
                  rotate_left
                  · simp only [Act.put, List.setIfInBounds_toArray, List.set_cons_zero, List.set_cons_succ, i64_w, i32_w]
                    rfl
                  refine take_ (i := 3) (N := some 74) (v := ?_) (a' := ?_) #[true, true, true, true, false, true, true, true, false, false, false, false, false, false, false, false, false, false, false] rfl rfl (take_ofW HT_.out HW_.out (by kernel_rfl)) (fun _ _ _ h => h) (Or.inl ⟨by rfl, ?_⟩) hHeld ?_ ?_
                  rotate_left
                  · rintro w' ⟨s0, s1, s2, s3, s4, s5, s6, s7⟩
                    go_simp
                    with_reducible rfl
                  rotate_left
                  · simp only [Act.put, List.setIfInBounds_toArray, List.set_cons_zero, List.set_cons_succ, i64_w, i32_w]
                    rfl
                  refine take_ (i := 4) (N := some 75) (v := ?_) (a' := ?_) #[true, true, true, true, true, true, true, true, false, false, false, false, false, false, false, false, false, false, false] rfl rfl (take_ofW HT_.out HW_.out (by kernel_rfl)) (fun _ _ _ h => h) (Or.inl ⟨by rfl, ?_⟩) hHeld ?_ ?_
                  rotate_left
                  · rintro w' ⟨s0, s1, s2, s3, s4, s5, s6, s7⟩
                    go_simp
                    with_reducible rfl
                  rotate_left
                  · simp only [Act.put, List.setIfInBounds_toArray, List.set_cons_zero, List.set_cons_succ, i64_w, i32_w]
                    rfl
                  refine one_ (i := 8) (N := some 79) #[true, true, true, true, true, true, true, true, true, false, false, false, false, false, false, false, false, false, false] rfl rfl (one_of HT_.out (by kernel_rfl)) (by decide) (fun K hK => ?_)
                  refine goes_ Try.func36 (by kernel_rfl) rfl #[.agg #[.int .u64 t374, .int .u64 t375, .slice Ao19 t376.length co19, .int .i64 t379], .int .i64 a1, .int .i64 a2, .int .i64 a3] (by rfl) rfl rfl (by (try simp only [List.map_toArray, List.map_cons, List.map_nil]); first | done | rfl | (simp only [List.length_drop, List.length_take]; rfl)) ?_
                  with_reducible refine (psalteryref05_Take.calls kj22 t374 t375 (fun k_ => (k_ ≠ gb372 ∧ (k_ ≠ gb380 ∧ k_ ≠ gb391))) _ _ t376 t379 a1 a2 a3 t395 t396 t397 t400 _ ?side1 A43.out).mono ?_
                  (case side1 => exact HO_381002.out)
                  rintro e w88 ⟨v398, rfl, ho0, hb⟩
                  refine ⟨_, rfl, ?_⟩
                  have n0_ := Aside0.mk (Kd.V_below (by (with_reducible repeat (first | apply Kd.V_alloc | apply Kd.V_drewN | apply Kd.V_drew)); exact HO_381002.out) hb)
                  have n1_ := Aside0.mk (Kd.V_below (by (with_reducible repeat (first | apply Kd.V_alloc | apply Kd.V_drewN | apply Kd.V_drew)); exact HO388.out) hb)
                  have n2_ := Aside0.mk (Kd.V_lower (Kd.V_mono (ok' := fun k_ => k_ ≠ gb372 ∧ k_ ≠ gb380 ∧ k_ ≠ gb391) ho0 (fun k_ hk_ => ⟨Or.elim hk_ (fun hs_ => hs_.1) (fun hn_ => (Kd.freshB (g := gb372) (o := .cells #[.int .u64 a0_0, .int .u32 a0_1, .slice A0_2 l0_2.length c0_2, .int .i64 a0_3] 43 (0, 0)) (by (with_reducible repeat (first | refine blk_drewN ?_ _ | refine blk_drew ?_ | refine blk_alloc ?_ _)); exact BK372.out) k_ hn_)), Or.elim hk_ (fun hs_ => hs_.2.1) (fun hn_ => (Kd.freshB (g := gb380) (o := .cells #[.int .u64 t374, .int .u64 t375, .slice Ao19 t376.length co19, .int .i64 t379] 46 (0, 0)) (by (with_reducible repeat (first | refine blk_drewN ?_ _ | refine blk_drew ?_ | refine blk_alloc ?_ _)); exact BK380.out) k_ hn_)), Or.elim hk_ (fun hs_ => hs_.2.2) (fun hn_ => (Kd.freshB (g := gb391) (o := .cells #[.int .u64 t384, .int .u32 t385, .slice Ao85 t386.length co85, .int .i64 t389] 43 (0, 0)) (by (with_reducible repeat (first | refine blk_drewN ?_ _ | refine blk_drew ?_ | refine blk_alloc ?_ _)); exact BK391.out) k_ hn_))⟩)) (below_size (by repeat (first | (with_reducible first | exact HB.out | apply below_alloc | apply pw_below_drewN | apply below_drew1 | refine below_set ?_ GE372.out | refine below_set ?_ GE380.out | refine below_set ?_ GE391.out) | exact HB.out))))
                  have n3_ := Aside0.mk (blk_below (g := gb372) (o := .cells #[.int .u64 a0_0, .int .u32 a0_1, .slice A0_2 l0_2.length c0_2, .int .i64 a0_3] 43 (0, 0)) (by (with_reducible repeat (first | refine blk_drewN ?_ _ | refine blk_drew ?_ | refine blk_alloc ?_ _)); exact BK372.out) hb)
                  have n4_ := Aside0.mk (blk_below (g := gb380) (o := .cells #[.int .u64 t374, .int .u64 t375, .slice Ao19 t376.length co19, .int .i64 t379] 46 (0, 0)) (by (with_reducible repeat (first | refine blk_drewN ?_ _ | refine blk_drew ?_ | refine blk_alloc ?_ _)); exact BK380.out) hb)
                  have n5_ := Aside0.mk (blk_below (g := gb391) (o := .cells #[.int .u64 t384, .int .u32 t385, .slice Ao85 t386.length co85, .int .i64 t389] 43 (0, 0)) (by (with_reducible repeat (first | refine blk_drewN ?_ _ | refine blk_drew ?_ | refine blk_alloc ?_ _)); exact BK391.out) hb)
                  have n6_ := Aside0.mk (below_step (by repeat (first | (with_reducible first | exact HB.out | apply below_alloc | apply pw_below_drewN | apply below_drew1 | refine below_set ?_ GE372.out | refine below_set ?_ GE380.out | refine below_set ?_ GE391.out) | exact HB.out)) hb)
                  clear HO_381002
                  clear HO388
                  clear BK372
                  clear BK380
                  clear BK391
                  clear HB
                  have HO_381002 := n0_
                  have HO388 := n1_
                  have HO399 := n2_
                  have BK372 := n3_
                  have BK380 := n4_
                  have BK391 := n5_
                  have HB := n6_
                  clear n0_ n1_ n2_ n3_ n4_ n5_ n6_
                  (try clear hb)
                  (try clear hb2)
                  (try clear hk)
                  (try clear hi)
                  (try clear ho0)
                  obtain ⟨Ao89, co89, eo89⟩ := Kd.V_slice HO399.out
                  (first | subst eo89 | (injection eo89 with f1_ f2_ f3_; have f4_ := f1_.symm; have f5_ := f3_.symm; clear f1_ f2_ f3_; subst f4_; subst f5_))
                  refine hK.out _ _ ⟨(blk_cell BK391.out 0).trans rfl, (blk_cell BK391.out 1).trans rfl, (blk_cell BK391.out 2).trans rfl, (blk_cell BK391.out 3).trans rfl, (blk_cell BK380.out 0).trans rfl, (blk_cell BK380.out 1).trans rfl, (blk_cell BK380.out 2).trans rfl, (blk_cell BK380.out 3).trans rfl⟩ (fun hHeld => ?_)
                  clear hK K
                  refine norm_ (a' := ?_) ?_ ?_
                  rotate_left
                  · show Act.put _ (some 79) _ = _
                    simp only [Act.put, List.setIfInBounds_toArray, List.set_cons_zero, List.set_cons_succ, i64_w, i32_w]
                    rfl
                  refine one_ (i := 9) (N := some 80) #[true, true, true, true, true, true, true, true, true, true, false, false, false, false, false, false, false, false, false] rfl rfl (one_of HT_.out (by kernel_rfl)) (by decide) (fun K hK => ?_)
                  refine goes_ Try.func25 (by kernel_rfl) rfl #[.agg #[.int .u64 t384, .int .u32 t385, .slice Ao85 t386.length co85, .int .i64 t389], .agg #[.int .u64 t395, .int .u64 t396, .slice Ao89 t397.length co89, .int .i64 t400]] (by rfl) rfl rfl (by (try simp only [List.map_toArray, List.map_cons, List.map_nil]); first | done | rfl | (simp only [List.length_drop, List.length_take]; rfl)) ?_
                  with_reducible refine (psalterylaw05_SameDec.calls t384 t385 _ _ t386 t389 t395 t396 _ _ t397 t400 false _ ?side1 ?side2 ?side3 ?side4 A44.out).mono ?_
                  (case side1 => repeat (first | exact (Kd.V_reads' HO388.out).2.2 | (with_reducible refine Kd.C_alloc ?_ _) | (with_reducible refine Kd.C_drewN ?_ _) | (with_reducible refine Kd.C_drew ?_)))
                  (case side2 => exact (Kd.V_reads' HO388.out).2.1)
                  (case side3 => repeat (first | exact (Kd.V_reads' HO399.out).2.2 | (with_reducible refine Kd.C_alloc ?_ _) | (with_reducible refine Kd.C_drewN ?_ _) | (with_reducible refine Kd.C_drew ?_)))
                  (case side4 => exact (Kd.V_reads' HO399.out).2.1)
                  rintro e w90 ⟨rfl, hb⟩
                  refine ⟨_, rfl, ?_⟩
                  have n0_ := Aside0.mk (Kd.V_below (by (with_reducible repeat (first | apply Kd.V_alloc | apply Kd.V_drewN | apply Kd.V_drew)); exact HO_381002.out) hb)
                  have n1_ := Aside0.mk (Kd.V_below (by (with_reducible repeat (first | apply Kd.V_alloc | apply Kd.V_drewN | apply Kd.V_drew)); exact HO388.out) hb)
                  have n2_ := Aside0.mk (Kd.V_below (by (with_reducible repeat (first | apply Kd.V_alloc | apply Kd.V_drewN | apply Kd.V_drew)); exact HO399.out) hb)
                  have n3_ := Aside0.mk (blk_below (g := gb372) (o := .cells #[.int .u64 a0_0, .int .u32 a0_1, .slice A0_2 l0_2.length c0_2, .int .i64 a0_3] 43 (0, 0)) (by (with_reducible repeat (first | refine blk_drewN ?_ _ | refine blk_drew ?_ | refine blk_alloc ?_ _)); exact BK372.out) hb)
                  have n4_ := Aside0.mk (blk_below (g := gb380) (o := .cells #[.int .u64 t374, .int .u64 t375, .slice Ao19 t376.length co19, .int .i64 t379] 46 (0, 0)) (by (with_reducible repeat (first | refine blk_drewN ?_ _ | refine blk_drew ?_ | refine blk_alloc ?_ _)); exact BK380.out) hb)
                  have n5_ := Aside0.mk (blk_below (g := gb391) (o := .cells #[.int .u64 t384, .int .u32 t385, .slice Ao85 t386.length co85, .int .i64 t389] 43 (0, 0)) (by (with_reducible repeat (first | refine blk_drewN ?_ _ | refine blk_drew ?_ | refine blk_alloc ?_ _)); exact BK391.out) hb)
                  have n6_ := Aside0.mk (below_step (by repeat (first | (with_reducible first | exact HB.out | apply below_alloc | apply pw_below_drewN | apply below_drew1 | refine below_set ?_ GE372.out | refine below_set ?_ GE380.out | refine below_set ?_ GE391.out) | exact HB.out)) hb)
                  clear HO_381002
                  clear HO388
                  clear HO399
                  clear BK372
                  clear BK380
                  clear BK391
                  clear HB
                  have HO_381002 := n0_
                  have HO388 := n1_
                  have HO399 := n2_
                  have BK372 := n3_
                  have BK380 := n4_
                  have BK391 := n5_
                  have HB := n6_
                  clear n0_ n1_ n2_ n3_ n4_ n5_ n6_
                  (try clear hb)
                  (try clear hb2)
                  (try clear hk)
                  (try clear hi)
                  refine hK.out _ _ ⟨(blk_cell BK391.out 0).trans rfl, (blk_cell BK391.out 1).trans rfl, (blk_cell BK391.out 2).trans rfl, (blk_cell BK391.out 3).trans rfl, (blk_cell BK380.out 0).trans rfl, (blk_cell BK380.out 1).trans rfl, (blk_cell BK380.out 2).trans rfl, (blk_cell BK380.out 3).trans rfl⟩ (fun hHeld => ?_)
                  clear hK K
                  refine norm_ (a' := ?_) ?_ ?_
                  rotate_left
                  · show Act.put _ (some 80) _ = _
                    simp only [Act.put, List.setIfInBounds_toArray, List.set_cons_zero, List.set_cons_succ, i64_w, i32_w]
                    rfl
                  refine pure_ (i := 10) (N := some 81) (v := ?_) (a' := ?_) #[true, true, true, true, true, true, true, true, true, true, true, false, false, false, false, false, false, false, false] rfl rfl (any_of HT_.out (by kernel_rfl)) (fun _ _ _ h => h) (Or.inl ⟨by rfl, ?_⟩) ?_ ?_
                  rotate_left
                  · intro w'
                    go_simp
                    with_reducible rfl
                  rotate_left
                  · simp only [Act.put, List.setIfInBounds_toArray, List.set_cons_zero, List.set_cons_succ, i64_w, i32_w]
                    rfl
                  refine pure_ (i := 11) (N := some 82) (v := ?_) (a' := ?_) #[true, true, true, true, true, true, true, true, true, true, true, true, false, false, false, false, false, false, false] rfl rfl (any_of HT_.out (by kernel_rfl)) (fun _ _ _ h => h) (Or.inl ⟨by rfl, ?_⟩) ?_ ?_
                  rotate_left
                  · intro w'
                    go_simp
                    with_reducible rfl
                  rotate_left
                  · simp only [Act.put, List.setIfInBounds_toArray, List.set_cons_zero, List.set_cons_succ, i64_w, i32_w]
                    rfl
                  refine pure_ (i := 12) (N := some 83) (v := undef) (a' := ?_) #[true, true, true, true, true, true, true, true, true, true, true, true, true, false, false, false, false, false, false] rfl rfl (any_of HT_.out (by kernel_rfl)) (fun _ _ _ h => h) (Or.inr ⟨by rfl, rfl⟩) ?_ ?_
                  rotate_left
                  · simp only [Act.put, List.setIfInBounds_toArray, List.set_cons_zero, List.set_cons_succ, i64_w, i32_w]
                    rfl
                  refine pure_ (i := 13) (N := some 84) (v := undef) (a' := ?_) #[true, true, true, true, true, true, true, true, true, true, true, true, true, true, false, false, false, false, false] rfl rfl (any_of HT_.out (by kernel_rfl)) (fun _ _ _ h => h) (Or.inr ⟨by rfl, rfl⟩) ?_ ?_
                  rotate_left
                  · simp only [Act.put, List.setIfInBounds_toArray, List.set_cons_zero, List.set_cons_succ, i64_w, i32_w]
                    rfl
                  refine pure_ (i := 14) (N := some 85) (v := ?_) (a' := ?_) #[true, true, true, true, true, true, true, true, true, true, true, true, true, true, true, false, false, false, false] rfl rfl (any_of HT_.out (by kernel_rfl)) (fun _ _ _ h => h) (Or.inl ⟨by rfl, ?_⟩) ?_ ?_
                  rotate_left
                  · intro w'
                    go_simp
                    with_reducible rfl
                  rotate_left
                  · simp only [Act.put, List.setIfInBounds_toArray, List.set_cons_zero, List.set_cons_succ, i64_w, i32_w]
                    rfl
                  refine pure_ (i := 15) (N := some 86) (v := ?_) (a' := ?_) #[true, true, true, true, true, true, true, true, true, true, true, true, true, true, true, true, false, false, false] rfl rfl (any_of HT_.out (by kernel_rfl)) (fun _ _ _ h => h) (Or.inl ⟨by rfl, ?_⟩) ?_ ?_
                  rotate_left
                  · intro w'
                    go_simp
                    with_reducible rfl
                  rotate_left
                  · simp only [Act.put, List.setIfInBounds_toArray, List.set_cons_zero, List.set_cons_succ, i64_w, i32_w]
                    rfl
                  refine pure_ (i := 16) (N := some 87) (v := undef) (a' := ?_) #[true, true, true, true, true, true, true, true, true, true, true, true, true, true, true, true, true, false, false] rfl rfl (any_of HT_.out (by kernel_rfl)) (fun _ _ _ h => h) (Or.inr ⟨by rfl, rfl⟩) ?_ ?_
                  rotate_left
                  · simp only [Act.put, List.setIfInBounds_toArray, List.set_cons_zero, List.set_cons_succ, i64_w, i32_w]
                    rfl
                  refine pure_ (i := 17) (N := some 88) (v := ?_) (a' := ?_) #[true, true, true, true, true, true, true, true, true, true, true, true, true, true, true, true, true, true, false] rfl rfl (any_of HT_.out (by kernel_rfl)) (fun _ _ _ h => h) (Or.inl ⟨by rfl, ?_⟩) ?_ ?_
                  rotate_left
                  · intro w'
                    go_simp
                    with_reducible rfl
                  rotate_left
                  · simp only [Act.put, List.setIfInBounds_toArray, List.set_cons_zero, List.set_cons_succ, i64_w, i32_w]
                    rfl
                  refine pure_ (i := 18) (N := some 8) (v := ?_) (a' := ?_) #[true, true, true, true, true, true, true, true, true, true, true, true, true, true, true, true, true, true, true] rfl rfl (any_of HT_.out (by kernel_rfl)) (fun _ _ _ h => h) (Or.inl ⟨by rfl, ?_⟩) ?_ ?_
                  rotate_left
                  · intro w'
                    go_simp
                    with_reducible rfl
                  rotate_left
                  · simp only [Act.put, List.setIfInBounds_toArray, List.set_cons_zero, List.set_cons_succ, i64_w, i32_w]
                    rfl
                  refine done_ (done_of HT_.out (by kernel_rfl)) ?_
                  try go_wp2
                  go_ret
                  exact ⟨by first | rfl | (simp [errW_none, errW_some] <;> rfl) | (simp [*, errW_none, errW_some] <;> rfl), by repeat (first | (with_reducible first | exact HB.out | apply below_alloc | apply pw_below_drewN | apply below_drew1 | refine below_set ?_ GE372.out | refine below_set ?_ GE380.out | refine below_set ?_ GE391.out) | exact HB.out)⟩
              · rw [if_neg c42] at H
                have c42b0 : (t390 == 0) = false := beq_eq_false_iff_ne.mpr c42
                have c42b1 : (t390 != 0) = true := bne_iff_ne.mpr c42
                obtain rfl := Option.some.inj H
                have hnb91 := NB372_380.out
                have hnc91 := NB380_372.out
                have hcz92_0 : wc.cell? ⟨gb372, 0, none⟩ = some (.int .u64 a0_0) := (blk_cell BK372.out 0).trans rfl
                have hcz92_1 : wc.cell? ⟨gb372, 1, none⟩ = some (.int .u32 a0_1) := (blk_cell BK372.out 1).trans rfl
                have hcz92_2 : wc.cell? ⟨gb372, 2, none⟩ = some (.slice A0_2 l0_2.length c0_2) := (blk_cell BK372.out 2).trans rfl
                have hcz92_3 : wc.cell? ⟨gb372, 3, none⟩ = some (.int .i64 a0_3) := (blk_cell BK372.out 3).trans rfl
                have hfz92_0 := blk_frozen BK372.out 0
                have hfz92_1 := blk_frozen BK372.out 1
                have hfz92_2 := blk_frozen BK372.out 2
                have hfz92_3 := blk_frozen BK372.out 3
                try go_wp2_with (first | ((with_reducible refine gate_callee (f := 34) rfl ?_); refine goesL_ (some 53) rfl rfl Try.func34 (by kernel_rfl) rfl #[.agg #[.int .u64 a0_0, .int .u32 a0_1, .slice A0_2 l0_2.length c0_2, .int .i64 a0_3], .int .i64 a1, .int .i64 a2, .int .i64 a3] rfl (by (try simp only [List.map_toArray, List.map_cons, List.map_nil]); first | done | rfl | (simp only [List.length_drop, List.length_take]; rfl)) ?_; (with_reducible refine (coder_Take.calls kj22 a0_0 a0_1 (fun k_ => k_ < w.heap.size) _ _ l0_2 a0_3 a1 a2 a3 t384 t385 t386 t389 t390 _ ?side1 A39.out).mono ?_); (case side1 => exact Kd.V_mk HC0_2.out (Kd.F_below (Kd.C_F (Kd.heap_int .u8) HR0_2.out) (by repeat (first | (with_reducible first | exact HB.out | apply below_alloc | apply pw_below_drewN | apply below_drew1 | refine below_set ?_ GE372.out | refine below_set ?_ GE380.out) | exact HB.out)))); rintro e w93 ⟨v387, rfl, ho0, hb⟩; refine ⟨_, rfl, ?_⟩; have n0_ := Aside0.mk (Kd.V_below (by (with_reducible repeat (first | apply Kd.V_alloc | apply Kd.V_drewN | apply Kd.V_drew)); exact HO_381002.out) hb); have n1_ := Aside0.mk (Kd.V_lower (Kd.V_mono (ok' := fun k_ => k_ ≠ gb372 ∧ k_ ≠ gb380) ho0 (fun k_ hk_ => ⟨Or.elim hk_ (fun hs_ => fun e_ => Nat.not_le.2 hs_ (by rw [e_]; exact GW372.out)) (fun hn_ => (Kd.freshB (g := gb372) (o := .cells #[.int .u64 a0_0, .int .u32 a0_1, .slice A0_2 l0_2.length c0_2, .int .i64 a0_3] 43 (0, 0)) (by (with_reducible repeat (first | refine blk_drewN ?_ _ | refine blk_drew ?_ | refine blk_alloc ?_ _)); exact BK372.out) k_ hn_)), Or.elim hk_ (fun hs_ => fun e_ => Nat.not_le.2 hs_ (by rw [e_]; exact GW380.out)) (fun hn_ => (Kd.freshB (g := gb380) (o := .cells #[.int .u64 t374, .int .u64 t375, .slice Ao19 t376.length co19, .int .i64 t379] 46 (0, 0)) (by (with_reducible repeat (first | refine blk_drewN ?_ _ | refine blk_drew ?_ | refine blk_alloc ?_ _)); exact BK380.out) k_ hn_))⟩)) (below_size (by repeat (first | (with_reducible first | exact HB.out | apply below_alloc | apply pw_below_drewN | apply below_drew1 | refine below_set ?_ GE372.out | refine below_set ?_ GE380.out) | exact HB.out)))); have n2_ := Aside0.mk (blk_below (g := gb372) (o := .cells #[.int .u64 a0_0, .int .u32 a0_1, .slice A0_2 l0_2.length c0_2, .int .i64 a0_3] 43 (0, 0)) (by (with_reducible repeat (first | refine blk_drewN ?_ _ | refine blk_drew ?_ | refine blk_alloc ?_ _)); exact BK372.out) hb); have n3_ := Aside0.mk (blk_below (g := gb380) (o := .cells #[.int .u64 t374, .int .u64 t375, .slice Ao19 t376.length co19, .int .i64 t379] 46 (0, 0)) (by (with_reducible repeat (first | refine blk_drewN ?_ _ | refine blk_drew ?_ | refine blk_alloc ?_ _)); exact BK380.out) hb); have n4_ := Aside0.mk (below_step (by repeat (first | (with_reducible first | exact HB.out | apply below_alloc | apply pw_below_drewN | apply below_drew1 | refine below_set ?_ GE372.out | refine below_set ?_ GE380.out) | exact HB.out)) hb); clear HO_381002; clear BK372; clear BK380; clear HB; have HO_381002 := n0_; have HO388 := n1_; have BK372 := n2_; have BK380 := n3_; have HB := n4_; clear n0_ n1_ n2_ n3_ n4_; (try clear hb); (try clear hb2); (try clear hk); (try clear hi); (try clear ho0)) | ((with_reducible refine gate_dst (N := 12) rfl ?_); refine box_event ?hg (N := 12) ?hd (cs := #[.int .u64 0, .int .u32 0, .slice none 0 0, .int .i64 0]) (t := 43) ?hr ?_; (case hd => rfl); (case hg => rfl); (case hr => first | (go_simp; done) | (go_simp; rfl)); intro gb391 hg w94 hbox hb; have n0_ := Aside0.mk (Kd.V_below (Kd.V_elderB (by (with_reducible repeat (first | apply Kd.V_alloc | apply Kd.V_drewN | apply Kd.V_drew)); exact HO_381002.out) gb391 (Nat.le_of_eq hg.symm)) hb); have n1_ := Aside0.mk (Kd.V_below (Kd.V_elderB (by (with_reducible repeat (first | apply Kd.V_alloc | apply Kd.V_drewN | apply Kd.V_drew)); exact HO388.out) gb391 (Nat.le_of_eq hg.symm)) hb); have n2_ := Aside0.mk (blk_below (g := gb372) (o := .cells #[.int .u64 a0_0, .int .u32 a0_1, .slice A0_2 l0_2.length c0_2, .int .i64 a0_3] 43 (0, 0)) (by (with_reducible repeat (first | refine blk_drewN ?_ _ | refine blk_drew ?_ | refine blk_alloc ?_ _)); exact BK372.out) hb); have n3_ := Aside0.mk (blk_below (g := gb380) (o := .cells #[.int .u64 t374, .int .u64 t375, .slice Ao19 t376.length co19, .int .i64 t379] 46 (0, 0)) (by (with_reducible repeat (first | refine blk_drewN ?_ _ | refine blk_drew ?_ | refine blk_alloc ?_ _)); exact BK380.out) hb); have n4_ := Aside0.mk (below_step (by repeat (first | (with_reducible first | exact HB.out | apply below_alloc | apply pw_below_drewN | apply below_drew1 | refine below_set ?_ GE372.out | refine below_set ?_ GE380.out) | exact HB.out)) hb); have n5_ := Aside0.mk (hbox); have n6_ := Aside0.mk ((by rw [hg]; exact (below_size (by repeat (first | (with_reducible first | exact HB.out | apply below_alloc | apply pw_below_drewN | apply below_drew1 | refine below_set ?_ GE372.out | refine below_set ?_ GE380.out) | exact HB.out))) : w.heap.size ≤ gb391)); have n7_ := Aside0.mk ((by rw [hg]; exact (below_size (by repeat (first | (with_reducible first | exact HB.out | apply below_alloc | apply pw_below_drewN | apply below_drew1 | refine below_set ?_ GE372.out | refine below_set ?_ GE380.out) | exact HB.out))) : w.heap.size ≤ gb391)); have n8_ := Aside0.mk ((by rw [hg]; exact Nat.ne_of_lt (blk_lt (g := gb372) (o := .cells #[.int .u64 a0_0, .int .u32 a0_1, .slice A0_2 l0_2.length c0_2, .int .i64 a0_3] 43 (0, 0)) (by (with_reducible repeat (first | refine blk_drewN ?_ _ | refine blk_drew ?_ | refine blk_alloc ?_ _)); exact BK372.out)) : gb372 ≠ gb391)); have n9_ := Aside0.mk ((by rw [hg]; exact Nat.ne_of_gt (blk_lt (g := gb372) (o := .cells #[.int .u64 a0_0, .int .u32 a0_1, .slice A0_2 l0_2.length c0_2, .int .i64 a0_3] 43 (0, 0)) (by (with_reducible repeat (first | refine blk_drewN ?_ _ | refine blk_drew ?_ | refine blk_alloc ?_ _)); exact BK372.out)) : gb391 ≠ gb372)); have n10_ := Aside0.mk ((by rw [hg]; exact Nat.ne_of_lt (blk_lt (g := gb380) (o := .cells #[.int .u64 t374, .int .u64 t375, .slice Ao19 t376.length co19, .int .i64 t379] 46 (0, 0)) (by (with_reducible repeat (first | refine blk_drewN ?_ _ | refine blk_drew ?_ | refine blk_alloc ?_ _)); exact BK380.out)) : gb380 ≠ gb391)); have n11_ := Aside0.mk ((by rw [hg]; exact Nat.ne_of_gt (blk_lt (g := gb380) (o := .cells #[.int .u64 t374, .int .u64 t375, .slice Ao19 t376.length co19, .int .i64 t379] 46 (0, 0)) (by (with_reducible repeat (first | refine blk_drewN ?_ _ | refine blk_drew ?_ | refine blk_alloc ?_ _)); exact BK380.out)) : gb391 ≠ gb380)); clear HO_381002; clear HO388; clear BK372; clear BK380; clear HB; have HO_381002 := n0_; have HO388 := n1_; have BK372 := n2_; have BK380 := n3_; have HB := n4_; have BK391 := n5_; have GW391 := n6_; have GE391 := n7_; have NB372_391 := n8_; have NB391_372 := n9_; have NB380_391 := n10_; have NB391_380 := n11_; clear n0_ n1_ n2_ n3_ n4_ n5_ n6_ n7_ n8_ n9_ n10_ n11_; clear hb hbox hg; have hnb95 := NB391_372.out; have hnc95 := NB372_391.out; have hnb96 := NB391_380.out; have hnc96 := NB380_391.out; have hcz97_0 : w94.cell? ⟨gb391, 0, none⟩ = some (.int .u64 0) := (blk_cell BK391.out 0).trans rfl; have hcz97_1 : w94.cell? ⟨gb391, 1, none⟩ = some (.int .u32 0) := (blk_cell BK391.out 1).trans rfl; have hcz97_2 : w94.cell? ⟨gb391, 2, none⟩ = some (.slice none 0 0) := (blk_cell BK391.out 2).trans rfl; have hcz97_3 : w94.cell? ⟨gb391, 3, none⟩ = some (.int .i64 0) := (blk_cell BK391.out 3).trans rfl; have hfz97_0 := blk_frozen BK391.out 0; have hfz97_1 := blk_frozen BK391.out 1; have hfz97_2 := blk_frozen BK391.out 2; have hfz97_3 := blk_frozen BK391.out 3; obtain ⟨Ao98, co98, eo98⟩ := Kd.V_slice HO388.out; subst eo98) | ((with_reducible refine gate_callee (f := 35) rfl ?_); refine goesL_ (some 59) rfl rfl Try.func35 (by kernel_rfl) rfl #[.int .i64 a1, .int .i64 a2, .int .i64 a3] rfl (by (try simp only [List.map_toArray, List.map_cons, List.map_nil]); first | done | rfl | (simp only [List.length_drop, List.length_take]; rfl)) ?_; (with_reducible refine (psalteryref05_Fair.calls a1 a2 a3 true _ A40.out).mono ?_); rintro e w' ⟨rfl, ⟨nd, rfl⟩⟩; refine ⟨_, rfl, ?_⟩))
                have n0_ : Aside0 (Kd.V (Kd.int .u8) 5 ((((w94.setCell ⟨gb391, 0, none⟩ (.int .u64 t384)).setCell ⟨gb391, 1, none⟩ (.int .u32 t385)).setCell ⟨gb391, 2, none⟩ (.slice Ao98 t386.length co98)).setCell ⟨gb391, 3, none⟩ (.int .i64 t389)) w.heap.size (fun k_ => k_ ≠ gb372 ∧ k_ ≠ gb380 ∧ k_ ≠ gb391) (.slice Ao19 t376.length co19) t376) := ⟨by (with_reducible repeat (first | apply Kd.V_alloc | apply Kd.V_drewN | apply Kd.V_drew)); exact Kd.V_mono (Kd.V_far (p := ⟨gb391, 3, none⟩) (Kd.V_far (p := ⟨gb391, 2, none⟩) (Kd.V_far (p := ⟨gb391, 1, none⟩) (Kd.V_far (p := ⟨gb391, 0, none⟩) (Kd.V_mono HO_381002.out (fun k_ hk => (⟨hk, hk.2⟩ : _ ∧ k_ ≠ gb391))) (fun _ hk => hk.2) (.int .u64 t384)) (fun _ hk => hk.2) (.int .u32 t385)) (fun _ hk => hk.2) (.slice Ao98 t386.length co98)) (fun _ hk => hk.2) (.int .i64 t389)) (fun _ hk => ⟨hk.1.1.1, ⟨hk.1.1.2, hk.1.2⟩⟩)⟩
                have n1_ : Aside0 (Kd.V (Kd.int .u8) 5 ((((w94.setCell ⟨gb391, 0, none⟩ (.int .u64 t384)).setCell ⟨gb391, 1, none⟩ (.int .u32 t385)).setCell ⟨gb391, 2, none⟩ (.slice Ao98 t386.length co98)).setCell ⟨gb391, 3, none⟩ (.int .i64 t389)) w.heap.size (fun k_ => k_ ≠ gb372 ∧ k_ ≠ gb380 ∧ k_ ≠ gb391) (.slice Ao98 t386.length co98) t386) := ⟨by (with_reducible repeat (first | apply Kd.V_alloc | apply Kd.V_drewN | apply Kd.V_drew)); exact Kd.V_mono (Kd.V_far (p := ⟨gb391, 3, none⟩) (Kd.V_far (p := ⟨gb391, 2, none⟩) (Kd.V_far (p := ⟨gb391, 1, none⟩) (Kd.V_far (p := ⟨gb391, 0, none⟩) (Kd.V_mono HO388.out (fun k_ hk => (⟨hk, hk.2⟩ : _ ∧ k_ ≠ gb391))) (fun _ hk => hk.2) (.int .u64 t384)) (fun _ hk => hk.2) (.int .u32 t385)) (fun _ hk => hk.2) (.slice Ao98 t386.length co98)) (fun _ hk => hk.2) (.int .i64 t389)) (fun _ hk => ⟨hk.1.1.1, ⟨hk.1.1.2, hk.1.2⟩⟩)⟩
                have n2_ : Aside0 (((((w94.setCell ⟨gb391, 0, none⟩ (.int .u64 t384)).setCell ⟨gb391, 1, none⟩ (.int .u32 t385)).setCell ⟨gb391, 2, none⟩ (.slice Ao98 t386.length co98)).setCell ⟨gb391, 3, none⟩ (.int .i64 t389)).heap[gb372]? = some (.cells #[.int .u64 a0_0, .int .u32 a0_1, .slice A0_2 l0_2.length c0_2, .int .i64 a0_3] 43 (0, 0))) := ⟨by (with_reducible repeat (first | refine blk_drewN ?_ _ | refine blk_drew ?_ | refine blk_alloc ?_ _)); refine blk_far ?_ NB372_391.out _; (with_reducible repeat (first | refine blk_drewN ?_ _ | refine blk_drew ?_ | refine blk_alloc ?_ _)); refine blk_far ?_ NB372_391.out _; (with_reducible repeat (first | refine blk_drewN ?_ _ | refine blk_drew ?_ | refine blk_alloc ?_ _)); refine blk_far ?_ NB372_391.out _; (with_reducible repeat (first | refine blk_drewN ?_ _ | refine blk_drew ?_ | refine blk_alloc ?_ _)); refine blk_far ?_ NB372_391.out _; (with_reducible repeat (first | refine blk_drewN ?_ _ | refine blk_drew ?_ | refine blk_alloc ?_ _)); exact BK372.out⟩
                have n3_ : Aside0 (((((w94.setCell ⟨gb391, 0, none⟩ (.int .u64 t384)).setCell ⟨gb391, 1, none⟩ (.int .u32 t385)).setCell ⟨gb391, 2, none⟩ (.slice Ao98 t386.length co98)).setCell ⟨gb391, 3, none⟩ (.int .i64 t389)).heap[gb380]? = some (.cells #[.int .u64 t374, .int .u64 t375, .slice Ao19 t376.length co19, .int .i64 t379] 46 (0, 0))) := ⟨by (with_reducible repeat (first | refine blk_drewN ?_ _ | refine blk_drew ?_ | refine blk_alloc ?_ _)); refine blk_far ?_ NB380_391.out _; (with_reducible repeat (first | refine blk_drewN ?_ _ | refine blk_drew ?_ | refine blk_alloc ?_ _)); refine blk_far ?_ NB380_391.out _; (with_reducible repeat (first | refine blk_drewN ?_ _ | refine blk_drew ?_ | refine blk_alloc ?_ _)); refine blk_far ?_ NB380_391.out _; (with_reducible repeat (first | refine blk_drewN ?_ _ | refine blk_drew ?_ | refine blk_alloc ?_ _)); refine blk_far ?_ NB380_391.out _; (with_reducible repeat (first | refine blk_drewN ?_ _ | refine blk_drew ?_ | refine blk_alloc ?_ _)); exact BK380.out⟩
                have n4_ : Aside0 (((((w94.setCell ⟨gb391, 0, none⟩ (.int .u64 t384)).setCell ⟨gb391, 1, none⟩ (.int .u32 t385)).setCell ⟨gb391, 2, none⟩ (.slice Ao98 t386.length co98)).setCell ⟨gb391, 3, none⟩ (.int .i64 t389)).heap[gb391]? = some (.cells #[.int .u64 t384, .int .u32 t385, .slice Ao98 t386.length co98, .int .i64 t389] 43 (0, 0))) := ⟨by (with_reducible repeat (first | refine blk_drewN ?_ _ | refine blk_drew ?_ | refine blk_alloc ?_ _)); refine blk_put (cs := #[.int .u64 t384, .int .u32 t385, .slice Ao98 t386.length co98, .int .i64 0]) ?_ 3 _ rfl; (with_reducible repeat (first | refine blk_drewN ?_ _ | refine blk_drew ?_ | refine blk_alloc ?_ _)); refine blk_put (cs := #[.int .u64 t384, .int .u32 t385, .slice none 0 0, .int .i64 0]) ?_ 2 _ rfl; (with_reducible repeat (first | refine blk_drewN ?_ _ | refine blk_drew ?_ | refine blk_alloc ?_ _)); refine blk_put (cs := #[.int .u64 t384, .int .u32 0, .slice none 0 0, .int .i64 0]) ?_ 1 _ rfl; (with_reducible repeat (first | refine blk_drewN ?_ _ | refine blk_drew ?_ | refine blk_alloc ?_ _)); refine blk_put (cs := #[.int .u64 0, .int .u32 0, .slice none 0 0, .int .i64 0]) ?_ 0 _ rfl; (with_reducible repeat (first | refine blk_drewN ?_ _ | refine blk_drew ?_ | refine blk_alloc ?_ _)); exact BK391.out⟩
                have n5_ : Aside0 (Below w.heap.size w ((((w94.setCell ⟨gb391, 0, none⟩ (.int .u64 t384)).setCell ⟨gb391, 1, none⟩ (.int .u32 t385)).setCell ⟨gb391, 2, none⟩ (.slice Ao98 t386.length co98)).setCell ⟨gb391, 3, none⟩ (.int .i64 t389))) := ⟨by repeat (first | (with_reducible first | exact HB.out | apply below_alloc | apply pw_below_drewN | apply below_drew1 | refine below_set ?_ GE372.out | refine below_set ?_ GE380.out | refine below_set ?_ GE391.out) | exact HB.out)⟩
                (try clear HO_381002)
                (try clear HO388)
                (try clear BK372)
                (try clear BK380)
                (try clear BK391)
                (try clear HB)
                generalize ((((w94.setCell ⟨gb391, 0, none⟩ (.int .u64 t384)).setCell ⟨gb391, 1, none⟩ (.int .u32 t385)).setCell ⟨gb391, 2, none⟩ (.slice Ao98 t386.length co98)).setCell ⟨gb391, 3, none⟩ (.int .i64 t389)) = w99 at n0_ n1_ n2_ n3_ n4_ n5_ ⊢
                have HO_381002 := n0_
                have HO388 := n1_
                have BK372 := n2_
                have BK380 := n3_
                have BK391 := n4_
                have HB := n5_
                clear n0_ n1_ n2_ n3_ n4_ n5_
                (try (rw [drewN_self w99]; generalize hq_ : World.drewN w99 _ = w99; have n0_ : Aside0 (Kd.V (Kd.int .u8) 5 w99 w.heap.size (fun k_ => k_ ≠ gb372 ∧ k_ ≠ gb380 ∧ k_ ≠ gb391) (.slice Ao98 t386.length co98) t386) := ⟨by rw [← hq_]; exact (by (with_reducible repeat (first | apply Kd.V_alloc | apply Kd.V_drewN | apply Kd.V_drew)); exact HO388.out)⟩; have n1_ : Aside0 (Kd.V (Kd.int .u8) 5 w99 w.heap.size (fun k_ => k_ ≠ gb372 ∧ k_ ≠ gb380 ∧ k_ ≠ gb391) (.slice Ao19 t376.length co19) t376) := ⟨by rw [← hq_]; exact (by (with_reducible repeat (first | apply Kd.V_alloc | apply Kd.V_drewN | apply Kd.V_drew)); exact HO_381002.out)⟩; have n2_ : Aside0 (w99.heap[gb372]? = some (.cells #[.int .u64 a0_0, .int .u32 a0_1, .slice A0_2 l0_2.length c0_2, .int .i64 a0_3] 43 (0, 0))) := ⟨by rw [← hq_]; exact (by (with_reducible repeat (first | refine blk_drewN ?_ _ | refine blk_drew ?_ | refine blk_alloc ?_ _)); exact BK372.out)⟩; have n3_ : Aside0 (w99.heap[gb380]? = some (.cells #[.int .u64 t374, .int .u64 t375, .slice Ao19 t376.length co19, .int .i64 t379] 46 (0, 0))) := ⟨by rw [← hq_]; exact (by (with_reducible repeat (first | refine blk_drewN ?_ _ | refine blk_drew ?_ | refine blk_alloc ?_ _)); exact BK380.out)⟩; have n4_ : Aside0 (w99.heap[gb391]? = some (.cells #[.int .u64 t384, .int .u32 t385, .slice Ao98 t386.length co98, .int .i64 t389] 43 (0, 0))) := ⟨by rw [← hq_]; exact (by (with_reducible repeat (first | refine blk_drewN ?_ _ | refine blk_drew ?_ | refine blk_alloc ?_ _)); exact BK391.out)⟩; have n5_ : Aside0 (Below w.heap.size w w99) := ⟨by rw [← hq_]; exact (by repeat (first | (with_reducible first | exact HB.out | apply below_alloc | apply pw_below_drewN | apply below_drew1 | refine below_set ?_ GE372.out | refine below_set ?_ GE380.out | refine below_set ?_ GE391.out) | exact HB.out))⟩; clear HO388 HO_381002 BK372 BK380 BK391 HB hq_; have HO388 := n0_; have HO_381002 := n1_; have BK372 := n2_; have BK380 := n3_; have BK391 := n4_; have HB := n5_; clear n0_ n1_ n2_ n3_ n4_ n5_))
                have n0_ := Aside0.mk (Kd.V_drew HO_381002.out)
                have n1_ := Aside0.mk (Kd.V_drew HO388.out)
                have n2_ := Aside0.mk (blk_drew BK372.out)
                have n3_ := Aside0.mk (blk_drew BK380.out)
                have n4_ := Aside0.mk (blk_drew BK391.out)
                have n5_ := Aside0.mk (below_drew1 HB.out)
                clear HO_381002
                clear HO388
                clear BK372
                clear BK380
                clear BK391
                clear HB
                have HO_381002 := n0_
                have HO388 := n1_
                have BK372 := n2_
                have BK380 := n3_
                have BK391 := n4_
                have HB := n5_
                clear n0_ n1_ n2_ n3_ n4_ n5_
                refine start_ (n := 19) (S := fun w' => True) (ds := []) #[false, false, false, false, false, false, false, false, false, false, false, false, false, false, false, false, false, false, false] (by kernel_rfl) rfl rfl trivial (fun hHeld => ?_); refine with_tabW psalterylaw05_CoderTakes.tab13 psalterylaw05_CoderTakes.bits13 (fun HT_ HW_ => ?_)
                generalize w99.drew = w100 at HO_381002 HO388 BK372 BK380 BK391 HB hHeld ⊢
                refine pure_ (i := 0) (N := some 71) (v := ?_) (a' := ?_) #[true, false, false, false, false, false, false, false, false, false, false, false, false, false, false, false, false, false, false] rfl rfl (any_of HT_.out (by kernel_rfl)) (fun _ _ _ h => h) (Or.inl ⟨by rfl, ?_⟩) ?_ ?_
                rotate_left
                · intro w'
                  go_simp
                  with_reducible rfl
                rotate_left
                · simp only [Act.put, List.setIfInBounds_toArray, List.set_cons_zero, List.set_cons_succ, i64_w, i32_w]
                  rfl
                refine pure_ (i := 1) (N := some 72) (v := ?_) (a' := ?_) #[true, true, false, false, false, false, false, false, false, false, false, false, false, false, false, false, false, false, false] rfl rfl (any_of HT_.out (by kernel_rfl)) (fun _ _ _ h => h) (Or.inl ⟨by rfl, ?_⟩) ?_ ?_
                rotate_left
                · intro w'
                  go_simp
                  with_reducible rfl
                rotate_left
                · simp only [Act.put, List.setIfInBounds_toArray, List.set_cons_zero, List.set_cons_succ, i64_w, i32_w]
                  rfl
                refine pure_ (i := 2) (N := some 73) (v := ?_) (a' := ?_) #[true, true, true, false, false, false, false, false, false, false, false, false, false, false, false, false, false, false, false] rfl rfl (any_of HT_.out (by kernel_rfl)) (fun _ _ _ h => h) (Or.inl ⟨by rfl, ?_⟩) ?_ ?_
                rotate_left
                · intro w'
                  go_simp
                  with_reducible rfl
                rotate_left
                · simp only [Act.put, List.setIfInBounds_toArray, List.set_cons_zero, List.set_cons_succ, i64_w, i32_w]
                  rfl
                refine pure_ (i := 3) (N := some 74) (v := undef) (a' := ?_) #[true, true, true, true, false, false, false, false, false, false, false, false, false, false, false, false, false, false, false] rfl rfl (any_of HT_.out (by kernel_rfl)) (fun _ _ _ h => h) (Or.inr ⟨by rfl, rfl⟩) ?_ ?_
                rotate_left
                · simp only [Act.put, List.setIfInBounds_toArray, List.set_cons_zero, List.set_cons_succ, i64_w, i32_w]
                  rfl
                refine pure_ (i := 4) (N := some 75) (v := undef) (a' := ?_) #[true, true, true, true, true, false, false, false, false, false, false, false, false, false, false, false, false, false, false] rfl rfl (any_of HT_.out (by kernel_rfl)) (fun _ _ _ h => h) (Or.inr ⟨by rfl, rfl⟩) ?_ ?_
                rotate_left
                · simp only [Act.put, List.setIfInBounds_toArray, List.set_cons_zero, List.set_cons_succ, i64_w, i32_w]
                  rfl
                refine pure_ (i := 5) (N := some 76) (v := undef) (a' := ?_) #[true, true, true, true, true, true, false, false, false, false, false, false, false, false, false, false, false, false, false] rfl rfl (any_of HT_.out (by kernel_rfl)) (fun _ _ _ h => h) (Or.inr ⟨by rfl, rfl⟩) ?_ ?_
                rotate_left
                · simp only [Act.put, List.setIfInBounds_toArray, List.set_cons_zero, List.set_cons_succ, i64_w, i32_w]
                  rfl
                refine pure_ (i := 6) (N := some 77) (v := undef) (a' := ?_) #[true, true, true, true, true, true, true, false, false, false, false, false, false, false, false, false, false, false, false] rfl rfl (any_of HT_.out (by kernel_rfl)) (fun _ _ _ h => h) (Or.inr ⟨by rfl, rfl⟩) ?_ ?_
                rotate_left
                · simp only [Act.put, List.setIfInBounds_toArray, List.set_cons_zero, List.set_cons_succ, i64_w, i32_w]
                  rfl
                refine pure_ (i := 7) (N := some 78) (v := undef) (a' := ?_) #[true, true, true, true, true, true, true, true, false, false, false, false, false, false, false, false, false, false, false] rfl rfl (any_of HT_.out (by kernel_rfl)) (fun _ _ _ h => h) (Or.inr ⟨by rfl, rfl⟩) ?_ ?_
                rotate_left
                · simp only [Act.put, List.setIfInBounds_toArray, List.set_cons_zero, List.set_cons_succ, i64_w, i32_w]
                  rfl
                refine pure_ (i := 8) (N := some 79) (v := undef) (a' := ?_) #[true, true, true, true, true, true, true, true, true, false, false, false, false, false, false, false, false, false, false] rfl rfl (any_of HT_.out (by kernel_rfl)) (fun _ _ _ h => h) (Or.inr ⟨by rfl, rfl⟩) ?_ ?_
                rotate_left
                · simp only [Act.put, List.setIfInBounds_toArray, List.set_cons_zero, List.set_cons_succ, i64_w, i32_w]
                  rfl
                refine pure_ (i := 9) (N := some 80) (v := undef) (a' := ?_) #[true, true, true, true, true, true, true, true, true, true, false, false, false, false, false, false, false, false, false] rfl rfl (any_of HT_.out (by kernel_rfl)) (fun _ _ _ h => h) (Or.inr ⟨by rfl, rfl⟩) ?_ ?_
                rotate_left
                · simp only [Act.put, List.setIfInBounds_toArray, List.set_cons_zero, List.set_cons_succ, i64_w, i32_w]
                  rfl
                refine pure_ (i := 10) (N := some 81) (v := ?_) (a' := ?_) #[true, true, true, true, true, true, true, true, true, true, true, false, false, false, false, false, false, false, false] rfl rfl (any_of HT_.out (by kernel_rfl)) (fun _ _ _ h => h) (Or.inl ⟨by rfl, ?_⟩) ?_ ?_
                rotate_left
                · intro w'
                  go_simp
                  with_reducible rfl
                rotate_left
                · simp only [Act.put, List.setIfInBounds_toArray, List.set_cons_zero, List.set_cons_succ, i64_w, i32_w]
                  rfl
                refine pure_ (i := 11) (N := some 82) (v := ?_) (a' := ?_) #[true, true, true, true, true, true, true, true, true, true, true, true, false, false, false, false, false, false, false] rfl rfl (any_of HT_.out (by kernel_rfl)) (fun _ _ _ h => h) (Or.inl ⟨by rfl, ?_⟩) ?_ ?_
                rotate_left
                · intro w'
                  go_simp
                  with_reducible rfl
                rotate_left
                · simp only [Act.put, List.setIfInBounds_toArray, List.set_cons_zero, List.set_cons_succ, i64_w, i32_w]
                  rfl
                refine pure_ (i := 12) (N := some 83) (v := undef) (a' := ?_) #[true, true, true, true, true, true, true, true, true, true, true, true, true, false, false, false, false, false, false] rfl rfl (any_of HT_.out (by kernel_rfl)) (fun _ _ _ h => h) (Or.inr ⟨by rfl, rfl⟩) ?_ ?_
                rotate_left
                · simp only [Act.put, List.setIfInBounds_toArray, List.set_cons_zero, List.set_cons_succ, i64_w, i32_w]
                  rfl
                refine pure_ (i := 13) (N := some 84) (v := undef) (a' := ?_) #[true, true, true, true, true, true, true, true, true, true, true, true, true, true, false, false, false, false, false] rfl rfl (any_of HT_.out (by kernel_rfl)) (fun _ _ _ h => h) (Or.inr ⟨by rfl, rfl⟩) ?_ ?_
                rotate_left
                · simp only [Act.put, List.setIfInBounds_toArray, List.set_cons_zero, List.set_cons_succ, i64_w, i32_w]
                  rfl
                refine pure_ (i := 14) (N := some 85) (v := ?_) (a' := ?_) #[true, true, true, true, true, true, true, true, true, true, true, true, true, true, true, false, false, false, false] rfl rfl (any_of HT_.out (by kernel_rfl)) (fun _ _ _ h => h) (Or.inl ⟨by rfl, ?_⟩) ?_ ?_
                rotate_left
                · intro w'
                  go_simp
                  with_reducible rfl
                rotate_left
                · simp only [Act.put, List.setIfInBounds_toArray, List.set_cons_zero, List.set_cons_succ, i64_w, i32_w]
                  rfl
                refine pure_ (i := 15) (N := some 86) (v := ?_) (a' := ?_) #[true, true, true, true, true, true, true, true, true, true, true, true, true, true, true, true, false, false, false] rfl rfl (any_of HT_.out (by kernel_rfl)) (fun _ _ _ h => h) (Or.inl ⟨by rfl, ?_⟩) ?_ ?_
                rotate_left
                · intro w'
                  go_simp
                  with_reducible rfl
                rotate_left
                · simp only [Act.put, List.setIfInBounds_toArray, List.set_cons_zero, List.set_cons_succ, i64_w, i32_w]
                  rfl
                refine pure_ (i := 16) (N := some 87) (v := undef) (a' := ?_) #[true, true, true, true, true, true, true, true, true, true, true, true, true, true, true, true, true, false, false] rfl rfl (any_of HT_.out (by kernel_rfl)) (fun _ _ _ h => h) (Or.inr ⟨by rfl, rfl⟩) ?_ ?_
                rotate_left
                · simp only [Act.put, List.setIfInBounds_toArray, List.set_cons_zero, List.set_cons_succ, i64_w, i32_w]
                  rfl
                refine pure_ (i := 17) (N := some 88) (v := ?_) (a' := ?_) #[true, true, true, true, true, true, true, true, true, true, true, true, true, true, true, true, true, true, false] rfl rfl (any_of HT_.out (by kernel_rfl)) (fun _ _ _ h => h) (Or.inl ⟨by rfl, ?_⟩) ?_ ?_
                rotate_left
                · intro w'
                  go_simp
                  with_reducible rfl
                rotate_left
                · simp only [Act.put, List.setIfInBounds_toArray, List.set_cons_zero, List.set_cons_succ, i64_w, i32_w]
                  rfl
                refine pure_ (i := 18) (N := some 8) (v := ?_) (a' := ?_) #[true, true, true, true, true, true, true, true, true, true, true, true, true, true, true, true, true, true, true] rfl rfl (any_of HT_.out (by kernel_rfl)) (fun _ _ _ h => h) (Or.inl ⟨by rfl, ?_⟩) ?_ ?_
                rotate_left
                · intro w'
                  go_simp
                  with_reducible rfl
                rotate_left
                · simp only [Act.put, List.setIfInBounds_toArray, List.set_cons_zero, List.set_cons_succ, i64_w, i32_w]
                  rfl
                refine done_ (done_of HT_.out (by kernel_rfl)) ?_
                try go_wp2
                go_ret
                exact ⟨by first | rfl | (simp [errW_none, errW_some] <;> rfl) | (simp [*, errW_none, errW_some] <;> rfl), by repeat (first | (with_reducible first | exact HB.out | apply below_alloc | apply pw_below_drewN | apply below_drew1 | refine below_set ?_ GE372.out | refine below_set ?_ GE380.out | refine below_set ?_ GE391.out) | exact HB.out)⟩
            · replace c41 := Bool.eq_false_iff.mpr c41
              subst c41
              have H1 : (if t390 = 1 then ((psalterylaw05_SameDec.f t384 t385 t386 t389 t374 t375 t376 t379).bind fun t393 => (if t393 = true then ((psalterylaw05_knows.f kj22).bind fun t394 => (some t394)) else (some false))) else (some false)) = some r := by rw [if_neg (show ¬ (false = true) by decide)] at H; exact H
              clear H
              have H := H1
              clear H1
              by_cases c101 : t390 = 1
              · rw [if_pos c101] at H
                have c101b0 : (t390 == 1) = true := beq_iff_eq.mpr c101
                have c101b1 : (t390 != 1) = false := bne_eq_false_iff_eq.mpr c101
                clear c101
                replace H := Option.bind_eq_some_iff.mp H
                obtain ⟨t393, A1020, H⟩ := H
                replace H : (if t393 = true then ((psalterylaw05_knows.f kj22).bind fun t394 => (some t394)) else (some false)) = some r := H
                have A102 := Aside0.mk A1020
                clear A1020
                by_cases c103 : t393 = true
                · subst c103
                  have H1 : ((psalterylaw05_knows.f kj22).bind fun t394 => (some t394)) = some r := by rw [if_pos rfl] at H; exact H
                  clear H
                  have H := H1
                  clear H1
                  replace H := Option.bind_eq_some_iff.mp H
                  obtain ⟨t394, A1040, H⟩ := H
                  replace H : (some t394) = some r := H
                  have A104 := Aside0.mk A1040
                  clear A1040
                  obtain rfl := Option.some.inj H
                  have hnb105 := NB372_380.out
                  have hnc105 := NB380_372.out
                  have hcz106_0 : wc.cell? ⟨gb372, 0, none⟩ = some (.int .u64 a0_0) := (blk_cell BK372.out 0).trans rfl
                  have hcz106_1 : wc.cell? ⟨gb372, 1, none⟩ = some (.int .u32 a0_1) := (blk_cell BK372.out 1).trans rfl
                  have hcz106_2 : wc.cell? ⟨gb372, 2, none⟩ = some (.slice A0_2 l0_2.length c0_2) := (blk_cell BK372.out 2).trans rfl
                  have hcz106_3 : wc.cell? ⟨gb372, 3, none⟩ = some (.int .i64 a0_3) := (blk_cell BK372.out 3).trans rfl
                  have hfz106_0 := blk_frozen BK372.out 0
                  have hfz106_1 := blk_frozen BK372.out 1
                  have hfz106_2 := blk_frozen BK372.out 2
                  have hfz106_3 := blk_frozen BK372.out 3
                  go_wp2_with (first | ((with_reducible refine gate_callee (f := 34) rfl ?_); refine goesL_ (some 53) rfl rfl Try.func34 (by kernel_rfl) rfl #[.agg #[.int .u64 a0_0, .int .u32 a0_1, .slice A0_2 l0_2.length c0_2, .int .i64 a0_3], .int .i64 a1, .int .i64 a2, .int .i64 a3] rfl (by (try simp only [List.map_toArray, List.map_cons, List.map_nil]); first | done | rfl | (simp only [List.length_drop, List.length_take]; rfl)) ?_; (with_reducible refine (coder_Take.calls kj22 a0_0 a0_1 (fun k_ => k_ < w.heap.size) _ _ l0_2 a0_3 a1 a2 a3 t384 t385 t386 t389 t390 _ ?side1 A39.out).mono ?_); (case side1 => exact Kd.V_mk HC0_2.out (Kd.F_below (Kd.C_F (Kd.heap_int .u8) HR0_2.out) (by repeat (first | (with_reducible first | exact HB.out | apply below_alloc | apply pw_below_drewN | apply below_drew1 | refine below_set ?_ GE372.out | refine below_set ?_ GE380.out) | exact HB.out)))); rintro e w107 ⟨v387, rfl, ho0, hb⟩; refine ⟨_, rfl, ?_⟩; have n0_ := Aside0.mk (Kd.V_below (by (with_reducible repeat (first | apply Kd.V_alloc | apply Kd.V_drewN | apply Kd.V_drew)); exact HO_381002.out) hb); have n1_ := Aside0.mk (Kd.V_lower (Kd.V_mono (ok' := fun k_ => k_ ≠ gb372 ∧ k_ ≠ gb380) ho0 (fun k_ hk_ => ⟨Or.elim hk_ (fun hs_ => fun e_ => Nat.not_le.2 hs_ (by rw [e_]; exact GW372.out)) (fun hn_ => (Kd.freshB (g := gb372) (o := .cells #[.int .u64 a0_0, .int .u32 a0_1, .slice A0_2 l0_2.length c0_2, .int .i64 a0_3] 43 (0, 0)) (by (with_reducible repeat (first | refine blk_drewN ?_ _ | refine blk_drew ?_ | refine blk_alloc ?_ _)); exact BK372.out) k_ hn_)), Or.elim hk_ (fun hs_ => fun e_ => Nat.not_le.2 hs_ (by rw [e_]; exact GW380.out)) (fun hn_ => (Kd.freshB (g := gb380) (o := .cells #[.int .u64 t374, .int .u64 t375, .slice Ao19 t376.length co19, .int .i64 t379] 46 (0, 0)) (by (with_reducible repeat (first | refine blk_drewN ?_ _ | refine blk_drew ?_ | refine blk_alloc ?_ _)); exact BK380.out) k_ hn_))⟩)) (below_size (by repeat (first | (with_reducible first | exact HB.out | apply below_alloc | apply pw_below_drewN | apply below_drew1 | refine below_set ?_ GE372.out | refine below_set ?_ GE380.out) | exact HB.out)))); have n2_ := Aside0.mk (blk_below (g := gb372) (o := .cells #[.int .u64 a0_0, .int .u32 a0_1, .slice A0_2 l0_2.length c0_2, .int .i64 a0_3] 43 (0, 0)) (by (with_reducible repeat (first | refine blk_drewN ?_ _ | refine blk_drew ?_ | refine blk_alloc ?_ _)); exact BK372.out) hb); have n3_ := Aside0.mk (blk_below (g := gb380) (o := .cells #[.int .u64 t374, .int .u64 t375, .slice Ao19 t376.length co19, .int .i64 t379] 46 (0, 0)) (by (with_reducible repeat (first | refine blk_drewN ?_ _ | refine blk_drew ?_ | refine blk_alloc ?_ _)); exact BK380.out) hb); have n4_ := Aside0.mk (below_step (by repeat (first | (with_reducible first | exact HB.out | apply below_alloc | apply pw_below_drewN | apply below_drew1 | refine below_set ?_ GE372.out | refine below_set ?_ GE380.out) | exact HB.out)) hb); clear HO_381002; clear BK372; clear BK380; clear HB; have HO_381002 := n0_; have HO388 := n1_; have BK372 := n2_; have BK380 := n3_; have HB := n4_; clear n0_ n1_ n2_ n3_ n4_; (try clear hb); (try clear hb2); (try clear hk); (try clear hi); (try clear ho0)) | ((with_reducible refine gate_dst (N := 12) rfl ?_); refine box_event ?hg (N := 12) ?hd (cs := #[.int .u64 0, .int .u32 0, .slice none 0 0, .int .i64 0]) (t := 43) ?hr ?_; (case hd => rfl); (case hg => rfl); (case hr => first | (go_simp; done) | (go_simp; rfl)); intro gb391 hg w108 hbox hb; have n0_ := Aside0.mk (Kd.V_below (Kd.V_elderB (by (with_reducible repeat (first | apply Kd.V_alloc | apply Kd.V_drewN | apply Kd.V_drew)); exact HO_381002.out) gb391 (Nat.le_of_eq hg.symm)) hb); have n1_ := Aside0.mk (Kd.V_below (Kd.V_elderB (by (with_reducible repeat (first | apply Kd.V_alloc | apply Kd.V_drewN | apply Kd.V_drew)); exact HO388.out) gb391 (Nat.le_of_eq hg.symm)) hb); have n2_ := Aside0.mk (blk_below (g := gb372) (o := .cells #[.int .u64 a0_0, .int .u32 a0_1, .slice A0_2 l0_2.length c0_2, .int .i64 a0_3] 43 (0, 0)) (by (with_reducible repeat (first | refine blk_drewN ?_ _ | refine blk_drew ?_ | refine blk_alloc ?_ _)); exact BK372.out) hb); have n3_ := Aside0.mk (blk_below (g := gb380) (o := .cells #[.int .u64 t374, .int .u64 t375, .slice Ao19 t376.length co19, .int .i64 t379] 46 (0, 0)) (by (with_reducible repeat (first | refine blk_drewN ?_ _ | refine blk_drew ?_ | refine blk_alloc ?_ _)); exact BK380.out) hb); have n4_ := Aside0.mk (below_step (by repeat (first | (with_reducible first | exact HB.out | apply below_alloc | apply pw_below_drewN | apply below_drew1 | refine below_set ?_ GE372.out | refine below_set ?_ GE380.out) | exact HB.out)) hb); have n5_ := Aside0.mk (hbox); have n6_ := Aside0.mk ((by rw [hg]; exact (below_size (by repeat (first | (with_reducible first | exact HB.out | apply below_alloc | apply pw_below_drewN | apply below_drew1 | refine below_set ?_ GE372.out | refine below_set ?_ GE380.out) | exact HB.out))) : w.heap.size ≤ gb391)); have n7_ := Aside0.mk ((by rw [hg]; exact (below_size (by repeat (first | (with_reducible first | exact HB.out | apply below_alloc | apply pw_below_drewN | apply below_drew1 | refine below_set ?_ GE372.out | refine below_set ?_ GE380.out) | exact HB.out))) : w.heap.size ≤ gb391)); have n8_ := Aside0.mk ((by rw [hg]; exact Nat.ne_of_lt (blk_lt (g := gb372) (o := .cells #[.int .u64 a0_0, .int .u32 a0_1, .slice A0_2 l0_2.length c0_2, .int .i64 a0_3] 43 (0, 0)) (by (with_reducible repeat (first | refine blk_drewN ?_ _ | refine blk_drew ?_ | refine blk_alloc ?_ _)); exact BK372.out)) : gb372 ≠ gb391)); have n9_ := Aside0.mk ((by rw [hg]; exact Nat.ne_of_gt (blk_lt (g := gb372) (o := .cells #[.int .u64 a0_0, .int .u32 a0_1, .slice A0_2 l0_2.length c0_2, .int .i64 a0_3] 43 (0, 0)) (by (with_reducible repeat (first | refine blk_drewN ?_ _ | refine blk_drew ?_ | refine blk_alloc ?_ _)); exact BK372.out)) : gb391 ≠ gb372)); have n10_ := Aside0.mk ((by rw [hg]; exact Nat.ne_of_lt (blk_lt (g := gb380) (o := .cells #[.int .u64 t374, .int .u64 t375, .slice Ao19 t376.length co19, .int .i64 t379] 46 (0, 0)) (by (with_reducible repeat (first | refine blk_drewN ?_ _ | refine blk_drew ?_ | refine blk_alloc ?_ _)); exact BK380.out)) : gb380 ≠ gb391)); have n11_ := Aside0.mk ((by rw [hg]; exact Nat.ne_of_gt (blk_lt (g := gb380) (o := .cells #[.int .u64 t374, .int .u64 t375, .slice Ao19 t376.length co19, .int .i64 t379] 46 (0, 0)) (by (with_reducible repeat (first | refine blk_drewN ?_ _ | refine blk_drew ?_ | refine blk_alloc ?_ _)); exact BK380.out)) : gb391 ≠ gb380)); clear HO_381002; clear HO388; clear BK372; clear BK380; clear HB; have HO_381002 := n0_; have HO388 := n1_; have BK372 := n2_; have BK380 := n3_; have HB := n4_; have BK391 := n5_; have GW391 := n6_; have GE391 := n7_; have NB372_391 := n8_; have NB391_372 := n9_; have NB380_391 := n10_; have NB391_380 := n11_; clear n0_ n1_ n2_ n3_ n4_ n5_ n6_ n7_ n8_ n9_ n10_ n11_; clear hb hbox hg; have hnb109 := NB391_372.out; have hnc109 := NB372_391.out; have hnb110 := NB391_380.out; have hnc110 := NB380_391.out; have hcz111_0 : w108.cell? ⟨gb391, 0, none⟩ = some (.int .u64 0) := (blk_cell BK391.out 0).trans rfl; have hcz111_1 : w108.cell? ⟨gb391, 1, none⟩ = some (.int .u32 0) := (blk_cell BK391.out 1).trans rfl; have hcz111_2 : w108.cell? ⟨gb391, 2, none⟩ = some (.slice none 0 0) := (blk_cell BK391.out 2).trans rfl; have hcz111_3 : w108.cell? ⟨gb391, 3, none⟩ = some (.int .i64 0) := (blk_cell BK391.out 3).trans rfl; have hfz111_0 := blk_frozen BK391.out 0; have hfz111_1 := blk_frozen BK391.out 1; have hfz111_2 := blk_frozen BK391.out 2; have hfz111_3 := blk_frozen BK391.out 3; obtain ⟨Ao112, co112, eo112⟩ := Kd.V_slice HO388.out; subst eo112) | ((with_reducible refine gate_callee (f := 35) rfl ?_); refine goesL_ (some 59) rfl rfl Try.func35 (by kernel_rfl) rfl #[.int .i64 a1, .int .i64 a2, .int .i64 a3] rfl (by (try simp only [List.map_toArray, List.map_cons, List.map_nil]); first | done | rfl | (simp only [List.length_drop, List.length_take]; rfl)) ?_; (with_reducible refine (psalteryref05_Fair.calls a1 a2 a3 false _ A40.out).mono ?_); rintro e w' ⟨rfl, ⟨nd, rfl⟩⟩; refine ⟨_, rfl, ?_⟩; have hcz113_0 : w108.cell? ⟨gb380, 0, none⟩ = some (.int .u64 t374) := (blk_cell BK380.out 0).trans rfl; have hcz113_1 : w108.cell? ⟨gb380, 1, none⟩ = some (.int .u64 t375) := (blk_cell BK380.out 1).trans rfl; have hcz113_2 : w108.cell? ⟨gb380, 2, none⟩ = some (.slice Ao19 t376.length co19) := (blk_cell BK380.out 2).trans rfl; have hcz113_3 : w108.cell? ⟨gb380, 3, none⟩ = some (.int .i64 t379) := (blk_cell BK380.out 3).trans rfl; have hfz113_0 := blk_frozen BK380.out 0; have hfz113_1 := blk_frozen BK380.out 1; have hfz113_2 := blk_frozen BK380.out 2; have hfz113_3 := blk_frozen BK380.out 3) | (go_at_call 25; (with_reducible refine (psalterylaw05_SameDec.calls t384 t385 _ _ t386 t389 t374 t375 _ _ t376 t379 true _ ?side1 ?side2 ?side3 ?side4 A102.out).mono ?_); (case side1 => refine (Kd.V_reads' (e := 5) (base := w.heap.size) (ok := fun k_ => ((k_ ≠ gb372 ∧ k_ ≠ gb380) ∧ k_ ≠ gb391)) (n := t386.length) (c := co112) ?_).2.2; exact (by (with_reducible repeat (first | apply Kd.V_alloc | apply Kd.V_drewN | apply Kd.V_drew)); exact (Kd.V_mono (Kd.V_far (p := ⟨gb391, 3, none⟩) (Kd.V_far (p := ⟨gb391, 2, none⟩) (Kd.V_far (p := ⟨gb391, 1, none⟩) (Kd.V_far (p := ⟨gb391, 0, none⟩) (Kd.V_mono HO388.out (fun k_ hk => (⟨hk, hk.2⟩ : _ ∧ k_ ≠ gb391))) (fun _ hk => hk.2) (.int .u64 t384)) (fun _ hk => hk.2) (.int .u32 t385)) (fun _ hk => hk.2) (.slice Ao112 t386.length co112)) (fun _ hk => hk.2) (.int .i64 t389)) (fun _ h_ => h_.1)))); (case side2 => exact (Kd.V_reads' HO388.out).2.1); (case side3 => refine (Kd.V_reads' (e := 5) (base := w.heap.size) (ok := fun k_ => ((k_ ≠ gb372 ∧ k_ ≠ gb380) ∧ k_ ≠ gb391)) (n := t376.length) (c := co19) ?_).2.2; exact (by (with_reducible repeat (first | apply Kd.V_alloc | apply Kd.V_drewN | apply Kd.V_drew)); exact (Kd.V_mono (Kd.V_far (p := ⟨gb391, 3, none⟩) (Kd.V_far (p := ⟨gb391, 2, none⟩) (Kd.V_far (p := ⟨gb391, 1, none⟩) (Kd.V_far (p := ⟨gb391, 0, none⟩) (Kd.V_mono HO_381002.out (fun k_ hk => (⟨hk, hk.2⟩ : _ ∧ k_ ≠ gb391))) (fun _ hk => hk.2) (.int .u64 t384)) (fun _ hk => hk.2) (.int .u32 t385)) (fun _ hk => hk.2) (.slice Ao112 t386.length co112)) (fun _ hk => hk.2) (.int .i64 t389)) (fun _ h_ => h_.1)))); (case side4 => exact (Kd.V_reads' HO_381002.out).2.1); rintro e w114 ⟨rfl, hb⟩; have n0_ := Aside0.mk (Kd.V_below (by (with_reducible repeat (first | apply Kd.V_alloc | apply Kd.V_drewN | apply Kd.V_drew)); exact (Kd.V_mono (Kd.V_far (p := ⟨gb391, 3, none⟩) (Kd.V_far (p := ⟨gb391, 2, none⟩) (Kd.V_far (p := ⟨gb391, 1, none⟩) (Kd.V_far (p := ⟨gb391, 0, none⟩) (Kd.V_mono HO_381002.out (fun k_ hk => (⟨hk, hk.2⟩ : _ ∧ k_ ≠ gb391))) (fun _ hk => hk.2) (.int .u64 t384)) (fun _ hk => hk.2) (.int .u32 t385)) (fun _ hk => hk.2) (.slice Ao112 t386.length co112)) (fun _ hk => hk.2) (.int .i64 t389)) (fun _ h_ => h_.1))) hb); have n1_ := Aside0.mk (Kd.V_below (by (with_reducible repeat (first | apply Kd.V_alloc | apply Kd.V_drewN | apply Kd.V_drew)); exact (Kd.V_mono (Kd.V_far (p := ⟨gb391, 3, none⟩) (Kd.V_far (p := ⟨gb391, 2, none⟩) (Kd.V_far (p := ⟨gb391, 1, none⟩) (Kd.V_far (p := ⟨gb391, 0, none⟩) (Kd.V_mono HO388.out (fun k_ hk => (⟨hk, hk.2⟩ : _ ∧ k_ ≠ gb391))) (fun _ hk => hk.2) (.int .u64 t384)) (fun _ hk => hk.2) (.int .u32 t385)) (fun _ hk => hk.2) (.slice Ao112 t386.length co112)) (fun _ hk => hk.2) (.int .i64 t389)) (fun _ h_ => h_.1))) hb); have n2_ := Aside0.mk (blk_below (g := gb372) (o := .cells #[.int .u64 a0_0, .int .u32 a0_1, .slice A0_2 l0_2.length c0_2, .int .i64 a0_3] 43 (0, 0)) (by (with_reducible repeat (first | refine blk_drewN ?_ _ | refine blk_drew ?_ | refine blk_alloc ?_ _)); refine blk_far ?_ NB372_391.out _; (with_reducible repeat (first | refine blk_drewN ?_ _ | refine blk_drew ?_ | refine blk_alloc ?_ _)); refine blk_far ?_ NB372_391.out _; (with_reducible repeat (first | refine blk_drewN ?_ _ | refine blk_drew ?_ | refine blk_alloc ?_ _)); refine blk_far ?_ NB372_391.out _; (with_reducible repeat (first | refine blk_drewN ?_ _ | refine blk_drew ?_ | refine blk_alloc ?_ _)); refine blk_far ?_ NB372_391.out _; (with_reducible repeat (first | refine blk_drewN ?_ _ | refine blk_drew ?_ | refine blk_alloc ?_ _)); exact BK372.out) hb); have n3_ := Aside0.mk (blk_below (g := gb380) (o := .cells #[.int .u64 t374, .int .u64 t375, .slice Ao19 t376.length co19, .int .i64 t379] 46 (0, 0)) (by (with_reducible repeat (first | refine blk_drewN ?_ _ | refine blk_drew ?_ | refine blk_alloc ?_ _)); refine blk_far ?_ NB380_391.out _; (with_reducible repeat (first | refine blk_drewN ?_ _ | refine blk_drew ?_ | refine blk_alloc ?_ _)); refine blk_far ?_ NB380_391.out _; (with_reducible repeat (first | refine blk_drewN ?_ _ | refine blk_drew ?_ | refine blk_alloc ?_ _)); refine blk_far ?_ NB380_391.out _; (with_reducible repeat (first | refine blk_drewN ?_ _ | refine blk_drew ?_ | refine blk_alloc ?_ _)); refine blk_far ?_ NB380_391.out _; (with_reducible repeat (first | refine blk_drewN ?_ _ | refine blk_drew ?_ | refine blk_alloc ?_ _)); exact BK380.out) hb); have n4_ := Aside0.mk (blk_below (g := gb391) (o := .cells #[.int .u64 t384, .int .u32 t385, .slice Ao112 t386.length co112, .int .i64 t389] 43 (0, 0)) (by (with_reducible repeat (first | refine blk_drewN ?_ _ | refine blk_drew ?_ | refine blk_alloc ?_ _)); refine blk_put (cs := #[.int .u64 t384, .int .u32 t385, .slice Ao112 t386.length co112, .int .i64 0]) ?_ 3 _ rfl; (with_reducible repeat (first | refine blk_drewN ?_ _ | refine blk_drew ?_ | refine blk_alloc ?_ _)); refine blk_put (cs := #[.int .u64 t384, .int .u32 t385, .slice none 0 0, .int .i64 0]) ?_ 2 _ rfl; (with_reducible repeat (first | refine blk_drewN ?_ _ | refine blk_drew ?_ | refine blk_alloc ?_ _)); refine blk_put (cs := #[.int .u64 t384, .int .u32 0, .slice none 0 0, .int .i64 0]) ?_ 1 _ rfl; (with_reducible repeat (first | refine blk_drewN ?_ _ | refine blk_drew ?_ | refine blk_alloc ?_ _)); refine blk_put (cs := #[.int .u64 0, .int .u32 0, .slice none 0 0, .int .i64 0]) ?_ 0 _ rfl; (with_reducible repeat (first | refine blk_drewN ?_ _ | refine blk_drew ?_ | refine blk_alloc ?_ _)); exact BK391.out) hb); have n5_ := Aside0.mk (below_step (by repeat (first | (with_reducible first | exact HB.out | apply below_alloc | apply pw_below_drewN | apply below_drew1 | refine below_set ?_ GE372.out | refine below_set ?_ GE380.out | refine below_set ?_ GE391.out) | exact HB.out)) hb); clear HO_381002; clear HO388; clear BK372; clear BK380; clear BK391; clear HB; have HO_381002 := n0_; have HO388 := n1_; have BK372 := n2_; have BK380 := n3_; have BK391 := n4_; have HB := n5_; clear n0_ n1_ n2_ n3_ n4_ n5_; (try clear hb); (try clear hb2); (try clear hk); (try clear hi)) | (go_at_call 17; (with_reducible refine (psalterylaw05_knows.calls kj22  t394 _ A104.out).mono ?_); rintro e w115 ⟨rfl, hb⟩; have n0_ := Aside0.mk (Kd.V_below (by (with_reducible repeat (first | apply Kd.V_alloc | apply Kd.V_drewN | apply Kd.V_drew)); exact HO_381002.out) hb); have n1_ := Aside0.mk (Kd.V_below (by (with_reducible repeat (first | apply Kd.V_alloc | apply Kd.V_drewN | apply Kd.V_drew)); exact HO388.out) hb); have n2_ := Aside0.mk (blk_below (g := gb372) (o := .cells #[.int .u64 a0_0, .int .u32 a0_1, .slice A0_2 l0_2.length c0_2, .int .i64 a0_3] 43 (0, 0)) (by (with_reducible repeat (first | refine blk_drewN ?_ _ | refine blk_drew ?_ | refine blk_alloc ?_ _)); exact BK372.out) hb); have n3_ := Aside0.mk (blk_below (g := gb380) (o := .cells #[.int .u64 t374, .int .u64 t375, .slice Ao19 t376.length co19, .int .i64 t379] 46 (0, 0)) (by (with_reducible repeat (first | refine blk_drewN ?_ _ | refine blk_drew ?_ | refine blk_alloc ?_ _)); exact BK380.out) hb); have n4_ := Aside0.mk (blk_below (g := gb391) (o := .cells #[.int .u64 t384, .int .u32 t385, .slice Ao112 t386.length co112, .int .i64 t389] 43 (0, 0)) (by (with_reducible repeat (first | refine blk_drewN ?_ _ | refine blk_drew ?_ | refine blk_alloc ?_ _)); exact BK391.out) hb); have n5_ := Aside0.mk (below_step (by repeat (first | (with_reducible first | exact HB.out | apply below_alloc | apply pw_below_drewN | apply below_drew1 | refine below_set ?_ GE372.out | refine below_set ?_ GE380.out | refine below_set ?_ GE391.out) | exact HB.out)) hb); clear HO_381002; clear HO388; clear BK372; clear BK380; clear BK391; clear HB; have HO_381002 := n0_; have HO388 := n1_; have BK372 := n2_; have BK380 := n3_; have BK391 := n4_; have HB := n5_; clear n0_ n1_ n2_ n3_ n4_ n5_; (try clear hb); (try clear hb2); (try clear hk); (try clear hi)))
                  go_ret
                  exact ⟨by first | rfl | (simp [errW_none, errW_some] <;> rfl) | (simp [*, errW_none, errW_some] <;> rfl), by repeat (first | (with_reducible first | exact HB.out | apply below_alloc | apply pw_below_drewN | apply below_drew1 | refine below_set ?_ GE372.out | refine below_set ?_ GE380.out | refine below_set ?_ GE391.out) | exact HB.out)⟩
                · replace c103 := Bool.eq_false_iff.mpr c103
                  subst c103
                  have H1 : (some false) = some r := by rw [if_neg (show ¬ (false = true) by decide)] at H; exact H
                  clear H
                  have H := H1
                  clear H1
                  obtain rfl := Option.some.inj H
                  have hnb116 := NB372_380.out
                  have hnc116 := NB380_372.out
                  have hcz117_0 : wc.cell? ⟨gb372, 0, none⟩ = some (.int .u64 a0_0) := (blk_cell BK372.out 0).trans rfl
                  have hcz117_1 : wc.cell? ⟨gb372, 1, none⟩ = some (.int .u32 a0_1) := (blk_cell BK372.out 1).trans rfl
                  have hcz117_2 : wc.cell? ⟨gb372, 2, none⟩ = some (.slice A0_2 l0_2.length c0_2) := (blk_cell BK372.out 2).trans rfl
                  have hcz117_3 : wc.cell? ⟨gb372, 3, none⟩ = some (.int .i64 a0_3) := (blk_cell BK372.out 3).trans rfl
                  have hfz117_0 := blk_frozen BK372.out 0
                  have hfz117_1 := blk_frozen BK372.out 1
                  have hfz117_2 := blk_frozen BK372.out 2
                  have hfz117_3 := blk_frozen BK372.out 3
                  go_wp2_with (first | ((with_reducible refine gate_callee (f := 34) rfl ?_); refine goesL_ (some 53) rfl rfl Try.func34 (by kernel_rfl) rfl #[.agg #[.int .u64 a0_0, .int .u32 a0_1, .slice A0_2 l0_2.length c0_2, .int .i64 a0_3], .int .i64 a1, .int .i64 a2, .int .i64 a3] rfl (by (try simp only [List.map_toArray, List.map_cons, List.map_nil]); first | done | rfl | (simp only [List.length_drop, List.length_take]; rfl)) ?_; (with_reducible refine (coder_Take.calls kj22 a0_0 a0_1 (fun k_ => k_ < w.heap.size) _ _ l0_2 a0_3 a1 a2 a3 t384 t385 t386 t389 t390 _ ?side1 A39.out).mono ?_); (case side1 => exact Kd.V_mk HC0_2.out (Kd.F_below (Kd.C_F (Kd.heap_int .u8) HR0_2.out) (by repeat (first | (with_reducible first | exact HB.out | apply below_alloc | apply pw_below_drewN | apply below_drew1 | refine below_set ?_ GE372.out | refine below_set ?_ GE380.out) | exact HB.out)))); rintro e w118 ⟨v387, rfl, ho0, hb⟩; refine ⟨_, rfl, ?_⟩; have n0_ := Aside0.mk (Kd.V_below (by (with_reducible repeat (first | apply Kd.V_alloc | apply Kd.V_drewN | apply Kd.V_drew)); exact HO_381002.out) hb); have n1_ := Aside0.mk (Kd.V_lower (Kd.V_mono (ok' := fun k_ => k_ ≠ gb372 ∧ k_ ≠ gb380) ho0 (fun k_ hk_ => ⟨Or.elim hk_ (fun hs_ => fun e_ => Nat.not_le.2 hs_ (by rw [e_]; exact GW372.out)) (fun hn_ => (Kd.freshB (g := gb372) (o := .cells #[.int .u64 a0_0, .int .u32 a0_1, .slice A0_2 l0_2.length c0_2, .int .i64 a0_3] 43 (0, 0)) (by (with_reducible repeat (first | refine blk_drewN ?_ _ | refine blk_drew ?_ | refine blk_alloc ?_ _)); exact BK372.out) k_ hn_)), Or.elim hk_ (fun hs_ => fun e_ => Nat.not_le.2 hs_ (by rw [e_]; exact GW380.out)) (fun hn_ => (Kd.freshB (g := gb380) (o := .cells #[.int .u64 t374, .int .u64 t375, .slice Ao19 t376.length co19, .int .i64 t379] 46 (0, 0)) (by (with_reducible repeat (first | refine blk_drewN ?_ _ | refine blk_drew ?_ | refine blk_alloc ?_ _)); exact BK380.out) k_ hn_))⟩)) (below_size (by repeat (first | (with_reducible first | exact HB.out | apply below_alloc | apply pw_below_drewN | apply below_drew1 | refine below_set ?_ GE372.out | refine below_set ?_ GE380.out) | exact HB.out)))); have n2_ := Aside0.mk (blk_below (g := gb372) (o := .cells #[.int .u64 a0_0, .int .u32 a0_1, .slice A0_2 l0_2.length c0_2, .int .i64 a0_3] 43 (0, 0)) (by (with_reducible repeat (first | refine blk_drewN ?_ _ | refine blk_drew ?_ | refine blk_alloc ?_ _)); exact BK372.out) hb); have n3_ := Aside0.mk (blk_below (g := gb380) (o := .cells #[.int .u64 t374, .int .u64 t375, .slice Ao19 t376.length co19, .int .i64 t379] 46 (0, 0)) (by (with_reducible repeat (first | refine blk_drewN ?_ _ | refine blk_drew ?_ | refine blk_alloc ?_ _)); exact BK380.out) hb); have n4_ := Aside0.mk (below_step (by repeat (first | (with_reducible first | exact HB.out | apply below_alloc | apply pw_below_drewN | apply below_drew1 | refine below_set ?_ GE372.out | refine below_set ?_ GE380.out) | exact HB.out)) hb); clear HO_381002; clear BK372; clear BK380; clear HB; have HO_381002 := n0_; have HO388 := n1_; have BK372 := n2_; have BK380 := n3_; have HB := n4_; clear n0_ n1_ n2_ n3_ n4_; (try clear hb); (try clear hb2); (try clear hk); (try clear hi); (try clear ho0)) | ((with_reducible refine gate_dst (N := 12) rfl ?_); refine box_event ?hg (N := 12) ?hd (cs := #[.int .u64 0, .int .u32 0, .slice none 0 0, .int .i64 0]) (t := 43) ?hr ?_; (case hd => rfl); (case hg => rfl); (case hr => first | (go_simp; done) | (go_simp; rfl)); intro gb391 hg w119 hbox hb; have n0_ := Aside0.mk (Kd.V_below (Kd.V_elderB (by (with_reducible repeat (first | apply Kd.V_alloc | apply Kd.V_drewN | apply Kd.V_drew)); exact HO_381002.out) gb391 (Nat.le_of_eq hg.symm)) hb); have n1_ := Aside0.mk (Kd.V_below (Kd.V_elderB (by (with_reducible repeat (first | apply Kd.V_alloc | apply Kd.V_drewN | apply Kd.V_drew)); exact HO388.out) gb391 (Nat.le_of_eq hg.symm)) hb); have n2_ := Aside0.mk (blk_below (g := gb372) (o := .cells #[.int .u64 a0_0, .int .u32 a0_1, .slice A0_2 l0_2.length c0_2, .int .i64 a0_3] 43 (0, 0)) (by (with_reducible repeat (first | refine blk_drewN ?_ _ | refine blk_drew ?_ | refine blk_alloc ?_ _)); exact BK372.out) hb); have n3_ := Aside0.mk (blk_below (g := gb380) (o := .cells #[.int .u64 t374, .int .u64 t375, .slice Ao19 t376.length co19, .int .i64 t379] 46 (0, 0)) (by (with_reducible repeat (first | refine blk_drewN ?_ _ | refine blk_drew ?_ | refine blk_alloc ?_ _)); exact BK380.out) hb); have n4_ := Aside0.mk (below_step (by repeat (first | (with_reducible first | exact HB.out | apply below_alloc | apply pw_below_drewN | apply below_drew1 | refine below_set ?_ GE372.out | refine below_set ?_ GE380.out) | exact HB.out)) hb); have n5_ := Aside0.mk (hbox); have n6_ := Aside0.mk ((by rw [hg]; exact (below_size (by repeat (first | (with_reducible first | exact HB.out | apply below_alloc | apply pw_below_drewN | apply below_drew1 | refine below_set ?_ GE372.out | refine below_set ?_ GE380.out) | exact HB.out))) : w.heap.size ≤ gb391)); have n7_ := Aside0.mk ((by rw [hg]; exact (below_size (by repeat (first | (with_reducible first | exact HB.out | apply below_alloc | apply pw_below_drewN | apply below_drew1 | refine below_set ?_ GE372.out | refine below_set ?_ GE380.out) | exact HB.out))) : w.heap.size ≤ gb391)); have n8_ := Aside0.mk ((by rw [hg]; exact Nat.ne_of_lt (blk_lt (g := gb372) (o := .cells #[.int .u64 a0_0, .int .u32 a0_1, .slice A0_2 l0_2.length c0_2, .int .i64 a0_3] 43 (0, 0)) (by (with_reducible repeat (first | refine blk_drewN ?_ _ | refine blk_drew ?_ | refine blk_alloc ?_ _)); exact BK372.out)) : gb372 ≠ gb391)); have n9_ := Aside0.mk ((by rw [hg]; exact Nat.ne_of_gt (blk_lt (g := gb372) (o := .cells #[.int .u64 a0_0, .int .u32 a0_1, .slice A0_2 l0_2.length c0_2, .int .i64 a0_3] 43 (0, 0)) (by (with_reducible repeat (first | refine blk_drewN ?_ _ | refine blk_drew ?_ | refine blk_alloc ?_ _)); exact BK372.out)) : gb391 ≠ gb372)); have n10_ := Aside0.mk ((by rw [hg]; exact Nat.ne_of_lt (blk_lt (g := gb380) (o := .cells #[.int .u64 t374, .int .u64 t375, .slice Ao19 t376.length co19, .int .i64 t379] 46 (0, 0)) (by (with_reducible repeat (first | refine blk_drewN ?_ _ | refine blk_drew ?_ | refine blk_alloc ?_ _)); exact BK380.out)) : gb380 ≠ gb391)); have n11_ := Aside0.mk ((by rw [hg]; exact Nat.ne_of_gt (blk_lt (g := gb380) (o := .cells #[.int .u64 t374, .int .u64 t375, .slice Ao19 t376.length co19, .int .i64 t379] 46 (0, 0)) (by (with_reducible repeat (first | refine blk_drewN ?_ _ | refine blk_drew ?_ | refine blk_alloc ?_ _)); exact BK380.out)) : gb391 ≠ gb380)); clear HO_381002; clear HO388; clear BK372; clear BK380; clear HB; have HO_381002 := n0_; have HO388 := n1_; have BK372 := n2_; have BK380 := n3_; have HB := n4_; have BK391 := n5_; have GW391 := n6_; have GE391 := n7_; have NB372_391 := n8_; have NB391_372 := n9_; have NB380_391 := n10_; have NB391_380 := n11_; clear n0_ n1_ n2_ n3_ n4_ n5_ n6_ n7_ n8_ n9_ n10_ n11_; clear hb hbox hg; have hnb120 := NB391_372.out; have hnc120 := NB372_391.out; have hnb121 := NB391_380.out; have hnc121 := NB380_391.out; have hcz122_0 : w119.cell? ⟨gb391, 0, none⟩ = some (.int .u64 0) := (blk_cell BK391.out 0).trans rfl; have hcz122_1 : w119.cell? ⟨gb391, 1, none⟩ = some (.int .u32 0) := (blk_cell BK391.out 1).trans rfl; have hcz122_2 : w119.cell? ⟨gb391, 2, none⟩ = some (.slice none 0 0) := (blk_cell BK391.out 2).trans rfl; have hcz122_3 : w119.cell? ⟨gb391, 3, none⟩ = some (.int .i64 0) := (blk_cell BK391.out 3).trans rfl; have hfz122_0 := blk_frozen BK391.out 0; have hfz122_1 := blk_frozen BK391.out 1; have hfz122_2 := blk_frozen BK391.out 2; have hfz122_3 := blk_frozen BK391.out 3; obtain ⟨Ao123, co123, eo123⟩ := Kd.V_slice HO388.out; subst eo123) | ((with_reducible refine gate_callee (f := 35) rfl ?_); refine goesL_ (some 59) rfl rfl Try.func35 (by kernel_rfl) rfl #[.int .i64 a1, .int .i64 a2, .int .i64 a3] rfl (by (try simp only [List.map_toArray, List.map_cons, List.map_nil]); first | done | rfl | (simp only [List.length_drop, List.length_take]; rfl)) ?_; (with_reducible refine (psalteryref05_Fair.calls a1 a2 a3 false _ A40.out).mono ?_); rintro e w' ⟨rfl, ⟨nd, rfl⟩⟩; refine ⟨_, rfl, ?_⟩; have hcz124_0 : w119.cell? ⟨gb380, 0, none⟩ = some (.int .u64 t374) := (blk_cell BK380.out 0).trans rfl; have hcz124_1 : w119.cell? ⟨gb380, 1, none⟩ = some (.int .u64 t375) := (blk_cell BK380.out 1).trans rfl; have hcz124_2 : w119.cell? ⟨gb380, 2, none⟩ = some (.slice Ao19 t376.length co19) := (blk_cell BK380.out 2).trans rfl; have hcz124_3 : w119.cell? ⟨gb380, 3, none⟩ = some (.int .i64 t379) := (blk_cell BK380.out 3).trans rfl; have hfz124_0 := blk_frozen BK380.out 0; have hfz124_1 := blk_frozen BK380.out 1; have hfz124_2 := blk_frozen BK380.out 2; have hfz124_3 := blk_frozen BK380.out 3) | (go_at_call 25; (with_reducible refine (psalterylaw05_SameDec.calls t384 t385 _ _ t386 t389 t374 t375 _ _ t376 t379 false _ ?side1 ?side2 ?side3 ?side4 A102.out).mono ?_); (case side1 => refine (Kd.V_reads' (e := 5) (base := w.heap.size) (ok := fun k_ => ((k_ ≠ gb372 ∧ k_ ≠ gb380) ∧ k_ ≠ gb391)) (n := t386.length) (c := co123) ?_).2.2; exact (by (with_reducible repeat (first | apply Kd.V_alloc | apply Kd.V_drewN | apply Kd.V_drew)); exact (Kd.V_mono (Kd.V_far (p := ⟨gb391, 3, none⟩) (Kd.V_far (p := ⟨gb391, 2, none⟩) (Kd.V_far (p := ⟨gb391, 1, none⟩) (Kd.V_far (p := ⟨gb391, 0, none⟩) (Kd.V_mono HO388.out (fun k_ hk => (⟨hk, hk.2⟩ : _ ∧ k_ ≠ gb391))) (fun _ hk => hk.2) (.int .u64 t384)) (fun _ hk => hk.2) (.int .u32 t385)) (fun _ hk => hk.2) (.slice Ao123 t386.length co123)) (fun _ hk => hk.2) (.int .i64 t389)) (fun _ h_ => h_.1)))); (case side2 => exact (Kd.V_reads' HO388.out).2.1); (case side3 => refine (Kd.V_reads' (e := 5) (base := w.heap.size) (ok := fun k_ => ((k_ ≠ gb372 ∧ k_ ≠ gb380) ∧ k_ ≠ gb391)) (n := t376.length) (c := co19) ?_).2.2; exact (by (with_reducible repeat (first | apply Kd.V_alloc | apply Kd.V_drewN | apply Kd.V_drew)); exact (Kd.V_mono (Kd.V_far (p := ⟨gb391, 3, none⟩) (Kd.V_far (p := ⟨gb391, 2, none⟩) (Kd.V_far (p := ⟨gb391, 1, none⟩) (Kd.V_far (p := ⟨gb391, 0, none⟩) (Kd.V_mono HO_381002.out (fun k_ hk => (⟨hk, hk.2⟩ : _ ∧ k_ ≠ gb391))) (fun _ hk => hk.2) (.int .u64 t384)) (fun _ hk => hk.2) (.int .u32 t385)) (fun _ hk => hk.2) (.slice Ao123 t386.length co123)) (fun _ hk => hk.2) (.int .i64 t389)) (fun _ h_ => h_.1)))); (case side4 => exact (Kd.V_reads' HO_381002.out).2.1); rintro e w125 ⟨rfl, hb⟩; have n0_ := Aside0.mk (Kd.V_below (by (with_reducible repeat (first | apply Kd.V_alloc | apply Kd.V_drewN | apply Kd.V_drew)); exact (Kd.V_mono (Kd.V_far (p := ⟨gb391, 3, none⟩) (Kd.V_far (p := ⟨gb391, 2, none⟩) (Kd.V_far (p := ⟨gb391, 1, none⟩) (Kd.V_far (p := ⟨gb391, 0, none⟩) (Kd.V_mono HO_381002.out (fun k_ hk => (⟨hk, hk.2⟩ : _ ∧ k_ ≠ gb391))) (fun _ hk => hk.2) (.int .u64 t384)) (fun _ hk => hk.2) (.int .u32 t385)) (fun _ hk => hk.2) (.slice Ao123 t386.length co123)) (fun _ hk => hk.2) (.int .i64 t389)) (fun _ h_ => h_.1))) hb); have n1_ := Aside0.mk (Kd.V_below (by (with_reducible repeat (first | apply Kd.V_alloc | apply Kd.V_drewN | apply Kd.V_drew)); exact (Kd.V_mono (Kd.V_far (p := ⟨gb391, 3, none⟩) (Kd.V_far (p := ⟨gb391, 2, none⟩) (Kd.V_far (p := ⟨gb391, 1, none⟩) (Kd.V_far (p := ⟨gb391, 0, none⟩) (Kd.V_mono HO388.out (fun k_ hk => (⟨hk, hk.2⟩ : _ ∧ k_ ≠ gb391))) (fun _ hk => hk.2) (.int .u64 t384)) (fun _ hk => hk.2) (.int .u32 t385)) (fun _ hk => hk.2) (.slice Ao123 t386.length co123)) (fun _ hk => hk.2) (.int .i64 t389)) (fun _ h_ => h_.1))) hb); have n2_ := Aside0.mk (blk_below (g := gb372) (o := .cells #[.int .u64 a0_0, .int .u32 a0_1, .slice A0_2 l0_2.length c0_2, .int .i64 a0_3] 43 (0, 0)) (by (with_reducible repeat (first | refine blk_drewN ?_ _ | refine blk_drew ?_ | refine blk_alloc ?_ _)); refine blk_far ?_ NB372_391.out _; (with_reducible repeat (first | refine blk_drewN ?_ _ | refine blk_drew ?_ | refine blk_alloc ?_ _)); refine blk_far ?_ NB372_391.out _; (with_reducible repeat (first | refine blk_drewN ?_ _ | refine blk_drew ?_ | refine blk_alloc ?_ _)); refine blk_far ?_ NB372_391.out _; (with_reducible repeat (first | refine blk_drewN ?_ _ | refine blk_drew ?_ | refine blk_alloc ?_ _)); refine blk_far ?_ NB372_391.out _; (with_reducible repeat (first | refine blk_drewN ?_ _ | refine blk_drew ?_ | refine blk_alloc ?_ _)); exact BK372.out) hb); have n3_ := Aside0.mk (blk_below (g := gb380) (o := .cells #[.int .u64 t374, .int .u64 t375, .slice Ao19 t376.length co19, .int .i64 t379] 46 (0, 0)) (by (with_reducible repeat (first | refine blk_drewN ?_ _ | refine blk_drew ?_ | refine blk_alloc ?_ _)); refine blk_far ?_ NB380_391.out _; (with_reducible repeat (first | refine blk_drewN ?_ _ | refine blk_drew ?_ | refine blk_alloc ?_ _)); refine blk_far ?_ NB380_391.out _; (with_reducible repeat (first | refine blk_drewN ?_ _ | refine blk_drew ?_ | refine blk_alloc ?_ _)); refine blk_far ?_ NB380_391.out _; (with_reducible repeat (first | refine blk_drewN ?_ _ | refine blk_drew ?_ | refine blk_alloc ?_ _)); refine blk_far ?_ NB380_391.out _; (with_reducible repeat (first | refine blk_drewN ?_ _ | refine blk_drew ?_ | refine blk_alloc ?_ _)); exact BK380.out) hb); have n4_ := Aside0.mk (blk_below (g := gb391) (o := .cells #[.int .u64 t384, .int .u32 t385, .slice Ao123 t386.length co123, .int .i64 t389] 43 (0, 0)) (by (with_reducible repeat (first | refine blk_drewN ?_ _ | refine blk_drew ?_ | refine blk_alloc ?_ _)); refine blk_put (cs := #[.int .u64 t384, .int .u32 t385, .slice Ao123 t386.length co123, .int .i64 0]) ?_ 3 _ rfl; (with_reducible repeat (first | refine blk_drewN ?_ _ | refine blk_drew ?_ | refine blk_alloc ?_ _)); refine blk_put (cs := #[.int .u64 t384, .int .u32 t385, .slice none 0 0, .int .i64 0]) ?_ 2 _ rfl; (with_reducible repeat (first | refine blk_drewN ?_ _ | refine blk_drew ?_ | refine blk_alloc ?_ _)); refine blk_put (cs := #[.int .u64 t384, .int .u32 0, .slice none 0 0, .int .i64 0]) ?_ 1 _ rfl; (with_reducible repeat (first | refine blk_drewN ?_ _ | refine blk_drew ?_ | refine blk_alloc ?_ _)); refine blk_put (cs := #[.int .u64 0, .int .u32 0, .slice none 0 0, .int .i64 0]) ?_ 0 _ rfl; (with_reducible repeat (first | refine blk_drewN ?_ _ | refine blk_drew ?_ | refine blk_alloc ?_ _)); exact BK391.out) hb); have n5_ := Aside0.mk (below_step (by repeat (first | (with_reducible first | exact HB.out | apply below_alloc | apply pw_below_drewN | apply below_drew1 | refine below_set ?_ GE372.out | refine below_set ?_ GE380.out | refine below_set ?_ GE391.out) | exact HB.out)) hb); clear HO_381002; clear HO388; clear BK372; clear BK380; clear BK391; clear HB; have HO_381002 := n0_; have HO388 := n1_; have BK372 := n2_; have BK380 := n3_; have BK391 := n4_; have HB := n5_; clear n0_ n1_ n2_ n3_ n4_ n5_; (try clear hb); (try clear hb2); (try clear hk); (try clear hi)))
                  go_ret
                  exact ⟨by first | rfl | (simp [errW_none, errW_some] <;> rfl) | (simp [*, errW_none, errW_some] <;> rfl), by repeat (first | (with_reducible first | exact HB.out | apply below_alloc | apply pw_below_drewN | apply below_drew1 | refine below_set ?_ GE372.out | refine below_set ?_ GE380.out | refine below_set ?_ GE391.out) | exact HB.out)⟩
              · rw [if_neg c101] at H
                have c101b0 : (t390 == 1) = false := beq_eq_false_iff_ne.mpr c101
                have c101b1 : (t390 != 1) = true := bne_iff_ne.mpr c101
                obtain rfl := Option.some.inj H
                have hnb126 := NB372_380.out
                have hnc126 := NB380_372.out
                have hcz127_0 : wc.cell? ⟨gb372, 0, none⟩ = some (.int .u64 a0_0) := (blk_cell BK372.out 0).trans rfl
                have hcz127_1 : wc.cell? ⟨gb372, 1, none⟩ = some (.int .u32 a0_1) := (blk_cell BK372.out 1).trans rfl
                have hcz127_2 : wc.cell? ⟨gb372, 2, none⟩ = some (.slice A0_2 l0_2.length c0_2) := (blk_cell BK372.out 2).trans rfl
                have hcz127_3 : wc.cell? ⟨gb372, 3, none⟩ = some (.int .i64 a0_3) := (blk_cell BK372.out 3).trans rfl
                have hfz127_0 := blk_frozen BK372.out 0
                have hfz127_1 := blk_frozen BK372.out 1
                have hfz127_2 := blk_frozen BK372.out 2
                have hfz127_3 := blk_frozen BK372.out 3
                go_wp2_with (first | ((with_reducible refine gate_callee (f := 34) rfl ?_); refine goesL_ (some 53) rfl rfl Try.func34 (by kernel_rfl) rfl #[.agg #[.int .u64 a0_0, .int .u32 a0_1, .slice A0_2 l0_2.length c0_2, .int .i64 a0_3], .int .i64 a1, .int .i64 a2, .int .i64 a3] rfl (by (try simp only [List.map_toArray, List.map_cons, List.map_nil]); first | done | rfl | (simp only [List.length_drop, List.length_take]; rfl)) ?_; (with_reducible refine (coder_Take.calls kj22 a0_0 a0_1 (fun k_ => k_ < w.heap.size) _ _ l0_2 a0_3 a1 a2 a3 t384 t385 t386 t389 t390 _ ?side1 A39.out).mono ?_); (case side1 => exact Kd.V_mk HC0_2.out (Kd.F_below (Kd.C_F (Kd.heap_int .u8) HR0_2.out) (by repeat (first | (with_reducible first | exact HB.out | apply below_alloc | apply pw_below_drewN | apply below_drew1 | refine below_set ?_ GE372.out | refine below_set ?_ GE380.out) | exact HB.out)))); rintro e w128 ⟨v387, rfl, ho0, hb⟩; refine ⟨_, rfl, ?_⟩; have n0_ := Aside0.mk (Kd.V_below (by (with_reducible repeat (first | apply Kd.V_alloc | apply Kd.V_drewN | apply Kd.V_drew)); exact HO_381002.out) hb); have n1_ := Aside0.mk (Kd.V_lower (Kd.V_mono (ok' := fun k_ => k_ ≠ gb372 ∧ k_ ≠ gb380) ho0 (fun k_ hk_ => ⟨Or.elim hk_ (fun hs_ => fun e_ => Nat.not_le.2 hs_ (by rw [e_]; exact GW372.out)) (fun hn_ => (Kd.freshB (g := gb372) (o := .cells #[.int .u64 a0_0, .int .u32 a0_1, .slice A0_2 l0_2.length c0_2, .int .i64 a0_3] 43 (0, 0)) (by (with_reducible repeat (first | refine blk_drewN ?_ _ | refine blk_drew ?_ | refine blk_alloc ?_ _)); exact BK372.out) k_ hn_)), Or.elim hk_ (fun hs_ => fun e_ => Nat.not_le.2 hs_ (by rw [e_]; exact GW380.out)) (fun hn_ => (Kd.freshB (g := gb380) (o := .cells #[.int .u64 t374, .int .u64 t375, .slice Ao19 t376.length co19, .int .i64 t379] 46 (0, 0)) (by (with_reducible repeat (first | refine blk_drewN ?_ _ | refine blk_drew ?_ | refine blk_alloc ?_ _)); exact BK380.out) k_ hn_))⟩)) (below_size (by repeat (first | (with_reducible first | exact HB.out | apply below_alloc | apply pw_below_drewN | apply below_drew1 | refine below_set ?_ GE372.out | refine below_set ?_ GE380.out) | exact HB.out)))); have n2_ := Aside0.mk (blk_below (g := gb372) (o := .cells #[.int .u64 a0_0, .int .u32 a0_1, .slice A0_2 l0_2.length c0_2, .int .i64 a0_3] 43 (0, 0)) (by (with_reducible repeat (first | refine blk_drewN ?_ _ | refine blk_drew ?_ | refine blk_alloc ?_ _)); exact BK372.out) hb); have n3_ := Aside0.mk (blk_below (g := gb380) (o := .cells #[.int .u64 t374, .int .u64 t375, .slice Ao19 t376.length co19, .int .i64 t379] 46 (0, 0)) (by (with_reducible repeat (first | refine blk_drewN ?_ _ | refine blk_drew ?_ | refine blk_alloc ?_ _)); exact BK380.out) hb); have n4_ := Aside0.mk (below_step (by repeat (first | (with_reducible first | exact HB.out | apply below_alloc | apply pw_below_drewN | apply below_drew1 | refine below_set ?_ GE372.out | refine below_set ?_ GE380.out) | exact HB.out)) hb); clear HO_381002; clear BK372; clear BK380; clear HB; have HO_381002 := n0_; have HO388 := n1_; have BK372 := n2_; have BK380 := n3_; have HB := n4_; clear n0_ n1_ n2_ n3_ n4_; (try clear hb); (try clear hb2); (try clear hk); (try clear hi); (try clear ho0)) | ((with_reducible refine gate_dst (N := 12) rfl ?_); refine box_event ?hg (N := 12) ?hd (cs := #[.int .u64 0, .int .u32 0, .slice none 0 0, .int .i64 0]) (t := 43) ?hr ?_; (case hd => rfl); (case hg => rfl); (case hr => first | (go_simp; done) | (go_simp; rfl)); intro gb391 hg w129 hbox hb; have n0_ := Aside0.mk (Kd.V_below (Kd.V_elderB (by (with_reducible repeat (first | apply Kd.V_alloc | apply Kd.V_drewN | apply Kd.V_drew)); exact HO_381002.out) gb391 (Nat.le_of_eq hg.symm)) hb); have n1_ := Aside0.mk (Kd.V_below (Kd.V_elderB (by (with_reducible repeat (first | apply Kd.V_alloc | apply Kd.V_drewN | apply Kd.V_drew)); exact HO388.out) gb391 (Nat.le_of_eq hg.symm)) hb); have n2_ := Aside0.mk (blk_below (g := gb372) (o := .cells #[.int .u64 a0_0, .int .u32 a0_1, .slice A0_2 l0_2.length c0_2, .int .i64 a0_3] 43 (0, 0)) (by (with_reducible repeat (first | refine blk_drewN ?_ _ | refine blk_drew ?_ | refine blk_alloc ?_ _)); exact BK372.out) hb); have n3_ := Aside0.mk (blk_below (g := gb380) (o := .cells #[.int .u64 t374, .int .u64 t375, .slice Ao19 t376.length co19, .int .i64 t379] 46 (0, 0)) (by (with_reducible repeat (first | refine blk_drewN ?_ _ | refine blk_drew ?_ | refine blk_alloc ?_ _)); exact BK380.out) hb); have n4_ := Aside0.mk (below_step (by repeat (first | (with_reducible first | exact HB.out | apply below_alloc | apply pw_below_drewN | apply below_drew1 | refine below_set ?_ GE372.out | refine below_set ?_ GE380.out) | exact HB.out)) hb); have n5_ := Aside0.mk (hbox); have n6_ := Aside0.mk ((by rw [hg]; exact (below_size (by repeat (first | (with_reducible first | exact HB.out | apply below_alloc | apply pw_below_drewN | apply below_drew1 | refine below_set ?_ GE372.out | refine below_set ?_ GE380.out) | exact HB.out))) : w.heap.size ≤ gb391)); have n7_ := Aside0.mk ((by rw [hg]; exact (below_size (by repeat (first | (with_reducible first | exact HB.out | apply below_alloc | apply pw_below_drewN | apply below_drew1 | refine below_set ?_ GE372.out | refine below_set ?_ GE380.out) | exact HB.out))) : w.heap.size ≤ gb391)); have n8_ := Aside0.mk ((by rw [hg]; exact Nat.ne_of_lt (blk_lt (g := gb372) (o := .cells #[.int .u64 a0_0, .int .u32 a0_1, .slice A0_2 l0_2.length c0_2, .int .i64 a0_3] 43 (0, 0)) (by (with_reducible repeat (first | refine blk_drewN ?_ _ | refine blk_drew ?_ | refine blk_alloc ?_ _)); exact BK372.out)) : gb372 ≠ gb391)); have n9_ := Aside0.mk ((by rw [hg]; exact Nat.ne_of_gt (blk_lt (g := gb372) (o := .cells #[.int .u64 a0_0, .int .u32 a0_1, .slice A0_2 l0_2.length c0_2, .int .i64 a0_3] 43 (0, 0)) (by (with_reducible repeat (first | refine blk_drewN ?_ _ | refine blk_drew ?_ | refine blk_alloc ?_ _)); exact BK372.out)) : gb391 ≠ gb372)); have n10_ := Aside0.mk ((by rw [hg]; exact Nat.ne_of_lt (blk_lt (g := gb380) (o := .cells #[.int .u64 t374, .int .u64 t375, .slice Ao19 t376.length co19, .int .i64 t379] 46 (0, 0)) (by (with_reducible repeat (first | refine blk_drewN ?_ _ | refine blk_drew ?_ | refine blk_alloc ?_ _)); exact BK380.out)) : gb380 ≠ gb391)); have n11_ := Aside0.mk ((by rw [hg]; exact Nat.ne_of_gt (blk_lt (g := gb380) (o := .cells #[.int .u64 t374, .int .u64 t375, .slice Ao19 t376.length co19, .int .i64 t379] 46 (0, 0)) (by (with_reducible repeat (first | refine blk_drewN ?_ _ | refine blk_drew ?_ | refine blk_alloc ?_ _)); exact BK380.out)) : gb391 ≠ gb380)); clear HO_381002; clear HO388; clear BK372; clear BK380; clear HB; have HO_381002 := n0_; have HO388 := n1_; have BK372 := n2_; have BK380 := n3_; have HB := n4_; have BK391 := n5_; have GW391 := n6_; have GE391 := n7_; have NB372_391 := n8_; have NB391_372 := n9_; have NB380_391 := n10_; have NB391_380 := n11_; clear n0_ n1_ n2_ n3_ n4_ n5_ n6_ n7_ n8_ n9_ n10_ n11_; clear hb hbox hg; have hnb130 := NB391_372.out; have hnc130 := NB372_391.out; have hnb131 := NB391_380.out; have hnc131 := NB380_391.out; have hcz132_0 : w129.cell? ⟨gb391, 0, none⟩ = some (.int .u64 0) := (blk_cell BK391.out 0).trans rfl; have hcz132_1 : w129.cell? ⟨gb391, 1, none⟩ = some (.int .u32 0) := (blk_cell BK391.out 1).trans rfl; have hcz132_2 : w129.cell? ⟨gb391, 2, none⟩ = some (.slice none 0 0) := (blk_cell BK391.out 2).trans rfl; have hcz132_3 : w129.cell? ⟨gb391, 3, none⟩ = some (.int .i64 0) := (blk_cell BK391.out 3).trans rfl; have hfz132_0 := blk_frozen BK391.out 0; have hfz132_1 := blk_frozen BK391.out 1; have hfz132_2 := blk_frozen BK391.out 2; have hfz132_3 := blk_frozen BK391.out 3; obtain ⟨Ao133, co133, eo133⟩ := Kd.V_slice HO388.out; subst eo133) | ((with_reducible refine gate_callee (f := 35) rfl ?_); refine goesL_ (some 59) rfl rfl Try.func35 (by kernel_rfl) rfl #[.int .i64 a1, .int .i64 a2, .int .i64 a3] rfl (by (try simp only [List.map_toArray, List.map_cons, List.map_nil]); first | done | rfl | (simp only [List.length_drop, List.length_take]; rfl)) ?_; (with_reducible refine (psalteryref05_Fair.calls a1 a2 a3 false _ A40.out).mono ?_); rintro e w' ⟨rfl, ⟨nd, rfl⟩⟩; refine ⟨_, rfl, ?_⟩))
                go_ret
                exact ⟨by first | rfl | (simp [errW_none, errW_some] <;> rfl) | (simp [*, errW_none, errW_some] <;> rfl), by repeat (first | (with_reducible first | exact HB.out | apply below_alloc | apply pw_below_drewN | apply below_drew1 | refine below_set ?_ GE372.out | refine below_set ?_ GE380.out | refine below_set ?_ GE391.out) | exact HB.out)⟩

end Go.Proofs.Ytkaoiblgfpphoaa.Prt

namespace Go.Proofs.Ytkaoiblgfpphoaa.Prt
open Go.RowKit Go.Proofs.YtkaoiblgfpphoaaW.PrintWords Go.Proofs.YtkaoiblgfpphoaaW.PrintLast Go.Proofs.YtkaoiblgfpphoaaW.PrintMore
attribute [local go_sem] max2_int min2_int max_two min_two max_three min_three max_four min_four   -- for this text's walks alone
set_option linter.unusedVariables false
set_option linter.unusedSimpArgs false

/-! ### psalterylaw05_right: function 22 -/
def psalterylaw05_right.f (a0_0 : Int) (a0_1 : Int) (l0_2 : List Int) : Option (Bool) := if a0_0 ≤ 4294967295 then (if a0_1 ≥ 16777216 then (some (decide ((l0_2.length : Int) ≤ 4000))) else (some false)) else (some false)
set_option maxHeartbeats 8000000 in
set_option maxRecDepth 100000 in
theorem psalterylaw05_right.calls (a0_0 : Int) (a0_1 : Int) (A0_2 : Option Addr) (c0_2 : Nat) (l0_2 : List Int) (r : Bool) (w : World) (hr0_2 : Kd.C (Kd.int .u8) w A0_2 l0_2.length l0_2) (hc0_2 : l0_2.length ≤ c0_2) (h : psalterylaw05_right.f a0_0 a0_1 l0_2 = some r) :
    Calls Try.prog 22 #[.agg #[.int .u64 a0_0, .int .u32 a0_1, .slice A0_2 l0_2.length c0_2]] w fun e w' => e = .returned (.bool r) ∧ Below w.heap.size w w' := by
  have hu26 := Try.underlying26
  have HR0_2 := Aside0.mk hr0_2
  have HC0_2 := Aside0.mk hc0_2
  clear hr0_2 hc0_2
  have HB := Aside0.mk (Below.refl w.heap.size w)
  have H : (if a0_0 ≤ 4294967295 then (if a0_1 ≥ 16777216 then (some (decide ((l0_2.length : Int) ≤ 4000))) else (some false)) else (some false)) = some r := h
  clear h
  by_cases c2 : a0_0 ≤ 4294967295
  · rw [if_pos c2] at H
    have c2b0 : decide (a0_0 ≤ 4294967295) = true := decide_eq_true c2
    clear c2
    by_cases c3 : a0_1 ≥ 16777216
    · rw [if_pos c3] at H
      have c3b0 : decide (16777216 ≤ a0_1) = true := decide_eq_true c3
      clear c3
      obtain rfl := Option.some.inj H
      go_enter Try.func22, Try.ntmps22
      go_wp2_with (first | ((with_reducible refine gate_dst (N := 1) rfl ?_); (try (refine gate_guard (by rfl) ?_; dsimp only)); refine box_event ?hg (N := 1) ?hd (cs := #[.int .u64 a0_0, .int .u32 a0_1, .slice A0_2 l0_2.length c0_2]) (t := 26) ?hr ?_; (case hd => rfl); (case hg => rfl); (case hr => first | (go_simp; done) | (go_simp; rfl)); intro gb221 hg w4 hbox hb; have n0_ := Aside0.mk (below_step (by repeat (first | (with_reducible first | exact HB.out | apply below_alloc | apply pw_below_drewN | apply below_drew1) | exact HB.out)) hb); have n1_ := Aside0.mk (hbox); have n2_ := Aside0.mk ((by rw [hg]; exact (below_size (by repeat (first | (with_reducible first | exact HB.out | apply below_alloc | apply pw_below_drewN | apply below_drew1) | exact HB.out))) : w.heap.size ≤ gb221)); have n3_ := Aside0.mk ((by rw [hg]; exact (below_size (by repeat (first | (with_reducible first | exact HB.out | apply below_alloc | apply pw_below_drewN | apply below_drew1) | exact HB.out))) : w.heap.size ≤ gb221)); clear HB; have HB := n0_; have BK221 := n1_; have GW221 := n2_; have GE221 := n3_; clear n0_ n1_ n2_ n3_; clear hb hbox hg; have hcz5_0 : w4.cell? ⟨gb221, 0, none⟩ = some (.int .u64 a0_0) := (blk_cell BK221.out 0).trans rfl; have hcz5_1 : w4.cell? ⟨gb221, 1, none⟩ = some (.int .u32 a0_1) := (blk_cell BK221.out 1).trans rfl; have hcz5_2 : w4.cell? ⟨gb221, 2, none⟩ = some (.slice A0_2 l0_2.length c0_2) := (blk_cell BK221.out 2).trans rfl; have hfz5_0 := blk_frozen BK221.out 0; have hfz5_1 := blk_frozen BK221.out 1; have hfz5_2 := blk_frozen BK221.out 2))
      go_ret
      exact ⟨by first | rfl | (simp [errW_none, errW_some] <;> rfl) | (simp [*, errW_none, errW_some] <;> rfl), by repeat (first | (with_reducible first | exact HB.out | apply below_alloc | apply pw_below_drewN | apply below_drew1 | refine below_set ?_ GE221.out) | exact HB.out)⟩
    · rw [if_neg c3] at H
      have c3b0 : decide (16777216 ≤ a0_1) = false := decide_eq_false c3
      clear c3
      obtain rfl := Option.some.inj H
      go_enter Try.func22, Try.ntmps22
      go_wp2_with (first | ((with_reducible refine gate_dst (N := 1) rfl ?_); (try (refine gate_guard (by rfl) ?_; dsimp only)); refine box_event ?hg (N := 1) ?hd (cs := #[.int .u64 a0_0, .int .u32 a0_1, .slice A0_2 l0_2.length c0_2]) (t := 26) ?hr ?_; (case hd => rfl); (case hg => rfl); (case hr => first | (go_simp; done) | (go_simp; rfl)); intro gb221 hg w6 hbox hb; have n0_ := Aside0.mk (below_step (by repeat (first | (with_reducible first | exact HB.out | apply below_alloc | apply pw_below_drewN | apply below_drew1) | exact HB.out)) hb); have n1_ := Aside0.mk (hbox); have n2_ := Aside0.mk ((by rw [hg]; exact (below_size (by repeat (first | (with_reducible first | exact HB.out | apply below_alloc | apply pw_below_drewN | apply below_drew1) | exact HB.out))) : w.heap.size ≤ gb221)); have n3_ := Aside0.mk ((by rw [hg]; exact (below_size (by repeat (first | (with_reducible first | exact HB.out | apply below_alloc | apply pw_below_drewN | apply below_drew1) | exact HB.out))) : w.heap.size ≤ gb221)); clear HB; have HB := n0_; have BK221 := n1_; have GW221 := n2_; have GE221 := n3_; clear n0_ n1_ n2_ n3_; clear hb hbox hg; have hcz7_0 : w6.cell? ⟨gb221, 0, none⟩ = some (.int .u64 a0_0) := (blk_cell BK221.out 0).trans rfl; have hcz7_1 : w6.cell? ⟨gb221, 1, none⟩ = some (.int .u32 a0_1) := (blk_cell BK221.out 1).trans rfl; have hcz7_2 : w6.cell? ⟨gb221, 2, none⟩ = some (.slice A0_2 l0_2.length c0_2) := (blk_cell BK221.out 2).trans rfl; have hfz7_0 := blk_frozen BK221.out 0; have hfz7_1 := blk_frozen BK221.out 1; have hfz7_2 := blk_frozen BK221.out 2))
      go_ret
      exact ⟨by first | rfl | (simp [errW_none, errW_some] <;> rfl) | (simp [*, errW_none, errW_some] <;> rfl), by repeat (first | (with_reducible first | exact HB.out | apply below_alloc | apply pw_below_drewN | apply below_drew1 | refine below_set ?_ GE221.out) | exact HB.out)⟩
  · rw [if_neg c2] at H
    have c2b0 : decide (a0_0 ≤ 4294967295) = false := decide_eq_false c2
    clear c2
    obtain rfl := Option.some.inj H
    go_enter Try.func22, Try.ntmps22
    go_wp2_with (first | ((with_reducible refine gate_dst (N := 1) rfl ?_); (try (refine gate_guard (by rfl) ?_; dsimp only)); refine box_event ?hg (N := 1) ?hd (cs := #[.int .u64 a0_0, .int .u32 a0_1, .slice A0_2 l0_2.length c0_2]) (t := 26) ?hr ?_; (case hd => rfl); (case hg => rfl); (case hr => first | (go_simp; done) | (go_simp; rfl)); intro gb221 hg w8 hbox hb; have n0_ := Aside0.mk (below_step (by repeat (first | (with_reducible first | exact HB.out | apply below_alloc | apply pw_below_drewN | apply below_drew1) | exact HB.out)) hb); have n1_ := Aside0.mk (hbox); have n2_ := Aside0.mk ((by rw [hg]; exact (below_size (by repeat (first | (with_reducible first | exact HB.out | apply below_alloc | apply pw_below_drewN | apply below_drew1) | exact HB.out))) : w.heap.size ≤ gb221)); have n3_ := Aside0.mk ((by rw [hg]; exact (below_size (by repeat (first | (with_reducible first | exact HB.out | apply below_alloc | apply pw_below_drewN | apply below_drew1) | exact HB.out))) : w.heap.size ≤ gb221)); clear HB; have HB := n0_; have BK221 := n1_; have GW221 := n2_; have GE221 := n3_; clear n0_ n1_ n2_ n3_; clear hb hbox hg; have hcz9_0 : w8.cell? ⟨gb221, 0, none⟩ = some (.int .u64 a0_0) := (blk_cell BK221.out 0).trans rfl; have hcz9_1 : w8.cell? ⟨gb221, 1, none⟩ = some (.int .u32 a0_1) := (blk_cell BK221.out 1).trans rfl; have hcz9_2 : w8.cell? ⟨gb221, 2, none⟩ = some (.slice A0_2 l0_2.length c0_2) := (blk_cell BK221.out 2).trans rfl; have hfz9_0 := blk_frozen BK221.out 0; have hfz9_1 := blk_frozen BK221.out 1; have hfz9_2 := blk_frozen BK221.out 2))
    go_ret
    exact ⟨by first | rfl | (simp [errW_none, errW_some] <;> rfl) | (simp [*, errW_none, errW_some] <;> rfl), by repeat (first | (with_reducible first | exact HB.out | apply below_alloc | apply pw_below_drewN | apply below_drew1 | refine below_set ?_ GE221.out) | exact HB.out)⟩

end Go.Proofs.Ytkaoiblgfpphoaa.Prt

namespace Go.Proofs.Ytkaoiblgfpphoaa.Prt
open Go.RowKit Go.Proofs.YtkaoiblgfpphoaaW.PrintWords Go.Proofs.YtkaoiblgfpphoaaW.PrintLast Go.Proofs.YtkaoiblgfpphoaaW.PrintMore
attribute [local go_sem] max2_int min2_int max_two min_two max_three min_three max_four min_four   -- for this text's walks alone
set_option linter.unusedVariables false
set_option linter.unusedSimpArgs false

/-! ### psalteryref05_add: function 56 -/
def psalteryref05_add.l0 : Nat → Int → List Int → Int → Option (List Int)
  | 0, _, _, _ => none
  | k + 1, x1, x5, x6 => if x6 ≥ 0 then (if 0 ≤ x6 then (if x6 < (x5.length : Int) then (psalteryref05_add.l0 k (IntKind.u64.wrap (Int.tdiv (IntKind.u64.wrap (x1 + (IntKind.u64.wrap (rd x5 x6)))) 256)) (x5.set (x6 : Int).toNat (wrap64 (Int.tmod (IntKind.u64.wrap (x1 + (IntKind.u64.wrap (rd x5 x6)))) 256))) (wrap64 (x6 - 1))) else (none)) else (none)) else (some x5)
def psalteryref05_add.f (k : Nat) (l0 : List Int) (a1 : Int) : Option (List Int) := (some (([] : List Int) : List Int)).bind fun y201 => (if y201.length + l0.length < 17592186044416 then ((some (y201 ++ l0 : List Int)).bind fun y204 => (psalteryref05_add.l0 k a1 y204 (wrap64 ((y204.length : Int) - 1)))) else (none))
theorem psalteryref05_add.mono_l : ∀ k, (∀ y0 y1 y2, LeO (psalteryref05_add.l0 k y0 y1 y2) (psalteryref05_add.l0 (k + 1) y0 y1 y2))
  | 0 => fun _ _ _ r h => by simp [psalteryref05_add.l0] at h
  | k + 1 => by
    have ih0 := psalteryref05_add.mono_l k
    · intro y0 y1 y2
      unfold psalteryref05_add.l0
      repeat' first
      | (with_reducible exact ih0 _ _ _)
      | (with_reducible exact LeO.refl _)
      | (with_reducible exact LeO.none _)
      | (with_reducible refine LeO.ite ?_ ?_)
      | (with_reducible refine LeO.bind ?_ (fun _ => ?_))
      | exact ih0 _ _ _
      | exact LeO.none _
      | refine LeO.ite ?_ ?_
      | refine LeO.bind ?_ (fun _ => ?_)
theorem psalteryref05_add.mono : ∀ a0 a1 k, LeO (psalteryref05_add.f k a0 a1) (psalteryref05_add.f (k + 1) a0 a1) := by
  intro a0 a1 k
  have ih0 := psalteryref05_add.mono_l k
  unfold psalteryref05_add.f
  repeat' first
      | (with_reducible exact ih0 _ _ _)
      | (with_reducible exact LeO.refl _)
      | (with_reducible exact LeO.none _)
      | (with_reducible refine LeO.ite ?_ ?_)
      | (with_reducible refine LeO.bind ?_ (fun _ => ?_))
      | exact ih0 _ _ _
      | exact LeO.none _
      | refine LeO.ite ?_ ?_
      | refine LeO.bind ?_ (fun _ => ?_)
set_option maxHeartbeats 8000000 in
set_option maxRecDepth 100000 in
theorem psalteryref05_add.calls (k : Nat) (A0 : Option Addr) (c0 : Nat) (l0 : List Int) (a1 : Int) (r : List Int) (w : World) (hr0 : Kd.C (Kd.int .i64) w A0 l0.length l0) (hc0 : l0.length ≤ c0) (h : psalteryref05_add.f k l0 a1 = some r) :
    Calls Try.prog 56 #[.slice A0 l0.length c0, .int .u64 a1] w fun e w' => ∃ v0_ : Value, e = .returned (v0_) ∧ Kd.R (Kd.int .i64) 3 w' w.heap.size (fun _ => True) v0_ r ∧ Below w.heap.size w w' := by
  have HR0 := Aside0.mk hr0
  have HC0 := Aside0.mk hc0
  clear hr0 hc0
  have HB := Aside0.mk (Below.refl w.heap.size w)
  have H : ((some (([] : List Int) : List Int)).bind fun y201 => (if y201.length + l0.length < 17592186044416 then ((some (y201 ++ l0 : List Int)).bind fun y204 => (psalteryref05_add.l0 k a1 y204 (wrap64 ((y204.length : Int) - 1)))) else (none))) = some r := h
  clear h
  obtain ⟨y201, hy201⟩ : ∃ y_ : List Int, y_ = (([] : List Int)) := ⟨_, rfl⟩
  replace H : (if y201.length + l0.length < 17592186044416 then ((some (y201 ++ l0 : List Int)).bind fun y204 => (psalteryref05_add.l0 k a1 y204 (wrap64 ((y204.length : Int) - 1)))) else (none)) = some r := by first | (rw [hy201]; with_reducible exact H) | (have H2_ := (Option.bind_some _ _).symm.trans H; rw [hy201]; with_reducible exact H2_) | (have H2_ := (Option.bind_some _ _).symm.trans H; with_reducible exact H2_) | with_reducible exact H | (rw [hy201]; exact H) | exact H
  have Ny201 := Aside0.mk hy201
  clear hy201
  by_cases c3 : y201.length + l0.length < 17592186044416
  · rw [if_pos c3] at H
    have LMc3 := Aside0.mk c3
    clear c3
    obtain ⟨y204, hy204⟩ : ∃ y_ : List Int, y_ = (y201 ++ l0) := ⟨_, rfl⟩
    replace H : (psalteryref05_add.l0 k a1 y204 (wrap64 ((y204.length : Int) - 1))) = some r := by first | (rw [hy204]; with_reducible exact H) | (have H2_ := (Option.bind_some _ _).symm.trans H; rw [hy204]; with_reducible exact H2_) | (have H2_ := (Option.bind_some _ _).symm.trans H; with_reducible exact H2_) | with_reducible exact H | (rw [hy204]; exact H) | exact H
    have Ny204 := Aside0.mk hy204
    clear hy204
    have H' := Aside0.mk H
    clear H
    go_enter Try.func56, Try.ntmps56
    go_wp2_with (first | ((with_reducible refine gate_dst (N := 7) rfl ?_); refine Kd.R_lit (Kd.int .i64) _ 3 ?hg (N := 7) ?hd (xs := ([] : List Int)) (inner := []) (ok := fun _ => True) (okp := fun _ => True) ?hr ?hp (fun _ hk => hk) trivial (Below.refl _ _) (Nat.le_refl _) (by simp) ?_; (case hd => rfl); (case hg => rfl); (case hr => first | (go_simp; done) | (go_simp; rfl)); (case hp => exact (Reps.none _ _)); intro v202 w4 ho5 hb hg_ hnew_; clear hg_ hnew_; (first | rw [← Ny201.out] at ho5 | (simp only [Int.reduceToNat] at ho5; rw [← Ny201.out] at ho5)); have n0_ := Aside0.mk (Kd.R_lower ho5 (below_size (by repeat (first | (with_reducible first | exact HB.out | apply below_alloc | apply pw_below_drewN | apply below_drew1) | exact HB.out)))); have n1_ := Aside0.mk (below_step (by repeat (first | (with_reducible first | exact HB.out | apply below_alloc | apply pw_below_drewN | apply below_drew1) | exact HB.out)) hb); clear HB; have HO203 := n0_; have HB := n1_; clear n0_ n1_; clear hb ho5) | ((with_reducible refine gate_builtin (b := .append) (xs := #[.tmp 7, .tmp 8]) rfl ?_); at_builtin; refine Kd.R_append_rows (Kd.int .i64) (w0 := w) w.heap.size rfl (.tmp 7) (.tmp 8) 31 3 (.int .i64 0) 8 rfl Try.underlying31 info3 rfl (by decide) (by omega) v202 y201 l0 _ _ _ (fun _ => True) (fun _ => False) rfl rfl ?aO ?aR (fun _ _ h => h) (fun _ h => h.elim) ?aF ?aB ?aS ?aL ?_; (case aR => repeat (first | exact (Kd.C_below HR0.out HB.out) | (with_reducible refine Kd.C_alloc ?_ _) | (with_reducible refine Kd.C_drewN ?_ _) | (with_reducible refine Kd.C_drew ?_))); (case aB => exact (by repeat (first | (with_reducible first | exact HB.out | apply below_alloc | apply pw_below_drewN | apply below_drew1) | exact HB.out))); (case aF => exact (fun _ _ => trivial)); (case aO => exact (by (with_reducible repeat (first | apply Kd.R_alloc | apply Kd.R_drewN | apply Kd.R_drew)); exact HO203.out)); (case aS => exact (below_size (by repeat (first | (with_reducible first | exact HB.out | apply below_alloc | apply pw_below_drewN | apply below_drew1) | exact HB.out)))); (case aL => have := LMc3.out; omega); intro v205 w6 ho hb hg hat; rw [← Ny204.out] at ho; have n0_ := Aside0.mk (hb); have n1_ := Aside0.mk (ho); clear HB; clear HO203; have HB := n0_; have HO206 := n1_; clear n0_ n1_; clear ho hb hg hat; obtain ⟨Ao7, co7, eo7⟩ := Kd.R_slice HO206.out; subst eo7))
    go_loopg [1, 6] k (fun kq v1 v6 w' => ∃ (x1_1 : Int) (x5_1 : List Int) (x6_1 : Int), v1 = .int .u64 x1_1 ∧ v6 = .int .i64 x6_1 ∧ Aside0 (psalteryref05_add.l0 kq x1_1 x5_1 x6_1 = some r) ∧ Aside0 (kq ≤ k) ∧ Aside0 (Kd.R (Kd.int .i64) 3 w' w.heap.size (fun _ => True) (.slice Ao7 y204.length co7) x5_1) ∧ Aside0 (Below w.heap.size w w'))
    case atStart => exact ⟨(a1), (y204), (wrap64 ((y204.length : Int) - 1)), (by first | rfl | (simp; done) | (simp [*]; done)), (by first | rfl | (simp; done) | (simp [*]; done)), H', ⟨Nat.le_refl _⟩, ⟨by (with_reducible repeat (first | apply Kd.R_alloc | apply Kd.R_drewN | apply Kd.R_drew)); exact HO206.out⟩, ⟨by repeat (first | (with_reducible first | exact HB.out | apply below_alloc | apply pw_below_drewN | apply below_drew1) | exact HB.out)⟩⟩
    case round =>
      clear H'
      try clear p2
      try clear c3
      try clear c5
      try clear p6
      obtain ⟨x1_1, x5_1, x6_1, rfl, rfl, HA, HK1, HO_5, HB⟩ := hrel
      have hl5_1 := (Kd.R_reads' HO_5.out).1
      rw [hl5_1] at HO_5
      (try simp only [hl5_1])
      cases gk with
      | zero => exact absurd HA.out (by simp [psalteryref05_add.l0])
      | succ k1 =>
        have H := HA.out
        clear HA
        simp only [psalteryref05_add.l0] at H
        by_cases c8 : x6_1 ≥ 0
        · rw [if_pos c8] at H
          have c8b0 : decide (0 ≤ x6_1) = true := decide_eq_true c8
          clear c8
          by_cases c9 : 0 ≤ x6_1
          · rw [if_pos c9] at H
            have c9b0 : decide (0 ≤ x6_1) = true := decide_eq_true c9
            clear c9
            by_cases c10 : x6_1 < (x5_1.length : Int)
            · rw [if_pos c10] at H
              have c10b0 : decide (x6_1 < (x5_1.length : Int)) = true := decide_eq_true c10
              clear c10
              obtain ⟨y208, hy208⟩ : ∃ y_ : List Int, y_ = (x5_1.set (x6_1 : Int).toNat (wrap64 (Int.tmod (IntKind.u64.wrap (x1_1 + (IntKind.u64.wrap (rd x5_1 x6_1)))) 256))) := ⟨_, rfl⟩
              replace H : (psalteryref05_add.l0 k1 (IntKind.u64.wrap (Int.tdiv (IntKind.u64.wrap (x1_1 + (IntKind.u64.wrap (rd x5_1 x6_1)))) 256)) y208 (wrap64 (x6_1 - 1))) = some r := by first | (rw [hy208]; with_reducible exact H) | (have H2_ := (Option.bind_some _ _).symm.trans H; rw [hy208]; with_reducible exact H2_) | (have H2_ := (Option.bind_some _ _).symm.trans H; with_reducible exact H2_) | with_reducible exact H | (rw [hy208]; exact H) | exact H
              have Ny208 := Aside0.mk hy208
              clear hy208
              have H' := Aside0.mk H
              clear H
              have p207 : 0 ≤ (x6_1 : Int) := of_decide_eq_true (by first | (with_reducible assumption) | assumption)
              have q207 : x6_1 < (x5_1.length : Int) := of_decide_eq_true (by first | (with_reducible assumption) | assumption)
              obtain ⟨ad207, e207, hx207_0⟩ := Kd.at_int (Kd.R_reads' HO_5.out).2.2 x6_1 p207 q207
              cases e207
              replace p207 := eq_true p207
              replace q207 := eq_true q207
              have p11 : 0 ≤ (x6_1 : Int) := of_decide_eq_true (by first | (with_reducible assumption) | assumption)
              have q11 : (x6_1 : Int) < ((x5_1.length : Int) : Int) := of_decide_eq_true (by first | (with_reducible assumption) | assumption)
              obtain ⟨go11, co11, eo11, gb11, gl11, cl11, HG11⟩ := Kd.R_form HO_5.out (by omega)
              (first | cases eo11 | (injection eo11 with ea_ en_ ec_; (first | subst ea_ | (injection ea_ with ea_; subst ea_)); subst ec_; clear en_))
              have GB11 := Aside0.mk gb11
              have GG11 := Aside0.mk HG11
              clear gb11 gl11 HG11
              (first | simp only [add_plain] at hx207_0 | skip)
              obtain ⟨hx11_0, hf11_0⟩ := Kd.R_celln 0 HO_5.out (x6_1 : Int) p11 q11
              replace p11 := eq_true p11
              replace q11 := eq_true q11
              have HP12 := Kd.R_putg HO_5.out (x6_1 : Int) (wrap64 (Int.tmod (IntKind.u64.wrap (x1_1 + (IntKind.u64.wrap (rd x5_1 x6_1)))) 256))
              go_wp2_with (first | ((with_reducible refine gate_store (t := 3) (p := 29) rfl ?_); refine store_event (t := 3) (p := 29) (v := ?vo_w13) (w1 := (wr.setCell ⟨go11, (x6_1 : Int).toNat, none⟩ (.int .i64 (wrap64 (Int.tmod (IntKind.u64.wrap (x1_1 + (IntKind.u64.wrap (rd x5_1 x6_1)))) 256))))) ?hg ?ho ?hn ?hr ?_; (case ho => rfl); (case hg => rfl); (case hn => rfl); (case hr => first | (go_simp; done) | (go_simp; rfl)); intro w13 hw; have hg : wr.grownBy w13 (some go11) := (by rw [hw]; exact HP12.2); have hp_ : Kd.R (Kd.int .i64) 3 w13 w.heap.size (fun _ => True) (.slice (some ⟨go11, 0, none⟩) x5_1.length co7) y208 := (by rw [hw, Ny208.out]; exact HP12.1); clear HP12; have n0_ := Aside0.mk (hp_); have n1_ := Aside0.mk ((by rw [hw]; exact below_set (HB.out) GB11.out : Below w.heap.size w w13)); clear HO_5; clear HB; have HO_5 := n0_; have HB := n1_; clear n0_ n1_; clear hg hw hp_))
              (try simp only [← hl5_1])
              go_roundg k1
              case measure => have := HK1.out; omega
              case rel => exact ⟨(IntKind.u64.wrap (Int.tdiv (IntKind.u64.wrap (x1_1 + (IntKind.u64.wrap (rd x5_1 x6_1)))) 256)), (y208), (wrap64 (x6_1 - 1)), (by first | rfl | (simp; done) | (simp [*]; done)), (by first | rfl | (simp; done) | (simp [*]; done)), H', ⟨by have := HK1.out; omega⟩, ⟨by (try simp only [hl5_1]); (with_reducible repeat (first | apply Kd.R_alloc | apply Kd.R_drewN | apply Kd.R_drew)); exact HO_5.out⟩, ⟨by repeat (first | (with_reducible first | exact HB.out | apply below_alloc | apply pw_below_drewN | apply below_drew1) | exact HB.out)⟩⟩
            · rw [if_neg c10] at H
              exact absurd H (by simp)
          · rw [if_neg c9] at H
            exact absurd H (by simp)
        · rw [if_neg c8] at H
          have c8b0 : decide (0 ≤ x6_1) = false := decide_eq_false c8
          clear c8
          obtain rfl := Option.some.inj H
          go_wp2
          go_ret
          exact ⟨_, by first | rfl | (simp [errW_none, errW_some] <;> rfl) | (simp [*, errW_none, errW_some] <;> rfl), by (with_reducible repeat (first | apply Kd.R_alloc | apply Kd.R_drewN | apply Kd.R_drew)); exact HO_5.out, by repeat (first | (with_reducible first | exact HB.out | apply below_alloc | apply pw_below_drewN | apply below_drew1) | exact HB.out)⟩
  · rw [if_neg c3] at H
    exact absurd H (by simp)

end Go.Proofs.Ytkaoiblgfpphoaa.Prt
