-- Functions of the program and of the document as plain Lean, each with the proof that the code comes to it. Written by a program of this session (wip/tools/myprint.py, pack.py) over the kit's printer; Lean checks it.
import Derived.Test.YtkaoiblgfpphoaaZCoderAnyPrt0
import Derived.Test.YtkaoiblgfpphoaaZCoderAnyM1
import Derived.Test.YtkaoiblgfpphoaaZCoderAnyM2
namespace Go.Proofs.Ytkaoiblgfpphoaa.Prt
open Go.RowKit Go.Proofs.YtkaoiblgfpphoaaW.PrintWords Go.Proofs.YtkaoiblgfpphoaaW.PrintLast Go.Proofs.YtkaoiblgfpphoaaW.PrintMore
attribute [local go_sem] max2_int min2_int max_two min_two max_three min_three max_four min_four   -- for this text's walks alone
set_option linter.unusedVariables false
set_option linter.unusedSimpArgs false

/-! ### psalterylaw05_CoderAny: function 8 -/
mutual
def psalterylaw05_CoderAny.l0 : Nat → List Int → Int → Int → Int → List Int → Int → Option (Bool)
  | 0, _, _, _, _, _, _ => none
  | k + 1, x1, x6, x459000, x459001, x459002, x459003 => if x6 < (x1.length : Int) then (psalterylaw05_CoderAny.j1 k x1 x6 (decide (x6 < 100)) x459000 x459001 x459002 x459003) else (psalterylaw05_CoderAny.j1 k x1 x6 false x459000 x459001 x459002 x459003)
def psalterylaw05_CoderAny.j1 : Nat → List Int → Int → Bool → Int → Int → List Int → Int → Option (Bool)
  | 0, _, _, _, _, _, _, _ => none
  | k + 1, x1, x6, x25, x459000, x459001, x459002, x459003 => if x25 = true then (if 0 ≤ x6 then (if x6 < (x1.length : Int) then ((coder_Get.f x459000 x459001 x459002 x459003 (wrap64 (1 + (wrap64 (Int.tmod (IntKind.u64.wrap (rd x1 x6)) 65536))))).bind fun bt461 => (if bt461.2 = 0 then (if bt461.1 < 0 then (psalterylaw05_CoderAny.j2 k x1 x6 (wrap64 (1 + (wrap64 (Int.tmod (IntKind.u64.wrap (rd x1 x6)) 65536)))) bt461.1 true x459000 x459001 x459002 x459003) else (psalterylaw05_CoderAny.j2 k x1 x6 (wrap64 (1 + (wrap64 (Int.tmod (IntKind.u64.wrap (rd x1 x6)) 65536)))) bt461.1 (decide (bt461.1 ≥ (wrap64 (1 + (wrap64 (Int.tmod (IntKind.u64.wrap (rd x1 x6)) 65536)))))) x459000 x459001 x459002 x459003)) else (psalterylaw05_CoderAny.j2 k x1 x6 (wrap64 (1 + (wrap64 (Int.tmod (IntKind.u64.wrap (rd x1 x6)) 65536)))) bt461.1 true x459000 x459001 x459002 x459003))) else (none)) else (none)) else ((psalterylaw05_knows.f k).bind fun t459 => (some t459))
def psalterylaw05_CoderAny.j2 : Nat → List Int → Int → Int → Int → Bool → Int → Int → List Int → Int → Option (Bool)
  | 0, _, _, _, _, _, _, _, _, _ => none
  | k + 1, x1, x6, x7, x8, x52, x459000, x459001, x459002, x459003 => if x52 = true then (some false) else ((coder_Take.f k x459000 x459001 x459002 x459003 x8 (wrap64 (x8 + 1)) x7).bind fun bt463 => (if bt463.2.2.2.2 = 0 then ((coder_RightDec.f bt463.1 bt463.2.1 bt463.2.2.1 bt463.2.2.2.1).bind fun t471 => (if t471 = true then (psalterylaw05_CoderAny.l0 k x1 (wrap64 (x6 + 1)) bt463.1 bt463.2.1 bt463.2.2.1 bt463.2.2.2.1) else (some false))) else (some false)))
end
def psalterylaw05_CoderAny.f (k : Nat) (l0 : List Int) (l1 : List Int) : Option (Bool) := if (l0.length : Int) > 5000 then ((psalterylaw05_knows.f k).bind fun t451 => (some t451)) else ((coder_Open.f l0).bind fun bt452 => (psalterylaw05_CoderAny.l0 k l1 0 bt452.1 bt452.2.1 bt452.2.2.1 bt452.2.2.2))
theorem psalterylaw05_CoderAny.mono_l : ∀ k, (∀ y0 y1 y2 y3 y4 y5, LeO (psalterylaw05_CoderAny.l0 k y0 y1 y2 y3 y4 y5) (psalterylaw05_CoderAny.l0 (k + 1) y0 y1 y2 y3 y4 y5)) ∧ (∀ y0 y1 y2 y3 y4 y5 y6, LeO (psalterylaw05_CoderAny.j1 k y0 y1 y2 y3 y4 y5 y6) (psalterylaw05_CoderAny.j1 (k + 1) y0 y1 y2 y3 y4 y5 y6)) ∧ (∀ y0 y1 y2 y3 y4 y5 y6 y7 y8, LeO (psalterylaw05_CoderAny.j2 k y0 y1 y2 y3 y4 y5 y6 y7 y8) (psalterylaw05_CoderAny.j2 (k + 1) y0 y1 y2 y3 y4 y5 y6 y7 y8))
  | 0 => ⟨fun _ _ _ _ _ _ r h => by simp [psalterylaw05_CoderAny.l0] at h, fun _ _ _ _ _ _ _ r h => by simp [psalterylaw05_CoderAny.j1] at h, fun _ _ _ _ _ _ _ _ _ r h => by simp [psalterylaw05_CoderAny.j2] at h⟩
  | k + 1 => by
    obtain ⟨ih0, ih1, ih2⟩ := psalterylaw05_CoderAny.mono_l k
    refine ⟨?_, ?_, ?_⟩
    · intro y0 y1 y2 y3 y4 y5
      unfold psalterylaw05_CoderAny.l0
      repeat' first
      | (with_reducible exact ih0 _ _ _ _ _ _)
      | (with_reducible exact ih1 _ _ _ _ _ _ _)
      | (with_reducible exact ih2 _ _ _ _ _ _ _ _ _)
      | (with_reducible exact coder_Take.mono _ _ _ _ _ _ _ _)
      | (with_reducible exact psalterylaw05_knows.mono _)
      | (with_reducible exact LeO.refl _)
      | (with_reducible exact LeO.none _)
      | (with_reducible refine LeO.ite ?_ ?_)
      | (with_reducible refine LeO.bind ?_ (fun _ => ?_))
      | exact ih0 _ _ _ _ _ _
      | exact ih1 _ _ _ _ _ _ _
      | exact ih2 _ _ _ _ _ _ _ _ _
      | exact coder_Take.mono _ _ _ _ _ _ _ _
      | exact psalterylaw05_knows.mono _
      | exact LeO.none _
      | refine LeO.ite ?_ ?_
      | refine LeO.bind ?_ (fun _ => ?_)
    · intro y0 y1 y2 y3 y4 y5 y6
      unfold psalterylaw05_CoderAny.j1
      repeat' first
      | (with_reducible exact ih0 _ _ _ _ _ _)
      | (with_reducible exact ih1 _ _ _ _ _ _ _)
      | (with_reducible exact ih2 _ _ _ _ _ _ _ _ _)
      | (with_reducible exact coder_Take.mono _ _ _ _ _ _ _ _)
      | (with_reducible exact psalterylaw05_knows.mono _)
      | (with_reducible exact LeO.refl _)
      | (with_reducible exact LeO.none _)
      | (with_reducible refine LeO.ite ?_ ?_)
      | (with_reducible refine LeO.bind ?_ (fun _ => ?_))
      | exact ih0 _ _ _ _ _ _
      | exact ih1 _ _ _ _ _ _ _
      | exact ih2 _ _ _ _ _ _ _ _ _
      | exact coder_Take.mono _ _ _ _ _ _ _ _
      | exact psalterylaw05_knows.mono _
      | exact LeO.none _
      | refine LeO.ite ?_ ?_
      | refine LeO.bind ?_ (fun _ => ?_)
    · intro y0 y1 y2 y3 y4 y5 y6 y7 y8
      unfold psalterylaw05_CoderAny.j2
      repeat' first
      | (with_reducible exact ih0 _ _ _ _ _ _)
      | (with_reducible exact ih1 _ _ _ _ _ _ _)
      | (with_reducible exact ih2 _ _ _ _ _ _ _ _ _)
      | (with_reducible exact coder_Take.mono _ _ _ _ _ _ _ _)
      | (with_reducible exact psalterylaw05_knows.mono _)
      | (with_reducible exact LeO.refl _)
      | (with_reducible exact LeO.none _)
      | (with_reducible refine LeO.ite ?_ ?_)
      | (with_reducible refine LeO.bind ?_ (fun _ => ?_))
      | exact ih0 _ _ _ _ _ _
      | exact ih1 _ _ _ _ _ _ _
      | exact ih2 _ _ _ _ _ _ _ _ _
      | exact coder_Take.mono _ _ _ _ _ _ _ _
      | exact psalterylaw05_knows.mono _
      | exact LeO.none _
      | refine LeO.ite ?_ ?_
      | refine LeO.bind ?_ (fun _ => ?_)
theorem psalterylaw05_CoderAny.mono : ∀ a0 a1 k, LeO (psalterylaw05_CoderAny.f k a0 a1) (psalterylaw05_CoderAny.f (k + 1) a0 a1) := by
  intro a0 a1 k
  obtain ⟨ih0, ih1, ih2⟩ := psalterylaw05_CoderAny.mono_l k
  unfold psalterylaw05_CoderAny.f
  repeat' first
      | (with_reducible exact ih0 _ _ _ _ _ _)
      | (with_reducible exact ih1 _ _ _ _ _ _ _)
      | (with_reducible exact ih2 _ _ _ _ _ _ _ _ _)
      | (with_reducible exact coder_Take.mono _ _ _ _ _ _ _ _)
      | (with_reducible exact psalterylaw05_knows.mono _)
      | (with_reducible exact LeO.refl _)
      | (with_reducible exact LeO.none _)
      | (with_reducible refine LeO.ite ?_ ?_)
      | (with_reducible refine LeO.bind ?_ (fun _ => ?_))
      | exact ih0 _ _ _ _ _ _
      | exact ih1 _ _ _ _ _ _ _
      | exact ih2 _ _ _ _ _ _ _ _ _
      | exact coder_Take.mono _ _ _ _ _ _ _ _
      | exact psalterylaw05_knows.mono _
      | exact LeO.none _
      | refine LeO.ite ?_ ?_
      | refine LeO.bind ?_ (fun _ => ?_)
set_option maxHeartbeats 8000000 in
set_option maxRecDepth 100000 in
theorem psalterylaw05_CoderAny.calls (k : Nat) (A0 : Option Addr) (c0 : Nat) (l0 : List Int) (A1 : Option Addr) (c1 : Nat) (l1 : List Int) (r : Bool) (w : World) (hr0 : Kd.C (Kd.int .u8) w A0 l0.length l0) (hc0 : l0.length ≤ c0) (hr1 : Kd.C (Kd.int .i64) w A1 l1.length l1) (hc1 : l1.length ≤ c1) (h : psalterylaw05_CoderAny.f k l0 l1 = some r) :
    Calls Try.prog 8 #[.slice A0 l0.length c0, .slice A1 l1.length c1] w fun e w' => e = .returned (.bool r) ∧ Below w.heap.size w w' := by
  have hu43 := Try.underlying43
  have HR0 := Aside0.mk hr0
  have HC0 := Aside0.mk hc0
  clear hr0 hc0
  have HR1 := Aside0.mk hr1
  have HC1 := Aside0.mk hc1
  clear hr1 hc1
  have HB := Aside0.mk (Below.refl w.heap.size w)
  have H : (if (l0.length : Int) > 5000 then ((psalterylaw05_knows.f k).bind fun t451 => (some t451)) else ((coder_Open.f l0).bind fun bt452 => (psalterylaw05_CoderAny.l0 k l1 0 bt452.1 bt452.2.1 bt452.2.2.1 bt452.2.2.2))) = some r := h
  clear h
  by_cases c3 : (l0.length : Int) > 5000
  · rw [if_pos c3] at H
    have c3b0 : decide (5000 < (l0.length : Int)) = true := decide_eq_true c3
    have c3b1 : decide (5000 < l0.length) = true := decide_eq_true (by omega)
    clear c3
    replace H := Option.bind_eq_some_iff.mp H
    obtain ⟨t451, A40, H⟩ := H
    replace H : (some t451) = some r := H
    have A4 := Aside0.mk A40
    clear A40
    obtain rfl := Option.some.inj H
    go_enter Try.func8, Try.ntmps8
    go_wp2_with (first | ((with_reducible refine gate_callee (f := 17) rfl ?_); refine goesL_ (some 15) rfl rfl Try.func17 (by kernel_rfl) rfl #[] rfl (by (try simp only [List.map_toArray, List.map_cons, List.map_nil]); first | done | rfl | (simp only [List.length_drop, List.length_take]; rfl)) ?_; (with_reducible refine (psalterylaw05_knows.calls k  t451 _ A4.out).mono ?_); rintro e w5 ⟨rfl, hb⟩; refine ⟨_, rfl, ?_⟩; have n0_ := Aside0.mk (below_step (by repeat (first | (with_reducible first | exact HB.out | apply below_alloc | apply pw_below_drewN | apply below_drew1) | exact HB.out)) hb); clear HB; have HB := n0_; clear n0_; (try clear hb); (try clear hb2); (try clear hk); (try clear hi)))
    go_ret
    exact ⟨by first | rfl | (simp [errW_none, errW_some] <;> rfl) | (simp [*, errW_none, errW_some] <;> rfl), by repeat (first | (with_reducible first | exact HB.out | apply below_alloc | apply pw_below_drewN | apply below_drew1) | exact HB.out)⟩
  · rw [if_neg c3] at H
    have c3b0 : decide (5000 < (l0.length : Int)) = false := decide_eq_false c3
    have c3b1 : decide (5000 < l0.length) = false := decide_eq_false (by omega)
    clear c3
    replace H := Option.bind_eq_some_iff.mp H
    obtain ⟨⟨t452, t453, t454, t457⟩, A60, H⟩ := H
    replace H : (psalterylaw05_CoderAny.l0 k l1 0 t452 t453 t454 t457) = some r := H
    have A6 := Aside0.mk A60
    clear A60
    have H' := Aside0.mk H
    clear H
    go_enter Try.func8, Try.ntmps8
    go_wp2_with (first | ((with_reducible refine gate_callee (f := 26) rfl ?_); refine goesL_ (some 17) rfl rfl Try.func26 (by kernel_rfl) rfl #[.slice A0 l0.length c0] rfl (by (try simp only [List.map_toArray, List.map_cons, List.map_nil]); first | done | rfl | (simp only [List.length_drop, List.length_take]; rfl)) ?_; (with_reducible refine (coder_Open.calls (fun k_ => k_ < w.heap.size) _ _ l0 t452 t453 t454 t457 _ ?side1 A6.out).mono ?_); (case side1 => exact Kd.V_mk HC0.out (Kd.F_below (Kd.C_F (Kd.heap_int .u8) HR0.out) (by repeat (first | (with_reducible first | exact HB.out | apply below_alloc | apply pw_below_drewN | apply below_drew1) | exact HB.out)))); rintro e w7 ⟨v455, rfl, ho0, hb⟩; refine ⟨_, rfl, ?_⟩; have n0_ := Aside0.mk (Kd.V_lower (Kd.V_mono (ok' := fun k_ => True) ho0 (fun k_ hk_ => trivial)) (below_size (by repeat (first | (with_reducible first | exact HB.out | apply below_alloc | apply pw_below_drewN | apply below_drew1) | exact HB.out)))); have n1_ := Aside0.mk (below_step (by repeat (first | (with_reducible first | exact HB.out | apply below_alloc | apply pw_below_drewN | apply below_drew1) | exact HB.out)) hb); clear HB; have HO456 := n0_; have HB := n1_; clear n0_ n1_; (try clear hb); (try clear hb2); (try clear hk); (try clear hi); (try clear ho0)) | ((with_reducible refine gate_dst (N := 5) rfl ?_); refine box_event ?hg (N := 5) ?hd (cs := #[.int .u64 0, .int .u32 0, .slice none 0 0, .int .i64 0]) (t := 43) ?hr ?_; (case hd => rfl); (case hg => rfl); (case hr => first | (go_simp; done) | (go_simp; rfl)); intro gb458 hg w8 hbox hb; have n0_ := Aside0.mk (Kd.V_below (Kd.V_elderB (by (with_reducible repeat (first | apply Kd.V_alloc | apply Kd.V_drewN | apply Kd.V_drew)); exact HO456.out) gb458 (Nat.le_of_eq hg.symm)) hb); have n1_ := Aside0.mk (below_step (by repeat (first | (with_reducible first | exact HB.out | apply below_alloc | apply pw_below_drewN | apply below_drew1) | exact HB.out)) hb); have n2_ := Aside0.mk (hbox); have n3_ := Aside0.mk ((by rw [hg]; exact (below_size (by repeat (first | (with_reducible first | exact HB.out | apply below_alloc | apply pw_below_drewN | apply below_drew1) | exact HB.out))) : w.heap.size ≤ gb458)); have n4_ := Aside0.mk ((by rw [hg]; exact (below_size (by repeat (first | (with_reducible first | exact HB.out | apply below_alloc | apply pw_below_drewN | apply below_drew1) | exact HB.out))) : w.heap.size ≤ gb458)); clear HO456; clear HB; have HO456 := n0_; have HB := n1_; have BK458 := n2_; have GW458 := n3_; have GE458 := n4_; clear n0_ n1_ n2_ n3_ n4_; clear hb hbox hg; have hcz9_0 : w8.cell? ⟨gb458, 0, none⟩ = some (.int .u64 0) := (blk_cell BK458.out 0).trans rfl; have hcz9_1 : w8.cell? ⟨gb458, 1, none⟩ = some (.int .u32 0) := (blk_cell BK458.out 1).trans rfl; have hcz9_2 : w8.cell? ⟨gb458, 2, none⟩ = some (.slice none 0 0) := (blk_cell BK458.out 2).trans rfl; have hcz9_3 : w8.cell? ⟨gb458, 3, none⟩ = some (.int .i64 0) := (blk_cell BK458.out 3).trans rfl; have hfz9_0 := blk_frozen BK458.out 0; have hfz9_1 := blk_frozen BK458.out 1; have hfz9_2 := blk_frozen BK458.out 2; have hfz9_3 := blk_frozen BK458.out 3; obtain ⟨Ao10, co10, eo10⟩ := Kd.V_slice HO456.out; subst eo10))
    go_loopg [6] k (fun kq v6 w' => ∃ (x6_1 : Int) (x459000_1 : Int) (x459001_1 : Int) (x459002_1 : List Int) (x459003_1 : Int) (u459002 : Value), v6 = .int .i64 x6_1 ∧ Aside0 (psalterylaw05_CoderAny.l0 kq l1 x6_1 x459000_1 x459001_1 x459002_1 x459003_1 = some r) ∧ Aside0 (kq ≤ k) ∧ Aside0 (Kd.V (Kd.int .u8) 5 w' w.heap.size (fun k_ => k_ ≠ gb458) u459002 x459002_1) ∧ Aside0 (w'.heap[gb458]? = some (.cells #[.int .u64 x459000_1, .int .u32 x459001_1, u459002, .int .i64 x459003_1] 43 (0, 0))) ∧ Aside0 (Below w.heap.size w w'))
    case atStart => exact ⟨(0), (t452), (t453), (t454), (t457), (.slice Ao10 t454.length co10), (by first | rfl | (simp; done) | (simp [*]; done)), H', ⟨Nat.le_refl _⟩, ⟨by (with_reducible repeat (first | apply Kd.V_alloc | apply Kd.V_drewN | apply Kd.V_drew)); exact Kd.V_mono (Kd.V_far (p := ⟨gb458, 3, none⟩) (Kd.V_far (p := ⟨gb458, 2, none⟩) (Kd.V_far (p := ⟨gb458, 1, none⟩) (Kd.V_far (p := ⟨gb458, 0, none⟩) (Kd.V_mono HO456.out (fun k_ hk => (⟨hk, hk.2⟩ : _ ∧ k_ ≠ gb458))) (fun _ hk => hk.2) (.int .u64 t452)) (fun _ hk => hk.2) (.int .u32 t453)) (fun _ hk => hk.2) (.slice Ao10 t454.length co10)) (fun _ hk => hk.2) (.int .i64 t457)) (fun _ hk => hk.1.2)⟩, ⟨by (with_reducible repeat (first | refine blk_drewN ?_ _ | refine blk_drew ?_ | refine blk_alloc ?_ _)); refine blk_put (cs := #[.int .u64 t452, .int .u32 t453, .slice Ao10 t454.length co10, .int .i64 0]) ?_ 3 _ rfl; (with_reducible repeat (first | refine blk_drewN ?_ _ | refine blk_drew ?_ | refine blk_alloc ?_ _)); refine blk_put (cs := #[.int .u64 t452, .int .u32 t453, .slice none 0 0, .int .i64 0]) ?_ 2 _ rfl; (with_reducible repeat (first | refine blk_drewN ?_ _ | refine blk_drew ?_ | refine blk_alloc ?_ _)); refine blk_put (cs := #[.int .u64 t452, .int .u32 0, .slice none 0 0, .int .i64 0]) ?_ 1 _ rfl; (with_reducible repeat (first | refine blk_drewN ?_ _ | refine blk_drew ?_ | refine blk_alloc ?_ _)); refine blk_put (cs := #[.int .u64 0, .int .u32 0, .slice none 0 0, .int .i64 0]) ?_ 0 _ rfl; (with_reducible repeat (first | refine blk_drewN ?_ _ | refine blk_drew ?_ | refine blk_alloc ?_ _)); exact BK458.out⟩, ⟨by repeat (first | (with_reducible first | exact HB.out | apply below_alloc | apply pw_below_drewN | apply below_drew1 | refine below_set ?_ GE458.out) | exact HB.out)⟩⟩
    case round =>
      clear H'
      try clear c1
      try clear c2
      try clear p2
      try clear c3
      try clear c3b0
      try clear c3b1
      try clear c8
      try clear hcz9_0
      try clear hcz9_1
      try clear hcz9_2
      try clear hcz9_3
      try clear hfz9_0
      try clear hfz9_1
      try clear hfz9_2
      try clear hfz9_3
      obtain ⟨x6_1, x459000_1, x459001_1, x459002_1, x459003_1, u459002, rfl, HA, HK1, HO_459002, BK458, HB⟩ := hrel
      cases gk with
      | zero => exact absurd HA.out (by simp [psalterylaw05_CoderAny.l0])
      | succ k1 =>
        have H := HA.out
        clear HA
        simp only [psalterylaw05_CoderAny.l0] at H
        have HC11 := Aside0.mk H
        clear H
        go_upto_region 5 with (fail)
        go_cut [25] (fun v25 wc => ∃ (kq : Nat) (x25_10 : Bool), v25 = .bool x25_10 ∧ Aside0 (psalterylaw05_CoderAny.j1 kq l1 x6_1 x25_10 x459000_1 x459001_1 x459002_1 x459003_1 = some r) ∧ Aside0 (kq ≤ k1) ∧ Aside0 (Kd.V (Kd.int .u8) 5 wc w.heap.size (fun k_ => k_ ≠ gb458) u459002 x459002_1) ∧ Aside0 (wc.heap[gb458]? = some (.cells #[.int .u64 x459000_1, .int .u32 x459001_1, u459002, .int .i64 x459003_1] 43 (0, 0))) ∧ Aside0 (Below w.heap.size w wc))
        case first =>
          have H := HC11.out
          clear HC11
          by_cases c12 : x6_1 < (l1.length : Int)
          · rw [if_pos c12] at H
            have c12b0 : decide (x6_1 < (l1.length : Int)) = true := decide_eq_true c12
            clear c12
            (first | rw [c12b0] | (simp only [i64_w, i32_w]; rw [c12b0]) | skip)
            have H' := Aside0.mk H
            clear H
            go_wp2
            go_meet
            case rel => exact ⟨_, (decide (x6_1 < 100)), (by first | rfl | (simp; done) | (simp [*]; done)), H', ⟨by have := HK1.out; first | omega | exact Nat.le_refl _⟩, ⟨by (with_reducible repeat (first | apply Kd.V_alloc | apply Kd.V_drewN | apply Kd.V_drew)); exact HO_459002.out⟩, ⟨by (with_reducible repeat (first | refine blk_drewN ?_ _ | refine blk_drew ?_ | refine blk_alloc ?_ _)); exact BK458.out⟩, ⟨by repeat (first | (with_reducible first | exact HB.out | apply below_alloc | apply pw_below_drewN | apply below_drew1 | refine below_set ?_ GE458.out) | exact HB.out)⟩⟩
          · rw [if_neg c12] at H
            have c12b0 : decide (x6_1 < (l1.length : Int)) = false := decide_eq_false c12
            clear c12
            (first | rw [c12b0] | (simp only [i64_w, i32_w]; rw [c12b0]) | skip)
            have H' := Aside0.mk H
            clear H
            go_wp2
            go_meet
            case rel => exact ⟨_, (false), (by first | rfl | (simp; done) | (simp [*]; done)), H', ⟨by have := HK1.out; first | omega | exact Nat.le_refl _⟩, ⟨by (with_reducible repeat (first | apply Kd.V_alloc | apply Kd.V_drewN | apply Kd.V_drew)); exact HO_459002.out⟩, ⟨by (with_reducible repeat (first | refine blk_drewN ?_ _ | refine blk_drew ?_ | refine blk_alloc ?_ _)); exact BK458.out⟩, ⟨by repeat (first | (with_reducible first | exact HB.out | apply below_alloc | apply pw_below_drewN | apply below_drew1 | refine below_set ?_ GE458.out) | exact HB.out)⟩⟩
        case rest =>
          clear HC11
          try clear c1
          try clear c2
          try clear p2
          try clear c3
          try clear c3b0
          try clear c3b1
          try clear c8
          try clear c12
          try clear c12b0
          try clear hcz9_0
          try clear hcz9_1
          try clear hcz9_2
          try clear hcz9_3
          try clear hfz9_0
          try clear hfz9_1
          try clear hfz9_2
          try clear hfz9_3
          try clear p2
          obtain ⟨kq, x25_10, rfl, HA, HJ10, HO_459002, BK458, HB⟩ := hcut
          cases kq with
          | zero => exact absurd HA.out (by simp [psalterylaw05_CoderAny.j1])
          | succ kj10 =>
            have H := HA.out
            clear HA
            simp only [psalterylaw05_CoderAny.j1] at H
            by_cases c13 : x25_10 = true
            · subst c13
              have H1 : (if 0 ≤ x6_1 then (if x6_1 < (l1.length : Int) then ((coder_Get.f x459000_1 x459001_1 x459002_1 x459003_1 (wrap64 (1 + (wrap64 (Int.tmod (IntKind.u64.wrap (rd l1 x6_1)) 65536))))).bind fun bt461 => (if bt461.2 = 0 then (if bt461.1 < 0 then (psalterylaw05_CoderAny.j2 kj10 l1 x6_1 (wrap64 (1 + (wrap64 (Int.tmod (IntKind.u64.wrap (rd l1 x6_1)) 65536)))) bt461.1 true x459000_1 x459001_1 x459002_1 x459003_1) else (psalterylaw05_CoderAny.j2 kj10 l1 x6_1 (wrap64 (1 + (wrap64 (Int.tmod (IntKind.u64.wrap (rd l1 x6_1)) 65536)))) bt461.1 (decide (bt461.1 ≥ (wrap64 (1 + (wrap64 (Int.tmod (IntKind.u64.wrap (rd l1 x6_1)) 65536)))))) x459000_1 x459001_1 x459002_1 x459003_1)) else (psalterylaw05_CoderAny.j2 kj10 l1 x6_1 (wrap64 (1 + (wrap64 (Int.tmod (IntKind.u64.wrap (rd l1 x6_1)) 65536)))) bt461.1 true x459000_1 x459001_1 x459002_1 x459003_1))) else (none)) else (none)) = some r := by rw [if_pos rfl] at H; exact H
              clear H
              have H := H1
              clear H1
              by_cases c14 : 0 ≤ x6_1
              · rw [if_pos c14] at H
                have c14b0 : decide (0 ≤ x6_1) = true := decide_eq_true c14
                clear c14
                by_cases c15 : x6_1 < (l1.length : Int)
                · rw [if_pos c15] at H
                  have c15b0 : decide (x6_1 < (l1.length : Int)) = true := decide_eq_true c15
                  clear c15
                  replace H := Option.bind_eq_some_iff.mp H
                  obtain ⟨⟨t461, t462⟩, A160, H⟩ := H
                  replace H : (if t462 = 0 then (if t461 < 0 then (psalterylaw05_CoderAny.j2 kj10 l1 x6_1 (wrap64 (1 + (wrap64 (Int.tmod (IntKind.u64.wrap (rd l1 x6_1)) 65536)))) t461 true x459000_1 x459001_1 x459002_1 x459003_1) else (psalterylaw05_CoderAny.j2 kj10 l1 x6_1 (wrap64 (1 + (wrap64 (Int.tmod (IntKind.u64.wrap (rd l1 x6_1)) 65536)))) t461 (decide (t461 ≥ (wrap64 (1 + (wrap64 (Int.tmod (IntKind.u64.wrap (rd l1 x6_1)) 65536)))))) x459000_1 x459001_1 x459002_1 x459003_1)) else (psalterylaw05_CoderAny.j2 kj10 l1 x6_1 (wrap64 (1 + (wrap64 (Int.tmod (IntKind.u64.wrap (rd l1 x6_1)) 65536)))) t461 true x459000_1 x459001_1 x459002_1 x459003_1)) = some r := H
                  have A16 := Aside0.mk A160
                  clear A160
                  have HC17 := Aside0.mk H
                  clear H
                  have p460 : 0 ≤ (x6_1 : Int) := of_decide_eq_true (by first | (with_reducible assumption) | assumption)
                  have q460 : x6_1 < (l1.length : Int) := of_decide_eq_true (by first | (with_reducible assumption) | assumption)
                  obtain ⟨ad460, e460, hx460_0⟩ := Kd.at_int HR1.out x6_1 p460 q460
                  cases e460
                  replace hx460_0 := (HB.out.cell (World.block_lt_of_cell? w _ hx460_0)).trans hx460_0
                  replace p460 := eq_true p460
                  replace q460 := eq_true q460
                  have hcz18_0 : wc.cell? ⟨gb458, 0, none⟩ = some (.int .u64 x459000_1) := (blk_cell BK458.out 0).trans rfl
                  have hcz18_1 : wc.cell? ⟨gb458, 1, none⟩ = some (.int .u32 x459001_1) := (blk_cell BK458.out 1).trans rfl
                  have hcz18_2 : wc.cell? ⟨gb458, 2, none⟩ = some (u459002) := (blk_cell BK458.out 2).trans rfl
                  have hcz18_3 : wc.cell? ⟨gb458, 3, none⟩ = some (.int .i64 x459003_1) := (blk_cell BK458.out 3).trans rfl
                  have hfz18_0 := blk_frozen BK458.out 0
                  have hfz18_1 := blk_frozen BK458.out 1
                  have hfz18_2 := blk_frozen BK458.out 2
                  have hfz18_3 := blk_frozen BK458.out 3
                  obtain ⟨Ao19, co19, eo19⟩ := Kd.V_slice HO_459002.out
                  subst eo19
                  go_upto_region 9 with (first | ((with_reducible refine gate_callee (f := 32) rfl ?_); refine goesL_ (some 39) rfl rfl Try.func32 (by kernel_rfl) rfl #[.agg #[.int .u64 x459000_1, .int .u32 x459001_1, .slice Ao19 x459002_1.length co19, .int .i64 x459003_1], .int .i64 (wrap64 (1 + (wrap64 (Int.tmod (IntKind.u64.wrap (rd l1 x6_1)) 65536))))] rfl (by (try simp only [List.map_toArray, List.map_cons, List.map_nil]); first | done | rfl | (simp only [List.length_drop, List.length_take]; rfl)) ?_; (with_reducible refine (coder_Get.calls x459000_1 x459001_1 _ _ x459002_1 x459003_1 (wrap64 (1 + (wrap64 (Int.tmod (IntKind.u64.wrap (rd l1 x6_1)) 65536)))) t461 t462 _ ?side1 ?side2 A16.out).mono ?_); (case side1 => repeat (first | exact (Kd.V_reads' HO_459002.out).2.2 | (with_reducible refine Kd.C_alloc ?_ _) | (with_reducible refine Kd.C_drewN ?_ _) | (with_reducible refine Kd.C_drew ?_))); (case side2 => exact (Kd.V_reads' HO_459002.out).2.1); rintro e w20 ⟨rfl, hb⟩; refine ⟨_, rfl, ?_⟩; have n0_ := Aside0.mk (Kd.V_below (by (with_reducible repeat (first | apply Kd.V_alloc | apply Kd.V_drewN | apply Kd.V_drew)); exact HO_459002.out) hb); have n1_ := Aside0.mk (blk_below (g := gb458) (o := .cells #[.int .u64 x459000_1, .int .u32 x459001_1, .slice Ao19 x459002_1.length co19, .int .i64 x459003_1] 43 (0, 0)) (by (with_reducible repeat (first | refine blk_drewN ?_ _ | refine blk_drew ?_ | refine blk_alloc ?_ _)); exact BK458.out) hb); have n2_ := Aside0.mk (below_step (by repeat (first | (with_reducible first | exact HB.out | apply below_alloc | apply pw_below_drewN | apply below_drew1 | refine below_set ?_ GE458.out) | exact HB.out)) hb); clear HO_459002; clear BK458; clear HB; have HO_459002 := n0_; have BK458 := n1_; have HB := n2_; clear n0_ n1_ n2_; (try clear hb); (try clear hb2); (try clear hk); (try clear hi)))
                  (try simp only [Act.put, List.setIfInBounds_toArray, List.set_cons_zero, List.set_cons_succ])
                  go_cut [52] (fun v52 wc => ∃ (kq : Nat) (x52_16 : Bool), v52 = .bool x52_16 ∧ Aside0 (psalterylaw05_CoderAny.j2 kq l1 x6_1 (wrap64 (1 + (wrap64 (Int.tmod (IntKind.u64.wrap (rd l1 x6_1)) 65536)))) t461 x52_16 x459000_1 x459001_1 x459002_1 x459003_1 = some r) ∧ Aside0 (kq ≤ kj10) ∧ Aside0 (Kd.V (Kd.int .u8) 5 wc w.heap.size (fun k_ => k_ ≠ gb458) (.slice Ao19 x459002_1.length co19) x459002_1) ∧ Aside0 (wc.heap[gb458]? = some (.cells #[.int .u64 x459000_1, .int .u32 x459001_1, (.slice Ao19 x459002_1.length co19), .int .i64 x459003_1] 43 (0, 0))) ∧ Aside0 (Below w.heap.size w wc))
                  case first =>
                    have H := HC17.out
                    clear HC17
                    by_cases c21 : t462 = 0
                    · rw [if_pos c21] at H
                      have c21b0 : (t462 == 0) = true := beq_iff_eq.mpr c21
                      have c21b1 : (t462 != 0) = false := bne_eq_false_iff_eq.mpr c21
                      clear c21
                      (first | rw [c21b0] | (simp only [i64_w, i32_w]; rw [c21b0]) | skip)
                      by_cases c22 : t461 < 0
                      · rw [if_pos c22] at H
                        have c22b0 : decide (t461 < 0) = true := decide_eq_true c22
                        clear c22
                        have H' := Aside0.mk H
                        clear H
                        go_wp2
                        go_meet
                        case rel => exact ⟨_, (true), (by first | rfl | (simp; done) | (simp [*]; done)), H', ⟨by have := HK1.out; have := HJ10.out; first | omega | exact Nat.le_refl _⟩, ⟨by (with_reducible repeat (first | apply Kd.V_alloc | apply Kd.V_drewN | apply Kd.V_drew)); exact HO_459002.out⟩, ⟨by (with_reducible repeat (first | refine blk_drewN ?_ _ | refine blk_drew ?_ | refine blk_alloc ?_ _)); exact BK458.out⟩, ⟨by repeat (first | (with_reducible first | exact HB.out | apply below_alloc | apply pw_below_drewN | apply below_drew1 | refine below_set ?_ GE458.out) | exact HB.out)⟩⟩
                      · rw [if_neg c22] at H
                        have c22b0 : decide (t461 < 0) = false := decide_eq_false c22
                        clear c22
                        have H' := Aside0.mk H
                        clear H
                        go_wp2
                        go_meet
                        case rel => exact ⟨_, (decide (t461 ≥ (wrap64 (1 + (wrap64 (Int.tmod (IntKind.u64.wrap (rd l1 x6_1)) 65536)))))), (by first | rfl | (simp; done) | (simp [*]; done)), H', ⟨by have := HK1.out; have := HJ10.out; first | omega | exact Nat.le_refl _⟩, ⟨by (with_reducible repeat (first | apply Kd.V_alloc | apply Kd.V_drewN | apply Kd.V_drew)); exact HO_459002.out⟩, ⟨by (with_reducible repeat (first | refine blk_drewN ?_ _ | refine blk_drew ?_ | refine blk_alloc ?_ _)); exact BK458.out⟩, ⟨by repeat (first | (with_reducible first | exact HB.out | apply below_alloc | apply pw_below_drewN | apply below_drew1 | refine below_set ?_ GE458.out) | exact HB.out)⟩⟩
                    · rw [if_neg c21] at H
                      have c21b0 : (t462 == 0) = false := beq_eq_false_iff_ne.mpr c21
                      have c21b1 : (t462 != 0) = true := bne_iff_ne.mpr c21
                      (first | rw [c21b0] | (simp only [i64_w, i32_w]; rw [c21b0]) | skip)
                      have H' := Aside0.mk H
                      clear H
                      go_wp2
                      go_meet
                      case rel => exact ⟨_, (true), (by first | rfl | (simp; done) | (simp [*]; done)), H', ⟨by have := HK1.out; have := HJ10.out; first | omega | exact Nat.le_refl _⟩, ⟨by (with_reducible repeat (first | apply Kd.V_alloc | apply Kd.V_drewN | apply Kd.V_drew)); exact HO_459002.out⟩, ⟨by (with_reducible repeat (first | refine blk_drewN ?_ _ | refine blk_drew ?_ | refine blk_alloc ?_ _)); exact BK458.out⟩, ⟨by repeat (first | (with_reducible first | exact HB.out | apply below_alloc | apply pw_below_drewN | apply below_drew1 | refine below_set ?_ GE458.out) | exact HB.out)⟩⟩
                  case rest =>
                    clear HC17
                    try clear c1
                    try clear c2
                    try clear p2
                    try clear c3
                    try clear c3b0
                    try clear c3b1
                    try clear p4
                    try clear q4
                    try clear hx4
                    try clear p6
                    try clear c8
                    try clear c12
                    try clear c12b0
                    try clear c13
                    try clear c14
                    try clear c14b0
                    try clear c15
                    try clear c15b0
                    try clear c17
                    try clear c21
                    try clear c21b0
                    try clear c21b1
                    try clear c22
                    try clear c22b0
                    try clear hcz18_0
                    try clear hcz18_1
                    try clear hcz18_2
                    try clear hcz18_3
                    try clear hcz9_0
                    try clear hcz9_1
                    try clear hcz9_2
                    try clear hcz9_3
                    try clear hfz18_0
                    try clear hfz18_1
                    try clear hfz18_2
                    try clear hfz18_3
                    try clear hfz9_0
                    try clear hfz9_1
                    try clear hfz9_2
                    try clear hfz9_3
                    try clear hx460_0
                    try clear p2
                    try clear p460
                    try clear q460
                    obtain ⟨kq, x52_16, rfl, HA, HJ16, HO_459002, BK458, HB⟩ := hcut
                    cases kq with
                    | zero => exact absurd HA.out (by simp [psalterylaw05_CoderAny.j2])
                    | succ kj16 =>
                      have H := HA.out
                      clear HA
                      simp only [psalterylaw05_CoderAny.j2] at H
                      by_cases c23 : x52_16 = true
                      · subst c23
                        have H1 : (some false) = some r := by rw [if_pos rfl] at H; exact H
                        clear H
                        have H := H1
                        clear H1
                        obtain rfl := Option.some.inj H
                        go_wp2
                        go_ret
                        exact ⟨by first | rfl | (simp [errW_none, errW_some] <;> rfl) | (simp [*, errW_none, errW_some] <;> rfl), by repeat (first | (with_reducible first | exact HB.out | apply below_alloc | apply pw_below_drewN | apply below_drew1 | refine below_set ?_ GE458.out) | exact HB.out)⟩
                      · replace c23 := Bool.eq_false_iff.mpr c23
                        subst c23
                        have H1 : ((coder_Take.f kj16 x459000_1 x459001_1 x459002_1 x459003_1 t461 (wrap64 (t461 + 1)) (wrap64 (1 + (wrap64 (Int.tmod (IntKind.u64.wrap (rd l1 x6_1)) 65536))))).bind fun bt463 => (if bt463.2.2.2.2 = 0 then ((coder_RightDec.f bt463.1 bt463.2.1 bt463.2.2.1 bt463.2.2.2.1).bind fun t471 => (if t471 = true then (psalterylaw05_CoderAny.l0 kj16 l1 (wrap64 (x6_1 + 1)) bt463.1 bt463.2.1 bt463.2.2.1 bt463.2.2.2.1) else (some false))) else (some false))) = some r := by rw [if_neg (show ¬ (false = true) by decide)] at H; exact H
                        clear H
                        have H := H1
                        clear H1
                        replace H := Option.bind_eq_some_iff.mp H
                        obtain ⟨⟨t463, t464, t465, t468, t469⟩, A240, H⟩ := H
                        replace H : (if t469 = 0 then ((coder_RightDec.f t463 t464 t465 t468).bind fun t471 => (if t471 = true then (psalterylaw05_CoderAny.l0 kj16 l1 (wrap64 (x6_1 + 1)) t463 t464 t465 t468) else (some false))) else (some false)) = some r := H
                        have A24 := Aside0.mk A240
                        clear A240
                        by_cases c25 : t469 = 0
                        · rw [if_pos c25] at H
                          have c25b0 : (t469 == 0) = true := beq_iff_eq.mpr c25
                          have c25b1 : (t469 != 0) = false := bne_eq_false_iff_eq.mpr c25
                          clear c25
                          replace H := Option.bind_eq_some_iff.mp H
                          obtain ⟨t471, A260, H⟩ := H
                          replace H : (if t471 = true then (psalterylaw05_CoderAny.l0 kj16 l1 (wrap64 (x6_1 + 1)) t463 t464 t465 t468) else (some false)) = some r := H
                          have A26 := Aside0.mk A260
                          clear A260
                          by_cases c27 : t471 = true
                          · subst c27
                            have H1 : (psalterylaw05_CoderAny.l0 kj16 l1 (wrap64 (x6_1 + 1)) t463 t464 t465 t468) = some r := by rw [if_pos rfl] at H; exact H
                            clear H
                            have H := H1
                            clear H1
                            have H' := Aside0.mk H
                            clear H
                            have hcz28_0 : wc.cell? ⟨gb458, 0, none⟩ = some (.int .u64 x459000_1) := (blk_cell BK458.out 0).trans rfl
                            have hcz28_1 : wc.cell? ⟨gb458, 1, none⟩ = some (.int .u32 x459001_1) := (blk_cell BK458.out 1).trans rfl
                            have hcz28_2 : wc.cell? ⟨gb458, 2, none⟩ = some (.slice Ao19 x459002_1.length co19) := (blk_cell BK458.out 2).trans rfl
                            have hcz28_3 : wc.cell? ⟨gb458, 3, none⟩ = some (.int .i64 x459003_1) := (blk_cell BK458.out 3).trans rfl
                            have hfz28_0 := blk_frozen BK458.out 0
                            have hfz28_1 := blk_frozen BK458.out 1
                            have hfz28_2 := blk_frozen BK458.out 2
                            have hfz28_3 := blk_frozen BK458.out 3
                            go_wp2_with (first | ((with_reducible refine gate_callee (f := 34) rfl ?_); refine goesL_ (some 59) rfl rfl Try.func34 (by kernel_rfl) rfl #[.agg #[.int .u64 x459000_1, .int .u32 x459001_1, .slice Ao19 x459002_1.length co19, .int .i64 x459003_1], .int .i64 t461, .int .i64 (wrap64 (t461 + 1)), .int .i64 (wrap64 (1 + (wrap64 (Int.tmod (IntKind.u64.wrap (rd l1 x6_1)) 65536))))] rfl (by (try simp only [List.map_toArray, List.map_cons, List.map_nil]); first | done | rfl | (simp only [List.length_drop, List.length_take]; rfl)) ?_; (with_reducible refine (coder_Take.calls kj16 x459000_1 x459001_1 (fun k_ => k_ ≠ gb458) _ _ x459002_1 x459003_1 t461 (wrap64 (t461 + 1)) (wrap64 (1 + (wrap64 (Int.tmod (IntKind.u64.wrap (rd l1 x6_1)) 65536)))) t463 t464 t465 t468 t469 _ ?side1 A24.out).mono ?_); (case side1 => exact HO_459002.out); rintro e w29 ⟨v466, rfl, ho0, hb⟩; refine ⟨_, rfl, ?_⟩; have n0_ := Aside0.mk (Kd.V_below (by (with_reducible repeat (first | apply Kd.V_alloc | apply Kd.V_drewN | apply Kd.V_drew)); exact HO_459002.out) hb); have n1_ := Aside0.mk (Kd.V_lower (Kd.V_mono (ok' := fun k_ => k_ ≠ gb458) ho0 (fun k_ hk_ => Or.elim hk_ (fun hs_ => hs_) (fun hn_ => (Kd.freshB (g := gb458) (o := .cells #[.int .u64 x459000_1, .int .u32 x459001_1, .slice Ao19 x459002_1.length co19, .int .i64 x459003_1] 43 (0, 0)) (by (with_reducible repeat (first | refine blk_drewN ?_ _ | refine blk_drew ?_ | refine blk_alloc ?_ _)); exact BK458.out) k_ hn_)))) (below_size (by repeat (first | (with_reducible first | exact HB.out | apply below_alloc | apply pw_below_drewN | apply below_drew1 | refine below_set ?_ GE458.out) | exact HB.out)))); have n2_ := Aside0.mk (blk_below (g := gb458) (o := .cells #[.int .u64 x459000_1, .int .u32 x459001_1, .slice Ao19 x459002_1.length co19, .int .i64 x459003_1] 43 (0, 0)) (by (with_reducible repeat (first | refine blk_drewN ?_ _ | refine blk_drew ?_ | refine blk_alloc ?_ _)); exact BK458.out) hb); have n3_ := Aside0.mk (below_step (by repeat (first | (with_reducible first | exact HB.out | apply below_alloc | apply pw_below_drewN | apply below_drew1 | refine below_set ?_ GE458.out) | exact HB.out)) hb); clear HO_459002; clear BK458; clear HB; have HO_459002 := n0_; have HO467 := n1_; have BK458 := n2_; have HB := n3_; clear n0_ n1_ n2_ n3_; (try clear hb); (try clear hb2); (try clear hk); (try clear hi); (try clear ho0)) | ((with_reducible refine gate_dst (N := 10) rfl ?_); refine box_event ?hg (N := 10) ?hd (cs := #[.int .u64 0, .int .u32 0, .slice none 0 0, .int .i64 0]) (t := 43) ?hr ?_; (case hd => rfl); (case hg => rfl); (case hr => first | (go_simp; done) | (go_simp; rfl)); intro gb470 hg w30 hbox hb; have n0_ := Aside0.mk (Kd.V_below (Kd.V_elderB (by (with_reducible repeat (first | apply Kd.V_alloc | apply Kd.V_drewN | apply Kd.V_drew)); exact HO_459002.out) gb470 (Nat.le_of_eq hg.symm)) hb); have n1_ := Aside0.mk (Kd.V_below (Kd.V_elderB (by (with_reducible repeat (first | apply Kd.V_alloc | apply Kd.V_drewN | apply Kd.V_drew)); exact HO467.out) gb470 (Nat.le_of_eq hg.symm)) hb); have n2_ := Aside0.mk (blk_below (g := gb458) (o := .cells #[.int .u64 x459000_1, .int .u32 x459001_1, .slice Ao19 x459002_1.length co19, .int .i64 x459003_1] 43 (0, 0)) (by (with_reducible repeat (first | refine blk_drewN ?_ _ | refine blk_drew ?_ | refine blk_alloc ?_ _)); exact BK458.out) hb); have n3_ := Aside0.mk (below_step (by repeat (first | (with_reducible first | exact HB.out | apply below_alloc | apply pw_below_drewN | apply below_drew1 | refine below_set ?_ GE458.out) | exact HB.out)) hb); have n4_ := Aside0.mk (hbox); have n5_ := Aside0.mk ((by rw [hg]; exact (below_size (by repeat (first | (with_reducible first | exact HB.out | apply below_alloc | apply pw_below_drewN | apply below_drew1 | refine below_set ?_ GE458.out) | exact HB.out))) : w.heap.size ≤ gb470)); have n6_ := Aside0.mk ((by rw [hg]; exact (below_size (by repeat (first | (with_reducible first | exact HB.out | apply below_alloc | apply pw_below_drewN | apply below_drew1 | refine below_set ?_ GE458.out) | exact HB.out))) : w.heap.size ≤ gb470)); have n7_ := Aside0.mk ((by rw [hg]; exact Nat.ne_of_lt (blk_lt (g := gb458) (o := .cells #[.int .u64 x459000_1, .int .u32 x459001_1, .slice Ao19 x459002_1.length co19, .int .i64 x459003_1] 43 (0, 0)) (by (with_reducible repeat (first | refine blk_drewN ?_ _ | refine blk_drew ?_ | refine blk_alloc ?_ _)); exact BK458.out)) : gb458 ≠ gb470)); have n8_ := Aside0.mk ((by rw [hg]; exact Nat.ne_of_gt (blk_lt (g := gb458) (o := .cells #[.int .u64 x459000_1, .int .u32 x459001_1, .slice Ao19 x459002_1.length co19, .int .i64 x459003_1] 43 (0, 0)) (by (with_reducible repeat (first | refine blk_drewN ?_ _ | refine blk_drew ?_ | refine blk_alloc ?_ _)); exact BK458.out)) : gb470 ≠ gb458)); clear HO_459002; clear HO467; clear BK458; clear HB; have HO_459002 := n0_; have HO467 := n1_; have BK458 := n2_; have HB := n3_; have BK470 := n4_; have GW470 := n5_; have GE470 := n6_; have NB458_470 := n7_; have NB470_458 := n8_; clear n0_ n1_ n2_ n3_ n4_ n5_ n6_ n7_ n8_; clear hb hbox hg; have hnb31 := NB470_458.out; have hnc31 := NB458_470.out; have hcz32_0 : w30.cell? ⟨gb470, 0, none⟩ = some (.int .u64 0) := (blk_cell BK470.out 0).trans rfl; have hcz32_1 : w30.cell? ⟨gb470, 1, none⟩ = some (.int .u32 0) := (blk_cell BK470.out 1).trans rfl; have hcz32_2 : w30.cell? ⟨gb470, 2, none⟩ = some (.slice none 0 0) := (blk_cell BK470.out 2).trans rfl; have hcz32_3 : w30.cell? ⟨gb470, 3, none⟩ = some (.int .i64 0) := (blk_cell BK470.out 3).trans rfl; have hfz32_0 := blk_frozen BK470.out 0; have hfz32_1 := blk_frozen BK470.out 1; have hfz32_2 := blk_frozen BK470.out 2; have hfz32_3 := blk_frozen BK470.out 3; obtain ⟨Ao33, co33, eo33⟩ := Kd.V_slice HO467.out; subst eo33) | (go_at_call 28; (with_reducible refine (coder_RightDec.calls t463 t464 _ _ t465 t468 true _ ?side1 ?side2 A26.out).mono ?_); (case side1 => refine (Kd.V_reads' (e := 5) (base := w.heap.size) (ok := fun k_ => (k_ ≠ gb458 ∧ k_ ≠ gb470)) (n := t465.length) (c := co33) ?_).2.2; exact (by (with_reducible repeat (first | apply Kd.V_alloc | apply Kd.V_drewN | apply Kd.V_drew)); exact (Kd.V_mono (Kd.V_far (p := ⟨gb470, 3, none⟩) (Kd.V_far (p := ⟨gb470, 2, none⟩) (Kd.V_far (p := ⟨gb470, 1, none⟩) (Kd.V_far (p := ⟨gb470, 0, none⟩) (Kd.V_mono HO467.out (fun k_ hk => (⟨hk, hk.2⟩ : _ ∧ k_ ≠ gb470))) (fun _ hk => hk.2) (.int .u64 t463)) (fun _ hk => hk.2) (.int .u32 t464)) (fun _ hk => hk.2) (.slice Ao33 t465.length co33)) (fun _ hk => hk.2) (.int .i64 t468)) (fun _ h_ => h_.1)))); (case side2 => exact (Kd.V_reads' HO467.out).2.1); rintro e w34 ⟨rfl, hb⟩; have n0_ := Aside0.mk (Kd.V_below (by (with_reducible repeat (first | apply Kd.V_alloc | apply Kd.V_drewN | apply Kd.V_drew)); exact (Kd.V_mono (Kd.V_far (p := ⟨gb470, 3, none⟩) (Kd.V_far (p := ⟨gb470, 2, none⟩) (Kd.V_far (p := ⟨gb470, 1, none⟩) (Kd.V_far (p := ⟨gb470, 0, none⟩) (Kd.V_mono HO_459002.out (fun k_ hk => (⟨hk, hk.2⟩ : _ ∧ k_ ≠ gb470))) (fun _ hk => hk.2) (.int .u64 t463)) (fun _ hk => hk.2) (.int .u32 t464)) (fun _ hk => hk.2) (.slice Ao33 t465.length co33)) (fun _ hk => hk.2) (.int .i64 t468)) (fun _ h_ => h_.1))) hb); have n1_ := Aside0.mk (Kd.V_below (by (with_reducible repeat (first | apply Kd.V_alloc | apply Kd.V_drewN | apply Kd.V_drew)); exact (Kd.V_mono (Kd.V_far (p := ⟨gb470, 3, none⟩) (Kd.V_far (p := ⟨gb470, 2, none⟩) (Kd.V_far (p := ⟨gb470, 1, none⟩) (Kd.V_far (p := ⟨gb470, 0, none⟩) (Kd.V_mono HO467.out (fun k_ hk => (⟨hk, hk.2⟩ : _ ∧ k_ ≠ gb470))) (fun _ hk => hk.2) (.int .u64 t463)) (fun _ hk => hk.2) (.int .u32 t464)) (fun _ hk => hk.2) (.slice Ao33 t465.length co33)) (fun _ hk => hk.2) (.int .i64 t468)) (fun _ h_ => h_.1))) hb); have n2_ := Aside0.mk (blk_below (g := gb458) (o := .cells #[.int .u64 x459000_1, .int .u32 x459001_1, .slice Ao19 x459002_1.length co19, .int .i64 x459003_1] 43 (0, 0)) (by (with_reducible repeat (first | refine blk_drewN ?_ _ | refine blk_drew ?_ | refine blk_alloc ?_ _)); refine blk_far ?_ NB458_470.out _; (with_reducible repeat (first | refine blk_drewN ?_ _ | refine blk_drew ?_ | refine blk_alloc ?_ _)); refine blk_far ?_ NB458_470.out _; (with_reducible repeat (first | refine blk_drewN ?_ _ | refine blk_drew ?_ | refine blk_alloc ?_ _)); refine blk_far ?_ NB458_470.out _; (with_reducible repeat (first | refine blk_drewN ?_ _ | refine blk_drew ?_ | refine blk_alloc ?_ _)); refine blk_far ?_ NB458_470.out _; (with_reducible repeat (first | refine blk_drewN ?_ _ | refine blk_drew ?_ | refine blk_alloc ?_ _)); exact BK458.out) hb); have n3_ := Aside0.mk (blk_below (g := gb470) (o := .cells #[.int .u64 t463, .int .u32 t464, .slice Ao33 t465.length co33, .int .i64 t468] 43 (0, 0)) (by (with_reducible repeat (first | refine blk_drewN ?_ _ | refine blk_drew ?_ | refine blk_alloc ?_ _)); refine blk_put (cs := #[.int .u64 t463, .int .u32 t464, .slice Ao33 t465.length co33, .int .i64 0]) ?_ 3 _ rfl; (with_reducible repeat (first | refine blk_drewN ?_ _ | refine blk_drew ?_ | refine blk_alloc ?_ _)); refine blk_put (cs := #[.int .u64 t463, .int .u32 t464, .slice none 0 0, .int .i64 0]) ?_ 2 _ rfl; (with_reducible repeat (first | refine blk_drewN ?_ _ | refine blk_drew ?_ | refine blk_alloc ?_ _)); refine blk_put (cs := #[.int .u64 t463, .int .u32 0, .slice none 0 0, .int .i64 0]) ?_ 1 _ rfl; (with_reducible repeat (first | refine blk_drewN ?_ _ | refine blk_drew ?_ | refine blk_alloc ?_ _)); refine blk_put (cs := #[.int .u64 0, .int .u32 0, .slice none 0 0, .int .i64 0]) ?_ 0 _ rfl; (with_reducible repeat (first | refine blk_drewN ?_ _ | refine blk_drew ?_ | refine blk_alloc ?_ _)); exact BK470.out) hb); have n4_ := Aside0.mk (below_step (by repeat (first | (with_reducible first | exact HB.out | apply below_alloc | apply pw_below_drewN | apply below_drew1 | refine below_set ?_ GE458.out | refine below_set ?_ GE470.out) | exact HB.out)) hb); clear HO_459002; clear HO467; clear BK458; clear BK470; clear HB; have HO_459002 := n0_; have HO467 := n1_; have BK458 := n2_; have BK470 := n3_; have HB := n4_; clear n0_ n1_ n2_ n3_ n4_; (try clear hb); (try clear hb2); (try clear hk); (try clear hi); have hcz35_0 : w34.cell? ⟨gb470, 0, none⟩ = some (.int .u64 t463) := (blk_cell BK470.out 0).trans rfl; have hcz35_1 : w34.cell? ⟨gb470, 1, none⟩ = some (.int .u32 t464) := (blk_cell BK470.out 1).trans rfl; have hcz35_2 : w34.cell? ⟨gb470, 2, none⟩ = some (.slice Ao33 t465.length co33) := (blk_cell BK470.out 2).trans rfl; have hcz35_3 : w34.cell? ⟨gb470, 3, none⟩ = some (.int .i64 t468) := (blk_cell BK470.out 3).trans rfl; have hfz35_0 := blk_frozen BK470.out 0; have hfz35_1 := blk_frozen BK470.out 1; have hfz35_2 := blk_frozen BK470.out 2; have hfz35_3 := blk_frozen BK470.out 3; have hcz36_0 : w34.cell? ⟨gb458, 0, none⟩ = some (.int .u64 x459000_1) := (blk_cell BK458.out 0).trans rfl; have hcz36_1 : w34.cell? ⟨gb458, 1, none⟩ = some (.int .u32 x459001_1) := (blk_cell BK458.out 1).trans rfl; have hcz36_2 : w34.cell? ⟨gb458, 2, none⟩ = some (.slice Ao19 x459002_1.length co19) := (blk_cell BK458.out 2).trans rfl; have hcz36_3 : w34.cell? ⟨gb458, 3, none⟩ = some (.int .i64 x459003_1) := (blk_cell BK458.out 3).trans rfl; have hfz36_0 := blk_frozen BK458.out 0; have hfz36_1 := blk_frozen BK458.out 1; have hfz36_2 := blk_frozen BK458.out 2; have hfz36_3 := blk_frozen BK458.out 3))
                            go_roundg kj16
                            case measure => have := HK1.out; have := HJ10.out; have := HJ16.out; omega
                            case rel => exact ⟨(wrap64 (x6_1 + 1)), (t463), (t464), (t465), (t468), (.slice Ao33 t465.length co33), (by first | rfl | (simp; done) | (simp [*]; done)), H', ⟨by have := HK1.out; have := HJ10.out; have := HJ16.out; omega⟩, ⟨by (with_reducible repeat (first | apply Kd.V_alloc | apply Kd.V_drewN | apply Kd.V_drew)); exact Kd.V_mono (Kd.V_far (p := ⟨gb458, 3, none⟩) (Kd.V_far (p := ⟨gb458, 2, none⟩) (Kd.V_far (p := ⟨gb458, 1, none⟩) (Kd.V_far (p := ⟨gb458, 0, none⟩) (Kd.V_mono HO467.out (fun k_ hk => (⟨hk, hk.1⟩ : _ ∧ k_ ≠ gb458))) (fun _ hk => hk.2) (.int .u64 t463)) (fun _ hk => hk.2) (.int .u32 t464)) (fun _ hk => hk.2) (.slice Ao33 t465.length co33)) (fun _ hk => hk.2) (.int .i64 t468)) (fun _ hk => hk.1.1)⟩, ⟨by (with_reducible repeat (first | refine blk_drewN ?_ _ | refine blk_drew ?_ | refine blk_alloc ?_ _)); refine blk_put (cs := #[.int .u64 t463, .int .u32 t464, .slice Ao33 t465.length co33, .int .i64 x459003_1]) ?_ 3 _ rfl; (with_reducible repeat (first | refine blk_drewN ?_ _ | refine blk_drew ?_ | refine blk_alloc ?_ _)); refine blk_put (cs := #[.int .u64 t463, .int .u32 t464, .slice Ao19 x459002_1.length co19, .int .i64 x459003_1]) ?_ 2 _ rfl; (with_reducible repeat (first | refine blk_drewN ?_ _ | refine blk_drew ?_ | refine blk_alloc ?_ _)); refine blk_put (cs := #[.int .u64 t463, .int .u32 x459001_1, .slice Ao19 x459002_1.length co19, .int .i64 x459003_1]) ?_ 1 _ rfl; (with_reducible repeat (first | refine blk_drewN ?_ _ | refine blk_drew ?_ | refine blk_alloc ?_ _)); refine blk_put (cs := #[.int .u64 x459000_1, .int .u32 x459001_1, .slice Ao19 x459002_1.length co19, .int .i64 x459003_1]) ?_ 0 _ rfl; (with_reducible repeat (first | refine blk_drewN ?_ _ | refine blk_drew ?_ | refine blk_alloc ?_ _)); exact BK458.out⟩, ⟨by repeat (first | (with_reducible first | exact HB.out | apply below_alloc | apply pw_below_drewN | apply below_drew1 | refine below_set ?_ GE458.out | refine below_set ?_ GE470.out) | exact HB.out)⟩⟩
                          · replace c27 := Bool.eq_false_iff.mpr c27
                            subst c27
                            have H1 : (some false) = some r := by rw [if_neg (show ¬ (false = true) by decide)] at H; exact H
                            clear H
                            have H := H1
                            clear H1
                            obtain rfl := Option.some.inj H
                            have hcz37_0 : wc.cell? ⟨gb458, 0, none⟩ = some (.int .u64 x459000_1) := (blk_cell BK458.out 0).trans rfl
                            have hcz37_1 : wc.cell? ⟨gb458, 1, none⟩ = some (.int .u32 x459001_1) := (blk_cell BK458.out 1).trans rfl
                            have hcz37_2 : wc.cell? ⟨gb458, 2, none⟩ = some (.slice Ao19 x459002_1.length co19) := (blk_cell BK458.out 2).trans rfl
                            have hcz37_3 : wc.cell? ⟨gb458, 3, none⟩ = some (.int .i64 x459003_1) := (blk_cell BK458.out 3).trans rfl
                            have hfz37_0 := blk_frozen BK458.out 0
                            have hfz37_1 := blk_frozen BK458.out 1
                            have hfz37_2 := blk_frozen BK458.out 2
                            have hfz37_3 := blk_frozen BK458.out 3
                            go_wp2_with (first | ((with_reducible refine gate_callee (f := 34) rfl ?_); refine goesL_ (some 59) rfl rfl Try.func34 (by kernel_rfl) rfl #[.agg #[.int .u64 x459000_1, .int .u32 x459001_1, .slice Ao19 x459002_1.length co19, .int .i64 x459003_1], .int .i64 t461, .int .i64 (wrap64 (t461 + 1)), .int .i64 (wrap64 (1 + (wrap64 (Int.tmod (IntKind.u64.wrap (rd l1 x6_1)) 65536))))] rfl (by (try simp only [List.map_toArray, List.map_cons, List.map_nil]); first | done | rfl | (simp only [List.length_drop, List.length_take]; rfl)) ?_; (with_reducible refine (coder_Take.calls kj16 x459000_1 x459001_1 (fun k_ => k_ ≠ gb458) _ _ x459002_1 x459003_1 t461 (wrap64 (t461 + 1)) (wrap64 (1 + (wrap64 (Int.tmod (IntKind.u64.wrap (rd l1 x6_1)) 65536)))) t463 t464 t465 t468 t469 _ ?side1 A24.out).mono ?_); (case side1 => exact HO_459002.out); rintro e w38 ⟨v466, rfl, ho0, hb⟩; refine ⟨_, rfl, ?_⟩; have n0_ := Aside0.mk (Kd.V_below (by (with_reducible repeat (first | apply Kd.V_alloc | apply Kd.V_drewN | apply Kd.V_drew)); exact HO_459002.out) hb); have n1_ := Aside0.mk (Kd.V_lower (Kd.V_mono (ok' := fun k_ => k_ ≠ gb458) ho0 (fun k_ hk_ => Or.elim hk_ (fun hs_ => hs_) (fun hn_ => (Kd.freshB (g := gb458) (o := .cells #[.int .u64 x459000_1, .int .u32 x459001_1, .slice Ao19 x459002_1.length co19, .int .i64 x459003_1] 43 (0, 0)) (by (with_reducible repeat (first | refine blk_drewN ?_ _ | refine blk_drew ?_ | refine blk_alloc ?_ _)); exact BK458.out) k_ hn_)))) (below_size (by repeat (first | (with_reducible first | exact HB.out | apply below_alloc | apply pw_below_drewN | apply below_drew1 | refine below_set ?_ GE458.out) | exact HB.out)))); have n2_ := Aside0.mk (blk_below (g := gb458) (o := .cells #[.int .u64 x459000_1, .int .u32 x459001_1, .slice Ao19 x459002_1.length co19, .int .i64 x459003_1] 43 (0, 0)) (by (with_reducible repeat (first | refine blk_drewN ?_ _ | refine blk_drew ?_ | refine blk_alloc ?_ _)); exact BK458.out) hb); have n3_ := Aside0.mk (below_step (by repeat (first | (with_reducible first | exact HB.out | apply below_alloc | apply pw_below_drewN | apply below_drew1 | refine below_set ?_ GE458.out) | exact HB.out)) hb); clear HO_459002; clear BK458; clear HB; have HO_459002 := n0_; have HO467 := n1_; have BK458 := n2_; have HB := n3_; clear n0_ n1_ n2_ n3_; (try clear hb); (try clear hb2); (try clear hk); (try clear hi); (try clear ho0)) | ((with_reducible refine gate_dst (N := 10) rfl ?_); refine box_event ?hg (N := 10) ?hd (cs := #[.int .u64 0, .int .u32 0, .slice none 0 0, .int .i64 0]) (t := 43) ?hr ?_; (case hd => rfl); (case hg => rfl); (case hr => first | (go_simp; done) | (go_simp; rfl)); intro gb470 hg w39 hbox hb; have n0_ := Aside0.mk (Kd.V_below (Kd.V_elderB (by (with_reducible repeat (first | apply Kd.V_alloc | apply Kd.V_drewN | apply Kd.V_drew)); exact HO_459002.out) gb470 (Nat.le_of_eq hg.symm)) hb); have n1_ := Aside0.mk (Kd.V_below (Kd.V_elderB (by (with_reducible repeat (first | apply Kd.V_alloc | apply Kd.V_drewN | apply Kd.V_drew)); exact HO467.out) gb470 (Nat.le_of_eq hg.symm)) hb); have n2_ := Aside0.mk (blk_below (g := gb458) (o := .cells #[.int .u64 x459000_1, .int .u32 x459001_1, .slice Ao19 x459002_1.length co19, .int .i64 x459003_1] 43 (0, 0)) (by (with_reducible repeat (first | refine blk_drewN ?_ _ | refine blk_drew ?_ | refine blk_alloc ?_ _)); exact BK458.out) hb); have n3_ := Aside0.mk (below_step (by repeat (first | (with_reducible first | exact HB.out | apply below_alloc | apply pw_below_drewN | apply below_drew1 | refine below_set ?_ GE458.out) | exact HB.out)) hb); have n4_ := Aside0.mk (hbox); have n5_ := Aside0.mk ((by rw [hg]; exact (below_size (by repeat (first | (with_reducible first | exact HB.out | apply below_alloc | apply pw_below_drewN | apply below_drew1 | refine below_set ?_ GE458.out) | exact HB.out))) : w.heap.size ≤ gb470)); have n6_ := Aside0.mk ((by rw [hg]; exact (below_size (by repeat (first | (with_reducible first | exact HB.out | apply below_alloc | apply pw_below_drewN | apply below_drew1 | refine below_set ?_ GE458.out) | exact HB.out))) : w.heap.size ≤ gb470)); have n7_ := Aside0.mk ((by rw [hg]; exact Nat.ne_of_lt (blk_lt (g := gb458) (o := .cells #[.int .u64 x459000_1, .int .u32 x459001_1, .slice Ao19 x459002_1.length co19, .int .i64 x459003_1] 43 (0, 0)) (by (with_reducible repeat (first | refine blk_drewN ?_ _ | refine blk_drew ?_ | refine blk_alloc ?_ _)); exact BK458.out)) : gb458 ≠ gb470)); have n8_ := Aside0.mk ((by rw [hg]; exact Nat.ne_of_gt (blk_lt (g := gb458) (o := .cells #[.int .u64 x459000_1, .int .u32 x459001_1, .slice Ao19 x459002_1.length co19, .int .i64 x459003_1] 43 (0, 0)) (by (with_reducible repeat (first | refine blk_drewN ?_ _ | refine blk_drew ?_ | refine blk_alloc ?_ _)); exact BK458.out)) : gb470 ≠ gb458)); clear HO_459002; clear HO467; clear BK458; clear HB; have HO_459002 := n0_; have HO467 := n1_; have BK458 := n2_; have HB := n3_; have BK470 := n4_; have GW470 := n5_; have GE470 := n6_; have NB458_470 := n7_; have NB470_458 := n8_; clear n0_ n1_ n2_ n3_ n4_ n5_ n6_ n7_ n8_; clear hb hbox hg; have hnb40 := NB470_458.out; have hnc40 := NB458_470.out; have hcz41_0 : w39.cell? ⟨gb470, 0, none⟩ = some (.int .u64 0) := (blk_cell BK470.out 0).trans rfl; have hcz41_1 : w39.cell? ⟨gb470, 1, none⟩ = some (.int .u32 0) := (blk_cell BK470.out 1).trans rfl; have hcz41_2 : w39.cell? ⟨gb470, 2, none⟩ = some (.slice none 0 0) := (blk_cell BK470.out 2).trans rfl; have hcz41_3 : w39.cell? ⟨gb470, 3, none⟩ = some (.int .i64 0) := (blk_cell BK470.out 3).trans rfl; have hfz41_0 := blk_frozen BK470.out 0; have hfz41_1 := blk_frozen BK470.out 1; have hfz41_2 := blk_frozen BK470.out 2; have hfz41_3 := blk_frozen BK470.out 3; obtain ⟨Ao42, co42, eo42⟩ := Kd.V_slice HO467.out; subst eo42) | (go_at_call 28; (with_reducible refine (coder_RightDec.calls t463 t464 _ _ t465 t468 false _ ?side1 ?side2 A26.out).mono ?_); (case side1 => refine (Kd.V_reads' (e := 5) (base := w.heap.size) (ok := fun k_ => (k_ ≠ gb458 ∧ k_ ≠ gb470)) (n := t465.length) (c := co42) ?_).2.2; exact (by (with_reducible repeat (first | apply Kd.V_alloc | apply Kd.V_drewN | apply Kd.V_drew)); exact (Kd.V_mono (Kd.V_far (p := ⟨gb470, 3, none⟩) (Kd.V_far (p := ⟨gb470, 2, none⟩) (Kd.V_far (p := ⟨gb470, 1, none⟩) (Kd.V_far (p := ⟨gb470, 0, none⟩) (Kd.V_mono HO467.out (fun k_ hk => (⟨hk, hk.2⟩ : _ ∧ k_ ≠ gb470))) (fun _ hk => hk.2) (.int .u64 t463)) (fun _ hk => hk.2) (.int .u32 t464)) (fun _ hk => hk.2) (.slice Ao42 t465.length co42)) (fun _ hk => hk.2) (.int .i64 t468)) (fun _ h_ => h_.1)))); (case side2 => exact (Kd.V_reads' HO467.out).2.1); rintro e w43 ⟨rfl, hb⟩; have n0_ := Aside0.mk (Kd.V_below (by (with_reducible repeat (first | apply Kd.V_alloc | apply Kd.V_drewN | apply Kd.V_drew)); exact (Kd.V_mono (Kd.V_far (p := ⟨gb470, 3, none⟩) (Kd.V_far (p := ⟨gb470, 2, none⟩) (Kd.V_far (p := ⟨gb470, 1, none⟩) (Kd.V_far (p := ⟨gb470, 0, none⟩) (Kd.V_mono HO_459002.out (fun k_ hk => (⟨hk, hk.2⟩ : _ ∧ k_ ≠ gb470))) (fun _ hk => hk.2) (.int .u64 t463)) (fun _ hk => hk.2) (.int .u32 t464)) (fun _ hk => hk.2) (.slice Ao42 t465.length co42)) (fun _ hk => hk.2) (.int .i64 t468)) (fun _ h_ => h_.1))) hb); have n1_ := Aside0.mk (Kd.V_below (by (with_reducible repeat (first | apply Kd.V_alloc | apply Kd.V_drewN | apply Kd.V_drew)); exact (Kd.V_mono (Kd.V_far (p := ⟨gb470, 3, none⟩) (Kd.V_far (p := ⟨gb470, 2, none⟩) (Kd.V_far (p := ⟨gb470, 1, none⟩) (Kd.V_far (p := ⟨gb470, 0, none⟩) (Kd.V_mono HO467.out (fun k_ hk => (⟨hk, hk.2⟩ : _ ∧ k_ ≠ gb470))) (fun _ hk => hk.2) (.int .u64 t463)) (fun _ hk => hk.2) (.int .u32 t464)) (fun _ hk => hk.2) (.slice Ao42 t465.length co42)) (fun _ hk => hk.2) (.int .i64 t468)) (fun _ h_ => h_.1))) hb); have n2_ := Aside0.mk (blk_below (g := gb458) (o := .cells #[.int .u64 x459000_1, .int .u32 x459001_1, .slice Ao19 x459002_1.length co19, .int .i64 x459003_1] 43 (0, 0)) (by (with_reducible repeat (first | refine blk_drewN ?_ _ | refine blk_drew ?_ | refine blk_alloc ?_ _)); refine blk_far ?_ NB458_470.out _; (with_reducible repeat (first | refine blk_drewN ?_ _ | refine blk_drew ?_ | refine blk_alloc ?_ _)); refine blk_far ?_ NB458_470.out _; (with_reducible repeat (first | refine blk_drewN ?_ _ | refine blk_drew ?_ | refine blk_alloc ?_ _)); refine blk_far ?_ NB458_470.out _; (with_reducible repeat (first | refine blk_drewN ?_ _ | refine blk_drew ?_ | refine blk_alloc ?_ _)); refine blk_far ?_ NB458_470.out _; (with_reducible repeat (first | refine blk_drewN ?_ _ | refine blk_drew ?_ | refine blk_alloc ?_ _)); exact BK458.out) hb); have n3_ := Aside0.mk (blk_below (g := gb470) (o := .cells #[.int .u64 t463, .int .u32 t464, .slice Ao42 t465.length co42, .int .i64 t468] 43 (0, 0)) (by (with_reducible repeat (first | refine blk_drewN ?_ _ | refine blk_drew ?_ | refine blk_alloc ?_ _)); refine blk_put (cs := #[.int .u64 t463, .int .u32 t464, .slice Ao42 t465.length co42, .int .i64 0]) ?_ 3 _ rfl; (with_reducible repeat (first | refine blk_drewN ?_ _ | refine blk_drew ?_ | refine blk_alloc ?_ _)); refine blk_put (cs := #[.int .u64 t463, .int .u32 t464, .slice none 0 0, .int .i64 0]) ?_ 2 _ rfl; (with_reducible repeat (first | refine blk_drewN ?_ _ | refine blk_drew ?_ | refine blk_alloc ?_ _)); refine blk_put (cs := #[.int .u64 t463, .int .u32 0, .slice none 0 0, .int .i64 0]) ?_ 1 _ rfl; (with_reducible repeat (first | refine blk_drewN ?_ _ | refine blk_drew ?_ | refine blk_alloc ?_ _)); refine blk_put (cs := #[.int .u64 0, .int .u32 0, .slice none 0 0, .int .i64 0]) ?_ 0 _ rfl; (with_reducible repeat (first | refine blk_drewN ?_ _ | refine blk_drew ?_ | refine blk_alloc ?_ _)); exact BK470.out) hb); have n4_ := Aside0.mk (below_step (by repeat (first | (with_reducible first | exact HB.out | apply below_alloc | apply pw_below_drewN | apply below_drew1 | refine below_set ?_ GE458.out | refine below_set ?_ GE470.out) | exact HB.out)) hb); clear HO_459002; clear HO467; clear BK458; clear BK470; clear HB; have HO_459002 := n0_; have HO467 := n1_; have BK458 := n2_; have BK470 := n3_; have HB := n4_; clear n0_ n1_ n2_ n3_ n4_; (try clear hb); (try clear hb2); (try clear hk); (try clear hi)))
                            go_ret
                            exact ⟨by first | rfl | (simp [errW_none, errW_some] <;> rfl) | (simp [*, errW_none, errW_some] <;> rfl), by repeat (first | (with_reducible first | exact HB.out | apply below_alloc | apply pw_below_drewN | apply below_drew1 | refine below_set ?_ GE458.out | refine below_set ?_ GE470.out) | exact HB.out)⟩
                        · rw [if_neg c25] at H
                          have c25b0 : (t469 == 0) = false := beq_eq_false_iff_ne.mpr c25
                          have c25b1 : (t469 != 0) = true := bne_iff_ne.mpr c25
                          obtain rfl := Option.some.inj H
                          have hcz44_0 : wc.cell? ⟨gb458, 0, none⟩ = some (.int .u64 x459000_1) := (blk_cell BK458.out 0).trans rfl
                          have hcz44_1 : wc.cell? ⟨gb458, 1, none⟩ = some (.int .u32 x459001_1) := (blk_cell BK458.out 1).trans rfl
                          have hcz44_2 : wc.cell? ⟨gb458, 2, none⟩ = some (.slice Ao19 x459002_1.length co19) := (blk_cell BK458.out 2).trans rfl
                          have hcz44_3 : wc.cell? ⟨gb458, 3, none⟩ = some (.int .i64 x459003_1) := (blk_cell BK458.out 3).trans rfl
                          have hfz44_0 := blk_frozen BK458.out 0
                          have hfz44_1 := blk_frozen BK458.out 1
                          have hfz44_2 := blk_frozen BK458.out 2
                          have hfz44_3 := blk_frozen BK458.out 3
                          go_wp2_with (first | ((with_reducible refine gate_callee (f := 34) rfl ?_); refine goesL_ (some 59) rfl rfl Try.func34 (by kernel_rfl) rfl #[.agg #[.int .u64 x459000_1, .int .u32 x459001_1, .slice Ao19 x459002_1.length co19, .int .i64 x459003_1], .int .i64 t461, .int .i64 (wrap64 (t461 + 1)), .int .i64 (wrap64 (1 + (wrap64 (Int.tmod (IntKind.u64.wrap (rd l1 x6_1)) 65536))))] rfl (by (try simp only [List.map_toArray, List.map_cons, List.map_nil]); first | done | rfl | (simp only [List.length_drop, List.length_take]; rfl)) ?_; (with_reducible refine (coder_Take.calls kj16 x459000_1 x459001_1 (fun k_ => k_ ≠ gb458) _ _ x459002_1 x459003_1 t461 (wrap64 (t461 + 1)) (wrap64 (1 + (wrap64 (Int.tmod (IntKind.u64.wrap (rd l1 x6_1)) 65536)))) t463 t464 t465 t468 t469 _ ?side1 A24.out).mono ?_); (case side1 => exact HO_459002.out); rintro e w45 ⟨v466, rfl, ho0, hb⟩; refine ⟨_, rfl, ?_⟩; have n0_ := Aside0.mk (Kd.V_below (by (with_reducible repeat (first | apply Kd.V_alloc | apply Kd.V_drewN | apply Kd.V_drew)); exact HO_459002.out) hb); have n1_ := Aside0.mk (Kd.V_lower (Kd.V_mono (ok' := fun k_ => k_ ≠ gb458) ho0 (fun k_ hk_ => Or.elim hk_ (fun hs_ => hs_) (fun hn_ => (Kd.freshB (g := gb458) (o := .cells #[.int .u64 x459000_1, .int .u32 x459001_1, .slice Ao19 x459002_1.length co19, .int .i64 x459003_1] 43 (0, 0)) (by (with_reducible repeat (first | refine blk_drewN ?_ _ | refine blk_drew ?_ | refine blk_alloc ?_ _)); exact BK458.out) k_ hn_)))) (below_size (by repeat (first | (with_reducible first | exact HB.out | apply below_alloc | apply pw_below_drewN | apply below_drew1 | refine below_set ?_ GE458.out) | exact HB.out)))); have n2_ := Aside0.mk (blk_below (g := gb458) (o := .cells #[.int .u64 x459000_1, .int .u32 x459001_1, .slice Ao19 x459002_1.length co19, .int .i64 x459003_1] 43 (0, 0)) (by (with_reducible repeat (first | refine blk_drewN ?_ _ | refine blk_drew ?_ | refine blk_alloc ?_ _)); exact BK458.out) hb); have n3_ := Aside0.mk (below_step (by repeat (first | (with_reducible first | exact HB.out | apply below_alloc | apply pw_below_drewN | apply below_drew1 | refine below_set ?_ GE458.out) | exact HB.out)) hb); clear HO_459002; clear BK458; clear HB; have HO_459002 := n0_; have HO467 := n1_; have BK458 := n2_; have HB := n3_; clear n0_ n1_ n2_ n3_; (try clear hb); (try clear hb2); (try clear hk); (try clear hi); (try clear ho0)) | ((with_reducible refine gate_dst (N := 10) rfl ?_); refine box_event ?hg (N := 10) ?hd (cs := #[.int .u64 0, .int .u32 0, .slice none 0 0, .int .i64 0]) (t := 43) ?hr ?_; (case hd => rfl); (case hg => rfl); (case hr => first | (go_simp; done) | (go_simp; rfl)); intro gb470 hg w46 hbox hb; have n0_ := Aside0.mk (Kd.V_below (Kd.V_elderB (by (with_reducible repeat (first | apply Kd.V_alloc | apply Kd.V_drewN | apply Kd.V_drew)); exact HO_459002.out) gb470 (Nat.le_of_eq hg.symm)) hb); have n1_ := Aside0.mk (Kd.V_below (Kd.V_elderB (by (with_reducible repeat (first | apply Kd.V_alloc | apply Kd.V_drewN | apply Kd.V_drew)); exact HO467.out) gb470 (Nat.le_of_eq hg.symm)) hb); have n2_ := Aside0.mk (blk_below (g := gb458) (o := .cells #[.int .u64 x459000_1, .int .u32 x459001_1, .slice Ao19 x459002_1.length co19, .int .i64 x459003_1] 43 (0, 0)) (by (with_reducible repeat (first | refine blk_drewN ?_ _ | refine blk_drew ?_ | refine blk_alloc ?_ _)); exact BK458.out) hb); have n3_ := Aside0.mk (below_step (by repeat (first | (with_reducible first | exact HB.out | apply below_alloc | apply pw_below_drewN | apply below_drew1 | refine below_set ?_ GE458.out) | exact HB.out)) hb); have n4_ := Aside0.mk (hbox); have n5_ := Aside0.mk ((by rw [hg]; exact (below_size (by repeat (first | (with_reducible first | exact HB.out | apply below_alloc | apply pw_below_drewN | apply below_drew1 | refine below_set ?_ GE458.out) | exact HB.out))) : w.heap.size ≤ gb470)); have n6_ := Aside0.mk ((by rw [hg]; exact (below_size (by repeat (first | (with_reducible first | exact HB.out | apply below_alloc | apply pw_below_drewN | apply below_drew1 | refine below_set ?_ GE458.out) | exact HB.out))) : w.heap.size ≤ gb470)); have n7_ := Aside0.mk ((by rw [hg]; exact Nat.ne_of_lt (blk_lt (g := gb458) (o := .cells #[.int .u64 x459000_1, .int .u32 x459001_1, .slice Ao19 x459002_1.length co19, .int .i64 x459003_1] 43 (0, 0)) (by (with_reducible repeat (first | refine blk_drewN ?_ _ | refine blk_drew ?_ | refine blk_alloc ?_ _)); exact BK458.out)) : gb458 ≠ gb470)); have n8_ := Aside0.mk ((by rw [hg]; exact Nat.ne_of_gt (blk_lt (g := gb458) (o := .cells #[.int .u64 x459000_1, .int .u32 x459001_1, .slice Ao19 x459002_1.length co19, .int .i64 x459003_1] 43 (0, 0)) (by (with_reducible repeat (first | refine blk_drewN ?_ _ | refine blk_drew ?_ | refine blk_alloc ?_ _)); exact BK458.out)) : gb470 ≠ gb458)); clear HO_459002; clear HO467; clear BK458; clear HB; have HO_459002 := n0_; have HO467 := n1_; have BK458 := n2_; have HB := n3_; have BK470 := n4_; have GW470 := n5_; have GE470 := n6_; have NB458_470 := n7_; have NB470_458 := n8_; clear n0_ n1_ n2_ n3_ n4_ n5_ n6_ n7_ n8_; clear hb hbox hg; have hnb47 := NB470_458.out; have hnc47 := NB458_470.out; have hcz48_0 : w46.cell? ⟨gb470, 0, none⟩ = some (.int .u64 0) := (blk_cell BK470.out 0).trans rfl; have hcz48_1 : w46.cell? ⟨gb470, 1, none⟩ = some (.int .u32 0) := (blk_cell BK470.out 1).trans rfl; have hcz48_2 : w46.cell? ⟨gb470, 2, none⟩ = some (.slice none 0 0) := (blk_cell BK470.out 2).trans rfl; have hcz48_3 : w46.cell? ⟨gb470, 3, none⟩ = some (.int .i64 0) := (blk_cell BK470.out 3).trans rfl; have hfz48_0 := blk_frozen BK470.out 0; have hfz48_1 := blk_frozen BK470.out 1; have hfz48_2 := blk_frozen BK470.out 2; have hfz48_3 := blk_frozen BK470.out 3; obtain ⟨Ao49, co49, eo49⟩ := Kd.V_slice HO467.out; subst eo49))
                          go_ret
                          exact ⟨by first | rfl | (simp [errW_none, errW_some] <;> rfl) | (simp [*, errW_none, errW_some] <;> rfl), by repeat (first | (with_reducible first | exact HB.out | apply below_alloc | apply pw_below_drewN | apply below_drew1 | refine below_set ?_ GE458.out | refine below_set ?_ GE470.out) | exact HB.out)⟩
                · rw [if_neg c15] at H
                  exact absurd H (by simp)
              · rw [if_neg c14] at H
                exact absurd H (by simp)
            · replace c13 := Bool.eq_false_iff.mpr c13
              subst c13
              have H1 : ((psalterylaw05_knows.f kj10).bind fun t459 => (some t459)) = some r := by rw [if_neg (show ¬ (false = true) by decide)] at H; exact H
              clear H
              have H := H1
              clear H1
              replace H := Option.bind_eq_some_iff.mp H
              obtain ⟨t459, A500, H⟩ := H
              replace H : (some t459) = some r := H
              have A50 := Aside0.mk A500
              clear A500
              obtain rfl := Option.some.inj H
              go_wp2_with (first | ((with_reducible refine gate_callee (f := 17) rfl ?_); refine goesL_ (some 70) rfl rfl Try.func17 (by kernel_rfl) rfl #[] rfl (by (try simp only [List.map_toArray, List.map_cons, List.map_nil]); first | done | rfl | (simp only [List.length_drop, List.length_take]; rfl)) ?_; (with_reducible refine (psalterylaw05_knows.calls kj10  t459 _ A50.out).mono ?_); rintro e w51 ⟨rfl, hb⟩; refine ⟨_, rfl, ?_⟩; have n0_ := Aside0.mk (Kd.V_below (by (with_reducible repeat (first | apply Kd.V_alloc | apply Kd.V_drewN | apply Kd.V_drew)); exact HO_459002.out) hb); have n1_ := Aside0.mk (blk_below (g := gb458) (o := .cells #[.int .u64 x459000_1, .int .u32 x459001_1, u459002, .int .i64 x459003_1] 43 (0, 0)) (by (with_reducible repeat (first | refine blk_drewN ?_ _ | refine blk_drew ?_ | refine blk_alloc ?_ _)); exact BK458.out) hb); have n2_ := Aside0.mk (below_step (by repeat (first | (with_reducible first | exact HB.out | apply below_alloc | apply pw_below_drewN | apply below_drew1 | refine below_set ?_ GE458.out) | exact HB.out)) hb); clear HO_459002; clear BK458; clear HB; have HO_459002 := n0_; have BK458 := n1_; have HB := n2_; clear n0_ n1_ n2_; (try clear hb); (try clear hb2); (try clear hk); (try clear hi)))
              go_ret
              exact ⟨by first | rfl | (simp [errW_none, errW_some] <;> rfl) | (simp [*, errW_none, errW_some] <;> rfl), by repeat (first | (with_reducible first | exact HB.out | apply below_alloc | apply pw_below_drewN | apply below_drew1 | refine below_set ?_ GE458.out) | exact HB.out)⟩

/-- THE ONE PURE STATEMENT of psalterylaw05_CoderAny: yours. -/
def psalterylaw05_CoderAny.Pure : Prop := ∀ (l0 : List Int) (l1 : List Int), l0.length ≤ maxLen → l0.length * 1 ≤ 140737488351232 → (∀ x ∈ l0, (Lit.int .u8 x).wf = true) → l1.length ≤ maxLen → l1.length * 8 ≤ 140737488351232 → (∀ x ∈ l1, (Lit.int .i64 x).wf = true) → ∃ k, psalterylaw05_CoderAny.f k l0 l1 = some true
theorem psalterylaw05_CoderAny.walk (P : psalterylaw05_CoderAny.Pure) (a0 : Option Addr) (len0 cap0 : Nat) (z0 : List Int) (a1 : Option Addr) (len1 cap1 : Nat) (z1 : List Int) (w : World) (w0 : (a0 = none ∧ len0 = 0 ∧ cap0 = 0 ∧ z0 = []) ∨ ∃ x, a0 = some x ∧ len0 ≤ cap0 ∧ cap0 ≤ maxLen ∧ z0.length = cap0 ∧ (∀ i, i < z0.length → w.cell? (x.add i) = some (.int .u8 (z0.getD i 0))) ∧ ∀ n ∈ z0, (Lit.int .u8 n).wf = true) (y0 : len0 * 1 ≤ 140737488351232) (w1 : (a1 = none ∧ len1 = 0 ∧ cap1 = 0 ∧ z1 = []) ∨ ∃ x, a1 = some x ∧ len1 ≤ cap1 ∧ cap1 ≤ maxLen ∧ z1.length = cap1 ∧ (∀ i, i < z1.length → w.cell? (x.add i) = some (.int .i64 (z1.getD i 0))) ∧ ∀ n ∈ z1, (Lit.int .i64 n).wf = true) (y1 : len1 * 8 ≤ 140737488351232) :
    Calls Try.prog 8 #[.slice a0 len0 cap0, .slice a1 len1 cap1] w fun e w' => e = .returned (.bool true) ∧ Below w.heap.size w w' := by
  obtain ⟨l0, rfl, hr0, hm0, hw0, hc0⟩ := ReadsInt.ofRowC w0
  obtain ⟨l1, rfl, hr1, hm1, hw1, hc1⟩ := ReadsInt.ofRowC w1
  obtain ⟨k, h⟩ := P l0 l1 hm0 y0 hw0 hm1 y1 hw1
  refine (psalterylaw05_CoderAny.calls k _ _ l0 _ _ l1 true w (Kd.C_of_reads (d := (0 : Int)) (h1 := fun _ => rfl) hr0) hc0 (Kd.C_of_reads (d := (0 : Int)) (h1 := fun _ => rfl) hr1) hc1 h).mono ?_
  rintro e w' ⟨rfl, hd⟩
  exact ⟨rfl, hd⟩

end Go.Proofs.Ytkaoiblgfpphoaa.Prt
