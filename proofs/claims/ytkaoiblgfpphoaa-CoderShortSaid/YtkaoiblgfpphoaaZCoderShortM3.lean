-- Functions of the program and of the document as plain Lean, each with the proof that the code comes to it. Written by a program of this session (wip/tools/myprint.py, pack.py) over the kit's printer; Lean checks it.
import Derived.Test.YtkaoiblgfpphoaaZCoderShortPrt0
import Derived.Test.YtkaoiblgfpphoaaZCoderShortM1
import Derived.Test.YtkaoiblgfpphoaaZCoderShortM2
namespace Go.Proofs.Ytkaoiblgfpphoaa.Prt
open Go.RowKit Go.Proofs.YtkaoiblgfpphoaaW.PrintWords Go.Proofs.YtkaoiblgfpphoaaW.PrintLast Go.Proofs.YtkaoiblgfpphoaaW.PrintMore
attribute [local go_sem] max2_int min2_int max_two min_two max_three min_three max_four min_four   -- for this text's walks alone
set_option linter.unusedVariables false
set_option linter.unusedSimpArgs false

/-! ### psalterylaw05_CoderShort: function 5 -/
mutual
def psalterylaw05_CoderShort.l0 : Nat → List (S53) → Int → Int → Int → Int → Int → List Int → Option (Bool)
  | 0, _, _, _, _, _, _, _ => none
  | k + 1, x0, x4, x5, x6, x318000, x318001, x318002 => if x6 < (x0.length : Int) then (psalterylaw05_CoderShort.j1 k x0 x4 x5 x6 (decide (x6 < 300)) x318000 x318001 x318002) else (psalterylaw05_CoderShort.j1 k x0 x4 x5 x6 false x318000 x318001 x318002)
def psalterylaw05_CoderShort.j1 : Nat → List (S53) → Int → Int → Int → Bool → Int → Int → List Int → Option (Bool)
  | 0, _, _, _, _, _, _, _, _ => none
  | k + 1, x0, x4, x5, x6, x17, x318000, x318001, x318002 => if x17 = true then (if 0 ≤ x6 then (if x6 < (x0.length : Int) then ((coder_Put.f k x318000 x318001 x318002 ((rd_T53 x0 x6).f0) ((rd_T53 x0 x6).f1) ((rd_T53 x0 x6).f2)).bind fun bt322 => (if bt322.2.2.2 = 0 then ((psalteryref03_Log2.f k (IntKind.u64.wrap ((IntKind.u64.wrap ((rd_T53 x0 x6).f2)) - 1))).bind fun t330 => (psalterylaw05_CoderShort.l0 k x0 (wrap64 (x4 + 1)) (wrap64 ((wrap64 (x5 + 1)) + t330)) (wrap64 (x6 + 1)) bt322.1 bt322.2.1 bt322.2.2.1)) else (psalterylaw05_CoderShort.l0 k x0 x4 x5 (wrap64 (x6 + 1)) bt322.1 bt322.2.1 bt322.2.2.1))) else (none)) else (none)) else (if (wrap64 (8 * (x318002.length : Int))) ≤ (wrap64 (x5 + (wrap64 (Int.tdiv x4 100)))) then ((psalterylaw05_knows.f k).bind fun t318 => (some t318)) else (some false))
end
def psalterylaw05_CoderShort.f (k : Nat) (l0 : List (S53)) : Option (Bool) := (coder_New.f).bind fun bt312 => (psalterylaw05_CoderShort.l0 k l0 0 1 0 bt312.1 bt312.2.1 bt312.2.2)
theorem psalterylaw05_CoderShort.mono_l : ∀ k, (∀ y0 y1 y2 y3 y4 y5 y6, LeO (psalterylaw05_CoderShort.l0 k y0 y1 y2 y3 y4 y5 y6) (psalterylaw05_CoderShort.l0 (k + 1) y0 y1 y2 y3 y4 y5 y6)) ∧ (∀ y0 y1 y2 y3 y4 y5 y6 y7, LeO (psalterylaw05_CoderShort.j1 k y0 y1 y2 y3 y4 y5 y6 y7) (psalterylaw05_CoderShort.j1 (k + 1) y0 y1 y2 y3 y4 y5 y6 y7))
  | 0 => ⟨fun _ _ _ _ _ _ _ r h => by simp [psalterylaw05_CoderShort.l0] at h, fun _ _ _ _ _ _ _ _ r h => by simp [psalterylaw05_CoderShort.j1] at h⟩
  | k + 1 => by
    obtain ⟨ih0, ih1⟩ := psalterylaw05_CoderShort.mono_l k
    refine ⟨?_, ?_⟩
    · intro y0 y1 y2 y3 y4 y5 y6
      unfold psalterylaw05_CoderShort.l0
      repeat' first
      | (with_reducible exact ih0 _ _ _ _ _ _ _)
      | (with_reducible exact ih1 _ _ _ _ _ _ _ _)
      | (with_reducible exact coder_Put.mono _ _ _ _ _ _ _)
      | (with_reducible exact psalterylaw05_knows.mono _)
      | (with_reducible exact psalteryref03_Log2.mono _ _)
      | (with_reducible exact LeO.refl _)
      | (with_reducible exact LeO.none _)
      | (with_reducible refine LeO.ite ?_ ?_)
      | (with_reducible refine LeO.bind ?_ (fun _ => ?_))
      | exact ih0 _ _ _ _ _ _ _
      | exact ih1 _ _ _ _ _ _ _ _
      | exact coder_Put.mono _ _ _ _ _ _ _
      | exact psalterylaw05_knows.mono _
      | exact psalteryref03_Log2.mono _ _
      | exact LeO.none _
      | refine LeO.ite ?_ ?_
      | refine LeO.bind ?_ (fun _ => ?_)
    · intro y0 y1 y2 y3 y4 y5 y6 y7
      unfold psalterylaw05_CoderShort.j1
      repeat' first
      | (with_reducible exact ih0 _ _ _ _ _ _ _)
      | (with_reducible exact ih1 _ _ _ _ _ _ _ _)
      | (with_reducible exact coder_Put.mono _ _ _ _ _ _ _)
      | (with_reducible exact psalterylaw05_knows.mono _)
      | (with_reducible exact psalteryref03_Log2.mono _ _)
      | (with_reducible exact LeO.refl _)
      | (with_reducible exact LeO.none _)
      | (with_reducible refine LeO.ite ?_ ?_)
      | (with_reducible refine LeO.bind ?_ (fun _ => ?_))
      | exact ih0 _ _ _ _ _ _ _
      | exact ih1 _ _ _ _ _ _ _ _
      | exact coder_Put.mono _ _ _ _ _ _ _
      | exact psalterylaw05_knows.mono _
      | exact psalteryref03_Log2.mono _ _
      | exact LeO.none _
      | refine LeO.ite ?_ ?_
      | refine LeO.bind ?_ (fun _ => ?_)
theorem psalterylaw05_CoderShort.mono : ∀ a0 k, LeO (psalterylaw05_CoderShort.f k a0) (psalterylaw05_CoderShort.f (k + 1) a0) := by
  intro a0 k
  obtain ⟨ih0, ih1⟩ := psalterylaw05_CoderShort.mono_l k
  unfold psalterylaw05_CoderShort.f
  repeat' first
      | (with_reducible exact ih0 _ _ _ _ _ _ _)
      | (with_reducible exact ih1 _ _ _ _ _ _ _ _)
      | (with_reducible exact coder_Put.mono _ _ _ _ _ _ _)
      | (with_reducible exact psalterylaw05_knows.mono _)
      | (with_reducible exact psalteryref03_Log2.mono _ _)
      | (with_reducible exact LeO.refl _)
      | (with_reducible exact LeO.none _)
      | (with_reducible refine LeO.ite ?_ ?_)
      | (with_reducible refine LeO.bind ?_ (fun _ => ?_))
      | exact ih0 _ _ _ _ _ _ _
      | exact ih1 _ _ _ _ _ _ _ _
      | exact coder_Put.mono _ _ _ _ _ _ _
      | exact psalterylaw05_knows.mono _
      | exact psalteryref03_Log2.mono _ _
      | exact LeO.none _
      | refine LeO.ite ?_ ?_
      | refine LeO.bind ?_ (fun _ => ?_)
def psalterylaw05_CoderShort.T7 : Bool × List (List Nat × List Nat) := (true, [([], []), ([], []), ([], []), ([1, 2], [1, 2]), ([3], [3]), ([4], [4]), ([], []), ([], []), ([6, 7], [6, 7]), ([8], [8]), ([9], [9]), ([], []), ([], []), ([11, 12], [11, 12]), ([13], [13]), ([14], [14]), ([0, 5, 10, 15], [0, 5, 10, 15]), ([16], [16]), ([17], [17]), ([17], [17]), ([], []), ([20, 18, 16, 0, 1, 2, 3, 4, 5, 6, 7, 8, 9, 10, 11, 12, 13, 14, 15, 16, 17, 18, 20], [18, 20]), ([19, 21, 0, 1, 2, 3, 4, 5, 6, 7, 8, 9, 10, 11, 12, 13, 14, 15, 16, 17, 18, 19, 20, 21], [19])])
def psalterylaw05_CoderShort.B7 : List Nat := [0, 0, 0, 6, 14, 30, 0, 0, 192, 448, 960, 0, 0, 6144, 14336, 30720, 65535, 131071, 262143, 262143, 0, 1572863, 4194303]
theorem psalterylaw05_CoderShort.tab7 : rtab .any (opsOf Try.f5 7) = psalterylaw05_CoderShort.T7 := by kernel_rfl
theorem psalterylaw05_CoderShort.bits7 : waitsOk psalterylaw05_CoderShort.T7.2 psalterylaw05_CoderShort.B7 = true := by kernel_rfl
set_option maxHeartbeats 8000000 in
set_option maxRecDepth 100000 in
theorem psalterylaw05_CoderShort.calls (k : Nat) (A0 : Option Addr) (c0 : Nat) (l0 : List (S53)) (r : Bool) (w : World) (hr0 : Kd.C k53 w A0 l0.length l0) (hc0 : l0.length ≤ c0) (h : psalterylaw05_CoderShort.f k l0 = some r) :
    Calls Try.prog 5 #[.slice A0 l0.length c0] w fun e w' => e = .returned (.bool r) ∧ Below w.heap.size w w' := by
  have hu26 := Try.underlying26
  have HR0 := Aside0.mk hr0
  have HC0 := Aside0.mk hc0
  clear hr0 hc0
  have HB := Aside0.mk (Below.refl w.heap.size w)
  have H : ((coder_New.f).bind fun bt312 => (psalterylaw05_CoderShort.l0 k l0 0 1 0 bt312.1 bt312.2.1 bt312.2.2)) = some r := h
  clear h
  replace H := Option.bind_eq_some_iff.mp H
  obtain ⟨⟨t312, t313, t314⟩, A20, H⟩ := H
  replace H : (psalterylaw05_CoderShort.l0 k l0 0 1 0 t312 t313 t314) = some r := H
  have A2 := Aside0.mk A20
  clear A20
  have H' := Aside0.mk H
  clear H
  go_enter Try.func5, Try.ntmps5
  go_wp2_with (first | ((with_reducible refine gate_callee (f := 29) rfl ?_); refine goesL_ (some 9) rfl rfl Try.func29 (by kernel_rfl) rfl #[] rfl (by (try simp only [List.map_toArray, List.map_cons, List.map_nil]); first | done | rfl | (simp only [List.length_drop, List.length_take]; rfl)) ?_; (with_reducible refine (coder_New.calls  t312 t313 t314 _ A2.out).mono ?_); rintro e w3 ⟨v315, rfl, ho0, hb⟩; refine ⟨_, rfl, ?_⟩; have n0_ := Aside0.mk (Kd.R_lower ho0 (below_size (by repeat (first | (with_reducible first | exact HB.out | apply below_alloc | apply pw_below_drewN | apply below_drew1) | exact HB.out)))); have n1_ := Aside0.mk (below_step (by repeat (first | (with_reducible first | exact HB.out | apply below_alloc | apply pw_below_drewN | apply below_drew1) | exact HB.out)) hb); clear HB; have HO316 := n0_; have HB := n1_; clear n0_ n1_; (try clear hb); (try clear hb2); (try clear hk); (try clear hi); (try clear ho0)) | ((with_reducible refine gate_dst (N := 3) rfl ?_); refine box_event ?hg (N := 3) ?hd (cs := #[.int .u64 0, .int .u32 0, .slice none 0 0]) (t := 26) ?hr ?_; (case hd => rfl); (case hg => rfl); (case hr => first | (go_simp; done) | (go_simp; rfl)); intro gb317 hg w4 hbox hb; have n0_ := Aside0.mk (Kd.R_below (by (with_reducible repeat (first | apply Kd.R_alloc | apply Kd.R_drewN | apply Kd.R_drew)); exact HO316.out) hb); have n1_ := Aside0.mk (below_step (by repeat (first | (with_reducible first | exact HB.out | apply below_alloc | apply pw_below_drewN | apply below_drew1) | exact HB.out)) hb); have n2_ := Aside0.mk (hbox); have n3_ := Aside0.mk ((by rw [hg]; exact (below_size (by repeat (first | (with_reducible first | exact HB.out | apply below_alloc | apply pw_below_drewN | apply below_drew1) | exact HB.out))) : w.heap.size ≤ gb317)); have n4_ := Aside0.mk ((by rw [hg]; exact (below_size (by repeat (first | (with_reducible first | exact HB.out | apply below_alloc | apply pw_below_drewN | apply below_drew1) | exact HB.out))) : w.heap.size ≤ gb317)); clear HO316; clear HB; have HO316 := n0_; have HB := n1_; have BK317 := n2_; have GW317 := n3_; have GE317 := n4_; clear n0_ n1_ n2_ n3_ n4_; clear hb hbox hg; have hcz5_0 : w4.cell? ⟨gb317, 0, none⟩ = some (.int .u64 0) := (blk_cell BK317.out 0).trans rfl; have hcz5_1 : w4.cell? ⟨gb317, 1, none⟩ = some (.int .u32 0) := (blk_cell BK317.out 1).trans rfl; have hcz5_2 : w4.cell? ⟨gb317, 2, none⟩ = some (.slice none 0 0) := (blk_cell BK317.out 2).trans rfl; have hfz5_0 := blk_frozen BK317.out 0; have hfz5_1 := blk_frozen BK317.out 1; have hfz5_2 := blk_frozen BK317.out 2; obtain ⟨Ao6, co6, eo6⟩ := Kd.R_slice HO316.out; subst eo6))
  go_loopg [4, 5, 6] k (fun kq v4 v5 v6 w' => ∃ (x4_1 : Int) (x5_1 : Int) (x6_1 : Int) (x318000_1 : Int) (x318001_1 : Int) (x318002_1 : List Int) (u318002 : Value), v4 = .int .i64 x4_1 ∧ v5 = .int .i64 x5_1 ∧ v6 = .int .i64 x6_1 ∧ Aside0 (psalterylaw05_CoderShort.l0 kq l0 x4_1 x5_1 x6_1 x318000_1 x318001_1 x318002_1 = some r) ∧ Aside0 (kq ≤ k) ∧ Aside0 (Kd.R (Kd.int .u8) 5 w' w.heap.size (fun _ => True) u318002 x318002_1) ∧ Aside0 (w'.heap[gb317]? = some (.cells #[.int .u64 x318000_1, .int .u32 x318001_1, u318002] 26 (0, 0))) ∧ Aside0 (Below w.heap.size w w'))
  case atStart => exact ⟨(0), (1), (0), (t312), (t313), (t314), (.slice Ao6 t314.length co6), (by first | rfl | (simp; done) | (simp [*]; done)), (by first | rfl | (simp; done) | (simp [*]; done)), (by first | rfl | (simp; done) | (simp [*]; done)), H', ⟨Nat.le_refl _⟩, ⟨by (with_reducible repeat (first | apply Kd.R_alloc | apply Kd.R_drewN | apply Kd.R_drew)); exact Kd.R_mono (Kd.R_far (p := ⟨gb317, 2, none⟩) (Kd.R_far (p := ⟨gb317, 1, none⟩) (Kd.R_far (p := ⟨gb317, 0, none⟩) (Kd.R_types HO316.out BK317.out (by decide)) (fun _ hk => hk.2) (.int .u64 t312)) (fun _ hk => hk.2) (.int .u32 t313)) (fun _ hk => hk.2) (.slice Ao6 t314.length co6)) (fun _ hk => trivial)⟩, ⟨by (with_reducible repeat (first | refine blk_drewN ?_ _ | refine blk_drew ?_ | refine blk_alloc ?_ _)); refine blk_put (cs := #[.int .u64 t312, .int .u32 t313, .slice none 0 0]) ?_ 2 _ rfl; (with_reducible repeat (first | refine blk_drewN ?_ _ | refine blk_drew ?_ | refine blk_alloc ?_ _)); refine blk_put (cs := #[.int .u64 t312, .int .u32 0, .slice none 0 0]) ?_ 1 _ rfl; (with_reducible repeat (first | refine blk_drewN ?_ _ | refine blk_drew ?_ | refine blk_alloc ?_ _)); refine blk_put (cs := #[.int .u64 0, .int .u32 0, .slice none 0 0]) ?_ 0 _ rfl; (with_reducible repeat (first | refine blk_drewN ?_ _ | refine blk_drew ?_ | refine blk_alloc ?_ _)); exact BK317.out⟩, ⟨by repeat (first | (with_reducible first | exact HB.out | apply below_alloc | apply pw_below_drewN | apply below_drew1 | refine below_set ?_ GE317.out) | exact HB.out)⟩⟩
  case round =>
    clear H'
    try clear c2
    try clear p2
    try clear c5
    try clear hcz5_0
    try clear hcz5_1
    try clear hcz5_2
    try clear hfz5_0
    try clear hfz5_1
    try clear hfz5_2
    obtain ⟨x4_1, x5_1, x6_1, x318000_1, x318001_1, x318002_1, u318002, rfl, rfl, rfl, HA, HK1, HO_318002, BK317, HB⟩ := hrel
    cases gk with
    | zero => exact absurd HA.out (by simp [psalterylaw05_CoderShort.l0])
    | succ k1 =>
      have H := HA.out
      clear HA
      simp only [psalterylaw05_CoderShort.l0] at H
      have HC7 := Aside0.mk H
      clear H
      go_upto_region 5 with (fail)
      go_cut [17] (fun v17 wc => ∃ (kq : Nat) (x17_6 : Bool), v17 = .bool x17_6 ∧ Aside0 (psalterylaw05_CoderShort.j1 kq l0 x4_1 x5_1 x6_1 x17_6 x318000_1 x318001_1 x318002_1 = some r) ∧ Aside0 (kq ≤ k1) ∧ Aside0 (Kd.R (Kd.int .u8) 5 wc w.heap.size (fun _ => True) u318002 x318002_1) ∧ Aside0 (wc.heap[gb317]? = some (.cells #[.int .u64 x318000_1, .int .u32 x318001_1, u318002] 26 (0, 0))) ∧ Aside0 (Below w.heap.size w wc))
      case first =>
        have H := HC7.out
        clear HC7
        by_cases c8 : x6_1 < (l0.length : Int)
        · rw [if_pos c8] at H
          have c8b0 : decide (x6_1 < (l0.length : Int)) = true := decide_eq_true c8
          clear c8
          (first | rw [c8b0] | (simp only [i64_w, i32_w]; rw [c8b0]) | skip)
          have H' := Aside0.mk H
          clear H
          go_wp2
          go_meet
          case rel => exact ⟨_, (decide (x6_1 < 300)), (by first | rfl | (simp; done) | (simp [*]; done)), H', ⟨by have := HK1.out; first | omega | exact Nat.le_refl _⟩, ⟨by (with_reducible repeat (first | apply Kd.R_alloc | apply Kd.R_drewN | apply Kd.R_drew)); exact HO_318002.out⟩, ⟨by (with_reducible repeat (first | refine blk_drewN ?_ _ | refine blk_drew ?_ | refine blk_alloc ?_ _)); exact BK317.out⟩, ⟨by repeat (first | (with_reducible first | exact HB.out | apply below_alloc | apply pw_below_drewN | apply below_drew1 | refine below_set ?_ GE317.out) | exact HB.out)⟩⟩
        · rw [if_neg c8] at H
          have c8b0 : decide (x6_1 < (l0.length : Int)) = false := decide_eq_false c8
          clear c8
          (first | rw [c8b0] | (simp only [i64_w, i32_w]; rw [c8b0]) | skip)
          have H' := Aside0.mk H
          clear H
          go_wp2
          go_meet
          case rel => exact ⟨_, (false), (by first | rfl | (simp; done) | (simp [*]; done)), H', ⟨by have := HK1.out; first | omega | exact Nat.le_refl _⟩, ⟨by (with_reducible repeat (first | apply Kd.R_alloc | apply Kd.R_drewN | apply Kd.R_drew)); exact HO_318002.out⟩, ⟨by (with_reducible repeat (first | refine blk_drewN ?_ _ | refine blk_drew ?_ | refine blk_alloc ?_ _)); exact BK317.out⟩, ⟨by repeat (first | (with_reducible first | exact HB.out | apply below_alloc | apply pw_below_drewN | apply below_drew1 | refine below_set ?_ GE317.out) | exact HB.out)⟩⟩
      case rest =>
        clear HC7
        try clear c2
        try clear p2
        try clear c5
        try clear c8
        try clear c8b0
        try clear hcz5_0
        try clear hcz5_1
        try clear hcz5_2
        try clear hfz5_0
        try clear hfz5_1
        try clear hfz5_2
        try clear p2
        obtain ⟨kq, x17_6, rfl, HA, HJ6, HO_318002, BK317, HB⟩ := hcut
        cases kq with
        | zero => exact absurd HA.out (by simp [psalterylaw05_CoderShort.j1])
        | succ kj6 =>
          have H := HA.out
          clear HA
          simp only [psalterylaw05_CoderShort.j1] at H
          by_cases c9 : x17_6 = true
          · subst c9
            have H1 : (if 0 ≤ x6_1 then (if x6_1 < (l0.length : Int) then ((coder_Put.f kj6 x318000_1 x318001_1 x318002_1 ((rd_T53 l0 x6_1).f0) ((rd_T53 l0 x6_1).f1) ((rd_T53 l0 x6_1).f2)).bind fun bt322 => (if bt322.2.2.2 = 0 then ((psalteryref03_Log2.f kj6 (IntKind.u64.wrap ((IntKind.u64.wrap ((rd_T53 l0 x6_1).f2)) - 1))).bind fun t330 => (psalterylaw05_CoderShort.l0 kj6 l0 (wrap64 (x4_1 + 1)) (wrap64 ((wrap64 (x5_1 + 1)) + t330)) (wrap64 (x6_1 + 1)) bt322.1 bt322.2.1 bt322.2.2.1)) else (psalterylaw05_CoderShort.l0 kj6 l0 x4_1 x5_1 (wrap64 (x6_1 + 1)) bt322.1 bt322.2.1 bt322.2.2.1))) else (none)) else (none)) = some r := by rw [if_pos rfl] at H; exact H
            clear H
            have H := H1
            clear H1
            by_cases c10 : 0 ≤ x6_1
            · rw [if_pos c10] at H
              have c10b0 : decide (0 ≤ x6_1) = true := decide_eq_true c10
              clear c10
              by_cases c11 : x6_1 < (l0.length : Int)
              · rw [if_pos c11] at H
                have c11b0 : decide (x6_1 < (l0.length : Int)) = true := decide_eq_true c11
                clear c11
                replace H := Option.bind_eq_some_iff.mp H
                obtain ⟨⟨t322, t323, t324, t327⟩, A120, H⟩ := H
                replace H : (if t327 = 0 then ((psalteryref03_Log2.f kj6 (IntKind.u64.wrap ((IntKind.u64.wrap ((rd_T53 l0 x6_1).f2)) - 1))).bind fun t330 => (psalterylaw05_CoderShort.l0 kj6 l0 (wrap64 (x4_1 + 1)) (wrap64 ((wrap64 (x5_1 + 1)) + t330)) (wrap64 (x6_1 + 1)) t322 t323 t324)) else (psalterylaw05_CoderShort.l0 kj6 l0 x4_1 x5_1 (wrap64 (x6_1 + 1)) t322 t323 t324)) = some r := H
                have A12 := Aside0.mk A120
                clear A120
                by_cases c13 : t327 = 0
                · rw [if_pos c13] at H
                  have c13b0 : (t327 == 0) = true := beq_iff_eq.mpr c13
                  have c13b1 : (t327 != 0) = false := bne_eq_false_iff_eq.mpr c13
                  clear c13
                  replace H := Option.bind_eq_some_iff.mp H
                  obtain ⟨t330, A140, H⟩ := H
                  replace H : (psalterylaw05_CoderShort.l0 kj6 l0 (wrap64 (x4_1 + 1)) (wrap64 ((wrap64 (x5_1 + 1)) + t330)) (wrap64 (x6_1 + 1)) t322 t323 t324) = some r := H
                  have A14 := Aside0.mk A140
                  clear A140
                  have H' := Aside0.mk H
                  clear H
                  obtain ⟨Ao15, co15, eo15⟩ := Kd.R_slice HO_318002.out
                  subst eo15
                  try go_wp2
                  have n0_ := Aside0.mk (Kd.R_drew HO_318002.out)
                  have n1_ := Aside0.mk (blk_drew BK317.out)
                  have n2_ := Aside0.mk (below_drew1 HB.out)
                  clear HO_318002
                  clear BK317
                  clear HB
                  have HO_318002 := n0_
                  have BK317 := n1_
                  have HB := n2_
                  clear n0_ n1_ n2_
                  have p319 : 0 ≤ (x6_1 : Int) := of_decide_eq_true (by first | (with_reducible assumption) | assumption)
                  have q319 : x6_1 < (l0.length : Int) := of_decide_eq_true (by first | (with_reducible assumption) | assumption)
                  obtain ⟨ad319, e319, hx319_0, hx319_1, hx319_2⟩ := at_T53 HR0.out x6_1 p319 q319
                  have hw319_2 := hx319_2
                  have hw319_1 := hx319_1
                  have hw319_0 := hx319_0
                  cases e319
                  replace hx319_0 := (HB.out.cell (World.block_lt_of_cell? w _ hx319_0)).trans hx319_0
                  replace hx319_1 := (HB.out.cell (World.block_lt_of_cell? w _ hx319_1)).trans hx319_1
                  replace hx319_2 := (HB.out.cell (World.block_lt_of_cell? w _ hx319_2)).trans hx319_2
                  replace p319 := eq_true p319
                  replace q319 := eq_true q319
                  have p320 : 0 ≤ (x6_1 : Int) := of_decide_eq_true (by first | (with_reducible assumption) | assumption)
                  have q320 : x6_1 < (l0.length : Int) := of_decide_eq_true (by first | (with_reducible assumption) | assumption)
                  obtain ⟨ad320, e320, hx320_0, hx320_1, hx320_2⟩ := at_T53 HR0.out x6_1 p320 q320
                  have hw320_2 := hx320_2
                  have hw320_1 := hx320_1
                  have hw320_0 := hx320_0
                  obtain rfl : ad319 = ad320 := (by injection e320)
                  replace hx320_0 := (HB.out.cell (World.block_lt_of_cell? w _ hx320_0)).trans hx320_0
                  replace hx320_1 := (HB.out.cell (World.block_lt_of_cell? w _ hx320_1)).trans hx320_1
                  replace hx320_2 := (HB.out.cell (World.block_lt_of_cell? w _ hx320_2)).trans hx320_2
                  replace p320 := eq_true p320
                  replace q320 := eq_true q320
                  have p321 : 0 ≤ (x6_1 : Int) := of_decide_eq_true (by first | (with_reducible assumption) | assumption)
                  have q321 : x6_1 < (l0.length : Int) := of_decide_eq_true (by first | (with_reducible assumption) | assumption)
                  obtain ⟨ad321, e321, hx321_0, hx321_1, hx321_2⟩ := at_T53 HR0.out x6_1 p321 q321
                  have hw321_2 := hx321_2
                  have hw321_1 := hx321_1
                  have hw321_0 := hx321_0
                  obtain rfl : ad319 = ad321 := (by injection e321)
                  replace hx321_0 := (HB.out.cell (World.block_lt_of_cell? w _ hx321_0)).trans hx321_0
                  replace hx321_1 := (HB.out.cell (World.block_lt_of_cell? w _ hx321_1)).trans hx321_1
                  replace hx321_2 := (HB.out.cell (World.block_lt_of_cell? w _ hx321_2)).trans hx321_2
                  replace p321 := eq_true p321
                  replace q321 := eq_true q321
                  refine start_ (n := 23) (S := fun w' => w'.cell? ⟨gb317, 0, none⟩ = some (.int .u64 x318000_1) ∧ w'.cell? ⟨gb317, 1, none⟩ = some (.int .u32 x318001_1) ∧ w'.cell? ⟨gb317, 2, none⟩ = some (.slice Ao15 x318002_1.length co15) ∧ w'.cell? (ad319.add ((x6_1).toNat * 3)) = some (.int .i64 ((rd_T53 l0 x6_1).f0)) ∧ w'.cell? ⟨(ad319.add ((x6_1).toNat * 3)).block, (ad319.add ((x6_1).toNat * 3)).off + 1, none⟩ = some (.int .i64 ((rd_T53 l0 x6_1).f1)) ∧ w'.cell? ⟨(ad319.add ((x6_1).toNat * 3)).block, (ad319.add ((x6_1).toNat * 3)).off + 2, none⟩ = some (.int .i64 ((rd_T53 l0 x6_1).f2)) ∧ w'.cell? (ad319.add ((x6_1).toNat * 3)) = some (.int .i64 ((rd_T53 l0 x6_1).f0)) ∧ w'.cell? ⟨(ad319.add ((x6_1).toNat * 3)).block, (ad319.add ((x6_1).toNat * 3)).off + 1, none⟩ = some (.int .i64 ((rd_T53 l0 x6_1).f1)) ∧ w'.cell? ⟨(ad319.add ((x6_1).toNat * 3)).block, (ad319.add ((x6_1).toNat * 3)).off + 2, none⟩ = some (.int .i64 ((rd_T53 l0 x6_1).f2)) ∧ w'.cell? (ad319.add ((x6_1).toNat * 3)) = some (.int .i64 ((rd_T53 l0 x6_1).f0)) ∧ w'.cell? ⟨(ad319.add ((x6_1).toNat * 3)).block, (ad319.add ((x6_1).toNat * 3)).off + 1, none⟩ = some (.int .i64 ((rd_T53 l0 x6_1).f1)) ∧ w'.cell? ⟨(ad319.add ((x6_1).toNat * 3)).block, (ad319.add ((x6_1).toNat * 3)).off + 2, none⟩ = some (.int .i64 ((rd_T53 l0 x6_1).f2))) (ds := []) #[false, false, false, false, false, false, false, false, false, false, false, false, false, false, false, false, false, false, false, false, false, false, false] (by kernel_rfl) rfl rfl ⟨(blk_cell BK317.out 0).trans rfl, (blk_cell BK317.out 1).trans rfl, (blk_cell BK317.out 2).trans rfl, ((HB.out.cell (World.block_lt_of_cell? w _ hw319_0)).trans hw319_0), ((HB.out.cell (World.block_lt_of_cell? w _ hw319_1)).trans hw319_1), ((HB.out.cell (World.block_lt_of_cell? w _ hw319_2)).trans hw319_2), ((HB.out.cell (World.block_lt_of_cell? w _ hw320_0)).trans hw320_0), ((HB.out.cell (World.block_lt_of_cell? w _ hw320_1)).trans hw320_1), ((HB.out.cell (World.block_lt_of_cell? w _ hw320_2)).trans hw320_2), ((HB.out.cell (World.block_lt_of_cell? w _ hw321_0)).trans hw321_0), ((HB.out.cell (World.block_lt_of_cell? w _ hw321_1)).trans hw321_1), ((HB.out.cell (World.block_lt_of_cell? w _ hw321_2)).trans hw321_2)⟩ (fun hHeld => ?_); refine with_tabW psalterylaw05_CoderShort.tab7 psalterylaw05_CoderShort.bits7 (fun HT_ HW_ => ?_)
                  generalize wc.drew = w16 at HO_318002 BK317 HB hx319_0 hx319_1 hx319_2 hx320_0 hx320_1 hx320_2 hx321_0 hx321_1 hx321_2 hHeld ⊢
                  refine pure_ (i := 1) (N := some 22) (v := ?_) (a' := ?_) #[false, true, false, false, false, false, false, false, false, false, false, false, false, false, false, false, false, false, false, false, false, false, false] rfl rfl (any_of HT_.out (by kernel_rfl)) (fun _ _ _ h => h) (Or.inl ⟨by rfl, ?_⟩) ?_ ?_
                  rotate_left
                  · intro w'
                    go_simp
                    with_reducible rfl
                  rotate_left
                  · simp only [Act.put, List.setIfInBounds_toArray, List.set_cons_zero, List.set_cons_succ, i64_w, i32_w]
                    rfl
                  refine pure_ (i := 2) (N := some 23) (v := ?_) (a' := ?_) #[false, true, true, false, false, false, false, false, false, false, false, false, false, false, false, false, false, false, false, false, false, false, false] rfl rfl (any_of HT_.out (by kernel_rfl)) (fun _ _ _ h => h) (Or.inl ⟨by rfl, ?_⟩) ?_ ?_
                  rotate_left
                  · intro w'
                    go_simp
                    with_reducible rfl
                  rotate_left
                  · simp only [Act.put, List.setIfInBounds_toArray, List.set_cons_zero, List.set_cons_succ, i64_w, i32_w]
                    rfl
                  refine pure_ (i := 3) (N := some 24) (v := ?_) (a' := ?_) #[false, true, true, true, false, false, false, false, false, false, false, false, false, false, false, false, false, false, false, false, false, false, false] rfl rfl (any_of HT_.out (by kernel_rfl)) (fun _ _ _ h => h) (Or.inl ⟨by rfl, ?_⟩) ?_ ?_
                  rotate_left
                  · intro w'
                    go_simp
                    with_reducible rfl
                  rotate_left
                  · simp only [Act.put, List.setIfInBounds_toArray, List.set_cons_zero, List.set_cons_succ, i64_w, i32_w]
                    rfl
                  refine pure_ (i := 4) (N := some 25) (v := ?_) (a' := ?_) #[false, true, true, true, true, false, false, false, false, false, false, false, false, false, false, false, false, false, false, false, false, false, false] rfl rfl (any_of HT_.out (by kernel_rfl)) (fun _ _ _ h => h) (Or.inl ⟨by rfl, ?_⟩) ?_ ?_
                  rotate_left
                  · intro w'
                    go_simp
                    with_reducible rfl
                  rotate_left
                  · simp only [Act.put, List.setIfInBounds_toArray, List.set_cons_zero, List.set_cons_succ, i64_w, i32_w]
                    rfl
                  refine pure_ (i := 6) (N := some 27) (v := ?_) (a' := ?_) #[false, true, true, true, true, false, true, false, false, false, false, false, false, false, false, false, false, false, false, false, false, false, false] rfl rfl (any_of HT_.out (by kernel_rfl)) (fun _ _ _ h => h) (Or.inl ⟨by rfl, ?_⟩) ?_ ?_
                  rotate_left
                  · intro w'
                    go_simp
                    with_reducible rfl
                  rotate_left
                  · simp only [Act.put, List.setIfInBounds_toArray, List.set_cons_zero, List.set_cons_succ, i64_w, i32_w]
                    rfl
                  refine pure_ (i := 7) (N := some 28) (v := ?_) (a' := ?_) #[false, true, true, true, true, false, true, true, false, false, false, false, false, false, false, false, false, false, false, false, false, false, false] rfl rfl (any_of HT_.out (by kernel_rfl)) (fun _ _ _ h => h) (Or.inl ⟨by rfl, ?_⟩) ?_ ?_
                  rotate_left
                  · intro w'
                    go_simp
                    with_reducible rfl
                  rotate_left
                  · simp only [Act.put, List.setIfInBounds_toArray, List.set_cons_zero, List.set_cons_succ, i64_w, i32_w]
                    rfl
                  refine pure_ (i := 8) (N := some 29) (v := ?_) (a' := ?_) #[false, true, true, true, true, false, true, true, true, false, false, false, false, false, false, false, false, false, false, false, false, false, false] rfl rfl (any_of HT_.out (by kernel_rfl)) (fun _ _ _ h => h) (Or.inl ⟨by rfl, ?_⟩) ?_ ?_
                  rotate_left
                  · intro w'
                    go_simp
                    with_reducible rfl
                  rotate_left
                  · simp only [Act.put, List.setIfInBounds_toArray, List.set_cons_zero, List.set_cons_succ, i64_w, i32_w]
                    rfl
                  refine pure_ (i := 9) (N := some 30) (v := ?_) (a' := ?_) #[false, true, true, true, true, false, true, true, true, true, false, false, false, false, false, false, false, false, false, false, false, false, false] rfl rfl (any_of HT_.out (by kernel_rfl)) (fun _ _ _ h => h) (Or.inl ⟨by rfl, ?_⟩) ?_ ?_
                  rotate_left
                  · intro w'
                    go_simp
                    with_reducible rfl
                  rotate_left
                  · simp only [Act.put, List.setIfInBounds_toArray, List.set_cons_zero, List.set_cons_succ, i64_w, i32_w]
                    rfl
                  refine pure_ (i := 11) (N := some 32) (v := ?_) (a' := ?_) #[false, true, true, true, true, false, true, true, true, true, false, true, false, false, false, false, false, false, false, false, false, false, false] rfl rfl (any_of HT_.out (by kernel_rfl)) (fun _ _ _ h => h) (Or.inl ⟨by rfl, ?_⟩) ?_ ?_
                  rotate_left
                  · intro w'
                    go_simp
                    with_reducible rfl
                  rotate_left
                  · simp only [Act.put, List.setIfInBounds_toArray, List.set_cons_zero, List.set_cons_succ, i64_w, i32_w]
                    rfl
                  refine pure_ (i := 12) (N := some 33) (v := ?_) (a' := ?_) #[false, true, true, true, true, false, true, true, true, true, false, true, true, false, false, false, false, false, false, false, false, false, false] rfl rfl (any_of HT_.out (by kernel_rfl)) (fun _ _ _ h => h) (Or.inl ⟨by rfl, ?_⟩) ?_ ?_
                  rotate_left
                  · intro w'
                    go_simp
                    with_reducible rfl
                  rotate_left
                  · simp only [Act.put, List.setIfInBounds_toArray, List.set_cons_zero, List.set_cons_succ, i64_w, i32_w]
                    rfl
                  refine pure_ (i := 13) (N := some 34) (v := ?_) (a' := ?_) #[false, true, true, true, true, false, true, true, true, true, false, true, true, true, false, false, false, false, false, false, false, false, false] rfl rfl (any_of HT_.out (by kernel_rfl)) (fun _ _ _ h => h) (Or.inl ⟨by rfl, ?_⟩) ?_ ?_
                  rotate_left
                  · intro w'
                    go_simp
                    with_reducible rfl
                  rotate_left
                  · simp only [Act.put, List.setIfInBounds_toArray, List.set_cons_zero, List.set_cons_succ, i64_w, i32_w]
                    rfl
                  refine pure_ (i := 14) (N := some 35) (v := ?_) (a' := ?_) #[false, true, true, true, true, false, true, true, true, true, false, true, true, true, true, false, false, false, false, false, false, false, false] rfl rfl (any_of HT_.out (by kernel_rfl)) (fun _ _ _ h => h) (Or.inl ⟨by rfl, ?_⟩) ?_ ?_
                  rotate_left
                  · intro w'
                    go_simp
                    with_reducible rfl
                  rotate_left
                  · simp only [Act.put, List.setIfInBounds_toArray, List.set_cons_zero, List.set_cons_succ, i64_w, i32_w]
                    rfl
                  refine take_ (i := 0) (N := some 21) (v := ?_) (a' := ?_) #[true, true, true, true, true, false, true, true, true, true, false, true, true, true, true, false, false, false, false, false, false, false, false] rfl rfl (take_ofW HT_.out HW_.out (by kernel_rfl)) (fun _ _ _ h => h) (Or.inl ⟨by rfl, ?_⟩) hHeld ?_ ?_
                  rotate_left
                  · rintro w' ⟨s0, s1, s2, s3, s4, s5, s6, s7, s8, s9, s10, s11⟩
                    go_simp
                    with_reducible rfl
                  rotate_left
                  · simp only [Act.put, List.setIfInBounds_toArray, List.set_cons_zero, List.set_cons_succ, i64_w, i32_w]
                    rfl
                  refine take_ (i := 5) (N := some 26) (v := ?_) (a' := ?_) #[true, true, true, true, true, true, true, true, true, true, false, true, true, true, true, false, false, false, false, false, false, false, false] rfl rfl (take_ofW HT_.out HW_.out (by kernel_rfl)) (fun _ _ _ h => h) (Or.inl ⟨by rfl, ?_⟩) hHeld ?_ ?_
                  rotate_left
                  · rintro w' ⟨s0, s1, s2, s3, s4, s5, s6, s7, s8, s9, s10, s11⟩
                    go_simp
                    with_reducible rfl
                  rotate_left
                  · simp only [Act.put, List.setIfInBounds_toArray, List.set_cons_zero, List.set_cons_succ, i64_w, i32_w]
                    rfl
                  refine take_ (i := 10) (N := some 31) (v := ?_) (a' := ?_) #[true, true, true, true, true, true, true, true, true, true, true, true, true, true, true, false, false, false, false, false, false, false, false] rfl rfl (take_ofW HT_.out HW_.out (by kernel_rfl)) (fun _ _ _ h => h) (Or.inl ⟨by rfl, ?_⟩) hHeld ?_ ?_
                  rotate_left
                  · rintro w' ⟨s0, s1, s2, s3, s4, s5, s6, s7, s8, s9, s10, s11⟩
                    go_simp
                    with_reducible rfl
                  rotate_left
                  · simp only [Act.put, List.setIfInBounds_toArray, List.set_cons_zero, List.set_cons_succ, i64_w, i32_w]
                    rfl
                  refine take_ (i := 15) (N := some 36) (v := ?_) (a' := ?_) #[true, true, true, true, true, true, true, true, true, true, true, true, true, true, true, true, false, false, false, false, false, false, false] rfl rfl (take_ofW HT_.out HW_.out (by kernel_rfl)) (fun _ _ _ h => h) (Or.inl ⟨by rfl, ?_⟩) hHeld ?_ ?_
                  rotate_left
                  · rintro w' ⟨s0, s1, s2, s3, s4, s5, s6, s7, s8, s9, s10, s11⟩
                    go_simp
                    with_reducible rfl
                  rotate_left
                  · simp only [Act.put, List.setIfInBounds_toArray, List.set_cons_zero, List.set_cons_succ, i64_w, i32_w]
                    rfl
                  refine join_ (σ := Value × Nat) 2 #[true, true, true, true, true, true, true, true, true, true, true, true, true, true, true, true, true, true, true, true, true, false, false] (fun s_ => [(37, .tuple #[.agg #[.int .u64 t322, .int .u32 t323, s_.1], .int .i64 t327]), (7, .pointer (some ⟨s_.2, 0, none⟩)), (20, .tuple #[.agg #[.int .u64 t322, .int .u32 t323, s_.1], .int .i64 t327]), (38, .agg #[.int .u64 t322, .int .u32 t323, s_.1]), (39, .int .i64 t327)]) (fun s_ w' => (w'.cell? ⟨gb317, 0, none⟩ = some (.int .u64 x318000_1) ∧ w'.cell? ⟨gb317, 1, none⟩ = some (.int .u32 x318001_1) ∧ w'.cell? ⟨gb317, 2, none⟩ = some (.slice Ao15 x318002_1.length co15) ∧ w'.cell? (ad319.add ((x6_1).toNat * 3)) = some (.int .i64 ((rd_T53 l0 x6_1).f0)) ∧ w'.cell? ⟨(ad319.add ((x6_1).toNat * 3)).block, (ad319.add ((x6_1).toNat * 3)).off + 1, none⟩ = some (.int .i64 ((rd_T53 l0 x6_1).f1)) ∧ w'.cell? ⟨(ad319.add ((x6_1).toNat * 3)).block, (ad319.add ((x6_1).toNat * 3)).off + 2, none⟩ = some (.int .i64 ((rd_T53 l0 x6_1).f2)) ∧ w'.cell? (ad319.add ((x6_1).toNat * 3)) = some (.int .i64 ((rd_T53 l0 x6_1).f0)) ∧ w'.cell? ⟨(ad319.add ((x6_1).toNat * 3)).block, (ad319.add ((x6_1).toNat * 3)).off + 1, none⟩ = some (.int .i64 ((rd_T53 l0 x6_1).f1)) ∧ w'.cell? ⟨(ad319.add ((x6_1).toNat * 3)).block, (ad319.add ((x6_1).toNat * 3)).off + 2, none⟩ = some (.int .i64 ((rd_T53 l0 x6_1).f2)) ∧ w'.cell? (ad319.add ((x6_1).toNat * 3)) = some (.int .i64 ((rd_T53 l0 x6_1).f0)) ∧ w'.cell? ⟨(ad319.add ((x6_1).toNat * 3)).block, (ad319.add ((x6_1).toNat * 3)).off + 1, none⟩ = some (.int .i64 ((rd_T53 l0 x6_1).f1)) ∧ w'.cell? ⟨(ad319.add ((x6_1).toNat * 3)).block, (ad319.add ((x6_1).toNat * 3)).off + 2, none⟩ = some (.int .i64 ((rd_T53 l0 x6_1).f2))) ∧ (Kd.R (Kd.int .u8) 5 w' w.heap.size (fun k_ => some k_ ≠ (.slice Ao15 x318002_1.length co15 : Value).ownBlock) s_.1 t324) ∧ (Kd.R (Kd.int .u8) 5 w' w.heap.size (fun k_ => some k_ ≠ (s_.1 : Value).ownBlock) (.slice Ao15 x318002_1.length co15) x318002_1) ∧ (w'.heap[gb317]? = some (.cells #[.int .u64 x318000_1, .int .u32 x318001_1, .slice Ao15 x318002_1.length co15] 26 (0, 0))) ∧ (w'.heap[s_.2]? = some (.cells #[.int .u64 0, .int .u32 0, .slice none 0 0] 26 (0, 0))) ∧ (w.heap.size ≤ s_.2) ∧ (w.heap.size ≤ s_.2) ∧ (gb317 ≠ s_.2) ∧ (s_.2 ≠ gb317) ∧ (Below w.heap.size w w')) ?_ ?_
                  rotate_left
                  · intro hCont
                    refine two_ (i := 16) (j := 20) (Ni := some 37) (Nj := some 7) #[true, true, true, true, true, true, true, true, true, true, true, true, true, true, true, true, true, false, false, false, false, false, false] #[true, true, true, true, true, true, true, true, true, true, true, true, true, true, true, true, false, false, false, false, true, false, false] rfl rfl rfl rfl (two_of HT_.out (by kernel_rfl)) (by decide) (by decide) (fun K hK => ?_) (fun K hK => ?_)
                    · skip
                      refine goes_ Try.func18 (by kernel_rfl) rfl #[.agg #[.int .u64 x318000_1, .int .u32 x318001_1, .slice Ao15 x318002_1.length co15], .int .i64 ((rd_T53 l0 x6_1).f0), .int .i64 ((rd_T53 l0 x6_1).f1), .int .i64 ((rd_T53 l0 x6_1).f2)] (by rfl) rfl rfl (by (try simp only [List.map_toArray, List.map_cons, List.map_nil]); first | done | rfl | (simp only [List.length_drop, List.length_take]; rfl)) ?_
                      with_reducible refine (coder_Put.calls kj6 x318000_1 x318001_1 _ _ x318002_1 ((rd_T53 l0 x6_1).f0) ((rd_T53 l0 x6_1).f1) ((rd_T53 l0 x6_1).f2) t322 t323 t324 t327 _ ?side1 ?side2 A12.out).mono ?_
                      (case side1 => repeat (first | exact (Kd.R_reads' HO_318002.out).2.2 | (with_reducible refine Kd.C_alloc ?_ _) | (with_reducible refine Kd.C_drewN ?_ _) | (with_reducible refine Kd.C_drew ?_)))
                      (case side2 => exact (Kd.R_reads' HO_318002.out).2.1)
                      rintro e w17 ⟨v325, rfl, ho0, hb⟩
                      refine ⟨_, rfl, ?_⟩
                      have n0_ := Aside0.mk (Kd.R_elder' (by (with_reducible repeat (first | apply Kd.R_alloc | apply Kd.R_drewN | apply Kd.R_drew)); exact HO_318002.out) (Kd.R_base ho0) hb)
                      have n1_ := Aside0.mk (Kd.R_lower (Kd.R_new' ho0 (Kd.R_lt (by (with_reducible repeat (first | apply Kd.R_alloc | apply Kd.R_drewN | apply Kd.R_drew)); exact HO_318002.out))) (below_size (by repeat (first | (with_reducible first | exact HB.out | apply below_alloc | apply pw_below_drewN | apply below_drew1 | refine below_set ?_ GE317.out) | exact HB.out))))
                      have n2_ := Aside0.mk (blk_below (g := gb317) (o := .cells #[.int .u64 x318000_1, .int .u32 x318001_1, .slice Ao15 x318002_1.length co15] 26 (0, 0)) (by (with_reducible repeat (first | refine blk_drewN ?_ _ | refine blk_drew ?_ | refine blk_alloc ?_ _)); exact BK317.out) hb)
                      have n3_ := Aside0.mk (below_step (by repeat (first | (with_reducible first | exact HB.out | apply below_alloc | apply pw_below_drewN | apply below_drew1 | refine below_set ?_ GE317.out) | exact HB.out)) hb)
                      clear HO_318002
                      clear BK317
                      clear HB
                      have HO_318002 := n0_
                      have HO326 := n1_
                      have BK317 := n2_
                      have HB := n3_
                      clear n0_ n1_ n2_ n3_
                      (try clear hb)
                      (try clear hb2)
                      (try clear hk)
                      (try clear hi)
                      (try clear ho0)
                      refine hK.out _ _ ⟨(blk_cell BK317.out 0).trans rfl, (blk_cell BK317.out 1).trans rfl, (blk_cell BK317.out 2).trans rfl, ((HB.out.cell (World.block_lt_of_cell? w _ hw319_0)).trans hw319_0), ((HB.out.cell (World.block_lt_of_cell? w _ hw319_1)).trans hw319_1), ((HB.out.cell (World.block_lt_of_cell? w _ hw319_2)).trans hw319_2), ((HB.out.cell (World.block_lt_of_cell? w _ hw320_0)).trans hw320_0), ((HB.out.cell (World.block_lt_of_cell? w _ hw320_1)).trans hw320_1), ((HB.out.cell (World.block_lt_of_cell? w _ hw320_2)).trans hw320_2), ((HB.out.cell (World.block_lt_of_cell? w _ hw321_0)).trans hw321_0), ((HB.out.cell (World.block_lt_of_cell? w _ hw321_1)).trans hw321_1), ((HB.out.cell (World.block_lt_of_cell? w _ hw321_2)).trans hw321_2)⟩ (fun hHeld => ?_)
                      clear hK K
                      refine norm_ (a' := ?_) ?_ ?_
                      rotate_left
                      · show Act.put _ (some 37) _ = _
                        simp only [Act.put, List.setIfInBounds_toArray, List.set_cons_zero, List.set_cons_succ, i64_w, i32_w]
                        rfl
                      refine pure_ (i := 17) (N := some 20) (v := ?_) (a' := ?_) #[true, true, true, true, true, true, true, true, true, true, true, true, true, true, true, true, true, true, false, false, false, false, false] rfl rfl (any_of HT_.out (by kernel_rfl)) (fun _ _ _ h => h) (Or.inl ⟨by rfl, ?_⟩) ?_ ?_
                      rotate_left
                      · intro w'
                        go_simp
                        with_reducible rfl
                      rotate_left
                      · simp only [Act.put, List.setIfInBounds_toArray, List.set_cons_zero, List.set_cons_succ, i64_w, i32_w]
                        rfl
                      refine pure_ (i := 18) (N := some 38) (v := ?_) (a' := ?_) #[true, true, true, true, true, true, true, true, true, true, true, true, true, true, true, true, true, true, true, false, false, false, false] rfl rfl (any_of HT_.out (by kernel_rfl)) (fun _ _ _ h => h) (Or.inl ⟨by rfl, ?_⟩) ?_ ?_
                      rotate_left
                      · intro w'
                        go_simp
                        with_reducible rfl
                      rotate_left
                      · simp only [Act.put, List.setIfInBounds_toArray, List.set_cons_zero, List.set_cons_succ, i64_w, i32_w]
                        rfl
                      refine pure_ (i := 19) (N := some 39) (v := ?_) (a' := ?_) #[true, true, true, true, true, true, true, true, true, true, true, true, true, true, true, true, true, true, true, true, false, false, false] rfl rfl (any_of HT_.out (by kernel_rfl)) (fun _ _ _ h => h) (Or.inl ⟨by rfl, ?_⟩) ?_ ?_
                      rotate_left
                      · intro w'
                        go_simp
                        with_reducible rfl
                      rotate_left
                      · simp only [Act.put, List.setIfInBounds_toArray, List.set_cons_zero, List.set_cons_succ, i64_w, i32_w]
                        rfl
                      refine one_ (i := 20) (N := some 7) #[true, true, true, true, true, true, true, true, true, true, true, true, true, true, true, true, true, true, true, true, true, false, false] rfl rfl (one_of HT_.out (by kernel_rfl)) (by decide) (fun K hK => ?_)
                      refine box_step ?hg (N := 7) ?hd (cs := #[.int .u64 0, .int .u32 0, .slice none 0 0]) (t := 26) ?hr ?_; (case hd => rfl); (case hg => rfl); (case hr => first | (go_simp; done) | (go_simp; rfl))
                      intro gb328 hg w18 hbox hb
                      have n0_ := Aside0.mk (Kd.R_below (by (with_reducible repeat (first | apply Kd.R_alloc | apply Kd.R_drewN | apply Kd.R_drew)); exact HO_318002.out) hb)
                      have n1_ := Aside0.mk (Kd.R_below (by (with_reducible repeat (first | apply Kd.R_alloc | apply Kd.R_drewN | apply Kd.R_drew)); exact HO326.out) hb)
                      have n2_ := Aside0.mk (blk_below (g := gb317) (o := .cells #[.int .u64 x318000_1, .int .u32 x318001_1, .slice Ao15 x318002_1.length co15] 26 (0, 0)) (by (with_reducible repeat (first | refine blk_drewN ?_ _ | refine blk_drew ?_ | refine blk_alloc ?_ _)); exact BK317.out) hb)
                      have n3_ := Aside0.mk (below_step (by repeat (first | (with_reducible first | exact HB.out | apply below_alloc | apply pw_below_drewN | apply below_drew1 | refine below_set ?_ GE317.out) | exact HB.out)) hb)
                      have n4_ := Aside0.mk (hbox)
                      have n5_ := Aside0.mk ((by rw [hg]; exact (below_size (by repeat (first | (with_reducible first | exact HB.out | apply below_alloc | apply pw_below_drewN | apply below_drew1 | refine below_set ?_ GE317.out) | exact HB.out))) : w.heap.size ≤ gb328))
                      have n6_ := Aside0.mk ((by rw [hg]; exact (below_size (by repeat (first | (with_reducible first | exact HB.out | apply below_alloc | apply pw_below_drewN | apply below_drew1 | refine below_set ?_ GE317.out) | exact HB.out))) : w.heap.size ≤ gb328))
                      have n7_ := Aside0.mk ((by rw [hg]; exact Nat.ne_of_lt (blk_lt (g := gb317) (o := .cells #[.int .u64 x318000_1, .int .u32 x318001_1, .slice Ao15 x318002_1.length co15] 26 (0, 0)) (by (with_reducible repeat (first | refine blk_drewN ?_ _ | refine blk_drew ?_ | refine blk_alloc ?_ _)); exact BK317.out)) : gb317 ≠ gb328))
                      have n8_ := Aside0.mk ((by rw [hg]; exact Nat.ne_of_gt (blk_lt (g := gb317) (o := .cells #[.int .u64 x318000_1, .int .u32 x318001_1, .slice Ao15 x318002_1.length co15] 26 (0, 0)) (by (with_reducible repeat (first | refine blk_drewN ?_ _ | refine blk_drew ?_ | refine blk_alloc ?_ _)); exact BK317.out)) : gb328 ≠ gb317))
                      clear HO_318002
                      clear HO326
                      clear BK317
                      clear HB
                      have HO_318002 := n0_
                      have HO326 := n1_
                      have BK317 := n2_
                      have HB := n3_
                      have BK328 := n4_
                      have GW328 := n5_
                      have GE328 := n6_
                      have NB317_328 := n7_
                      have NB328_317 := n8_
                      clear n0_ n1_ n2_ n3_ n4_ n5_ n6_ n7_ n8_
                      clear hb hbox hg
                      refine hK.out _ _ ⟨(blk_cell BK317.out 0).trans rfl, (blk_cell BK317.out 1).trans rfl, (blk_cell BK317.out 2).trans rfl, ((HB.out.cell (World.block_lt_of_cell? w _ hw319_0)).trans hw319_0), ((HB.out.cell (World.block_lt_of_cell? w _ hw319_1)).trans hw319_1), ((HB.out.cell (World.block_lt_of_cell? w _ hw319_2)).trans hw319_2), ((HB.out.cell (World.block_lt_of_cell? w _ hw320_0)).trans hw320_0), ((HB.out.cell (World.block_lt_of_cell? w _ hw320_1)).trans hw320_1), ((HB.out.cell (World.block_lt_of_cell? w _ hw320_2)).trans hw320_2), ((HB.out.cell (World.block_lt_of_cell? w _ hw321_0)).trans hw321_0), ((HB.out.cell (World.block_lt_of_cell? w _ hw321_1)).trans hw321_1), ((HB.out.cell (World.block_lt_of_cell? w _ hw321_2)).trans hw321_2)⟩ (fun hHeld => ?_)
                      clear hK K
                      refine norm_ (a' := ?_) ?_ ?_
                      rotate_left
                      · show Act.put _ (some 7) _ = _
                        simp only [Act.put, List.setIfInBounds_toArray, List.set_cons_zero, List.set_cons_succ, i64_w, i32_w]
                        rfl
                      exact norm_ (by simp only [putAll, Act.put, List.setIfInBounds_toArray, List.set_cons_zero, List.set_cons_succ]) (hCont (v325, gb328) _ ⟨hHeld, (by (with_reducible repeat (first | apply Kd.R_alloc | apply Kd.R_drewN | apply Kd.R_drew)); exact Kd.R_mono HO326.out (fun _ hk => hk.2)), (by (with_reducible repeat (first | apply Kd.R_alloc | apply Kd.R_drewN | apply Kd.R_drew)); exact Kd.R_mono HO_318002.out (fun _ hk => hk.2)), (by (with_reducible repeat (first | refine blk_drewN ?_ _ | refine blk_drew ?_ | refine blk_alloc ?_ _)); exact BK317.out), (by (with_reducible repeat (first | refine blk_drewN ?_ _ | refine blk_drew ?_ | refine blk_alloc ?_ _)); exact BK328.out), GW328.out, GE328.out, NB317_328.out, NB328_317.out, (by repeat (first | (with_reducible first | exact HB.out | apply below_alloc | apply pw_below_drewN | apply below_drew1 | refine below_set ?_ GE317.out | refine below_set ?_ GE328.out) | exact HB.out))⟩)
                    · skip
                      refine box_step ?hg (N := 7) ?hd (cs := #[.int .u64 0, .int .u32 0, .slice none 0 0]) (t := 26) ?hr ?_; (case hd => rfl); (case hg => rfl); (case hr => first | (go_simp; done) | (go_simp; rfl))
                      intro gb328 hg w17 hbox hb
                      have n0_ := Aside0.mk (Kd.R_below (by (with_reducible repeat (first | apply Kd.R_alloc | apply Kd.R_drewN | apply Kd.R_drew)); exact HO_318002.out) hb)
                      have n1_ := Aside0.mk (blk_below (g := gb317) (o := .cells #[.int .u64 x318000_1, .int .u32 x318001_1, .slice Ao15 x318002_1.length co15] 26 (0, 0)) (by (with_reducible repeat (first | refine blk_drewN ?_ _ | refine blk_drew ?_ | refine blk_alloc ?_ _)); exact BK317.out) hb)
                      have n2_ := Aside0.mk (below_step (by repeat (first | (with_reducible first | exact HB.out | apply below_alloc | apply pw_below_drewN | apply below_drew1 | refine below_set ?_ GE317.out) | exact HB.out)) hb)
                      have n3_ := Aside0.mk (hbox)
                      have n4_ := Aside0.mk ((by rw [hg]; exact (below_size (by repeat (first | (with_reducible first | exact HB.out | apply below_alloc | apply pw_below_drewN | apply below_drew1 | refine below_set ?_ GE317.out) | exact HB.out))) : w.heap.size ≤ gb328))
                      have n5_ := Aside0.mk ((by rw [hg]; exact (below_size (by repeat (first | (with_reducible first | exact HB.out | apply below_alloc | apply pw_below_drewN | apply below_drew1 | refine below_set ?_ GE317.out) | exact HB.out))) : w.heap.size ≤ gb328))
                      have n6_ := Aside0.mk ((by rw [hg]; exact Nat.ne_of_lt (blk_lt (g := gb317) (o := .cells #[.int .u64 x318000_1, .int .u32 x318001_1, .slice Ao15 x318002_1.length co15] 26 (0, 0)) (by (with_reducible repeat (first | refine blk_drewN ?_ _ | refine blk_drew ?_ | refine blk_alloc ?_ _)); exact BK317.out)) : gb317 ≠ gb328))
                      have n7_ := Aside0.mk ((by rw [hg]; exact Nat.ne_of_gt (blk_lt (g := gb317) (o := .cells #[.int .u64 x318000_1, .int .u32 x318001_1, .slice Ao15 x318002_1.length co15] 26 (0, 0)) (by (with_reducible repeat (first | refine blk_drewN ?_ _ | refine blk_drew ?_ | refine blk_alloc ?_ _)); exact BK317.out)) : gb328 ≠ gb317))
                      clear HO_318002
                      clear BK317
                      clear HB
                      have HO_318002 := n0_
                      have BK317 := n1_
                      have HB := n2_
                      have BK328 := n3_
                      have GW328 := n4_
                      have GE328 := n5_
                      have NB317_328 := n6_
                      have NB328_317 := n7_
                      clear n0_ n1_ n2_ n3_ n4_ n5_ n6_ n7_
                      clear hb hbox hg
                      refine hK.out _ _ ⟨(blk_cell BK317.out 0).trans rfl, (blk_cell BK317.out 1).trans rfl, (blk_cell BK317.out 2).trans rfl, ((HB.out.cell (World.block_lt_of_cell? w _ hw319_0)).trans hw319_0), ((HB.out.cell (World.block_lt_of_cell? w _ hw319_1)).trans hw319_1), ((HB.out.cell (World.block_lt_of_cell? w _ hw319_2)).trans hw319_2), ((HB.out.cell (World.block_lt_of_cell? w _ hw320_0)).trans hw320_0), ((HB.out.cell (World.block_lt_of_cell? w _ hw320_1)).trans hw320_1), ((HB.out.cell (World.block_lt_of_cell? w _ hw320_2)).trans hw320_2), ((HB.out.cell (World.block_lt_of_cell? w _ hw321_0)).trans hw321_0), ((HB.out.cell (World.block_lt_of_cell? w _ hw321_1)).trans hw321_1), ((HB.out.cell (World.block_lt_of_cell? w _ hw321_2)).trans hw321_2)⟩ (fun hHeld => ?_)
                      clear hK K
                      refine norm_ (a' := ?_) ?_ ?_
                      rotate_left
                      · show Act.put _ (some 7) _ = _
                        simp only [Act.put, List.setIfInBounds_toArray, List.set_cons_zero, List.set_cons_succ, i64_w, i32_w]
                        rfl
                      refine one_ (i := 16) (N := some 37) #[true, true, true, true, true, true, true, true, true, true, true, true, true, true, true, true, true, false, false, false, true, false, false] rfl rfl (one_of HT_.out (by kernel_rfl)) (by decide) (fun K hK => ?_)
                      refine goes_ Try.func18 (by kernel_rfl) rfl #[.agg #[.int .u64 x318000_1, .int .u32 x318001_1, .slice Ao15 x318002_1.length co15], .int .i64 ((rd_T53 l0 x6_1).f0), .int .i64 ((rd_T53 l0 x6_1).f1), .int .i64 ((rd_T53 l0 x6_1).f2)] (by rfl) rfl rfl (by (try simp only [List.map_toArray, List.map_cons, List.map_nil]); first | done | rfl | (simp only [List.length_drop, List.length_take]; rfl)) ?_
                      with_reducible refine (coder_Put.calls kj6 x318000_1 x318001_1 _ _ x318002_1 ((rd_T53 l0 x6_1).f0) ((rd_T53 l0 x6_1).f1) ((rd_T53 l0 x6_1).f2) t322 t323 t324 t327 _ ?side1 ?side2 A12.out).mono ?_
                      (case side1 => repeat (first | exact (Kd.R_reads' HO_318002.out).2.2 | (with_reducible refine Kd.C_alloc ?_ _) | (with_reducible refine Kd.C_drewN ?_ _) | (with_reducible refine Kd.C_drew ?_)))
                      (case side2 => exact (Kd.R_reads' HO_318002.out).2.1)
                      rintro e w18 ⟨v325, rfl, ho0, hb⟩
                      refine ⟨_, rfl, ?_⟩
                      have n0_ := Aside0.mk (Kd.R_elder' (by (with_reducible repeat (first | apply Kd.R_alloc | apply Kd.R_drewN | apply Kd.R_drew)); exact HO_318002.out) (Kd.R_base ho0) hb)
                      have n1_ := Aside0.mk (Kd.R_lower (Kd.R_new' ho0 (Kd.R_lt (by (with_reducible repeat (first | apply Kd.R_alloc | apply Kd.R_drewN | apply Kd.R_drew)); exact HO_318002.out))) (below_size (by repeat (first | (with_reducible first | exact HB.out | apply below_alloc | apply pw_below_drewN | apply below_drew1 | refine below_set ?_ GE317.out | refine below_set ?_ GE328.out) | exact HB.out))))
                      have n2_ := Aside0.mk (blk_below (g := gb317) (o := .cells #[.int .u64 x318000_1, .int .u32 x318001_1, .slice Ao15 x318002_1.length co15] 26 (0, 0)) (by (with_reducible repeat (first | refine blk_drewN ?_ _ | refine blk_drew ?_ | refine blk_alloc ?_ _)); exact BK317.out) hb)
                      have n3_ := Aside0.mk (blk_below (g := gb328) (o := .cells #[.int .u64 0, .int .u32 0, .slice none 0 0] 26 (0, 0)) (by (with_reducible repeat (first | refine blk_drewN ?_ _ | refine blk_drew ?_ | refine blk_alloc ?_ _)); exact BK328.out) hb)
                      have n4_ := Aside0.mk (below_step (by repeat (first | (with_reducible first | exact HB.out | apply below_alloc | apply pw_below_drewN | apply below_drew1 | refine below_set ?_ GE317.out | refine below_set ?_ GE328.out) | exact HB.out)) hb)
                      clear HO_318002
                      clear BK317
                      clear BK328
                      clear HB
                      have HO_318002 := n0_
                      have HO326 := n1_
                      have BK317 := n2_
                      have BK328 := n3_
                      have HB := n4_
                      clear n0_ n1_ n2_ n3_ n4_
                      (try clear hb)
                      (try clear hb2)
                      (try clear hk)
                      (try clear hi)
                      (try clear ho0)
                      refine hK.out _ _ ⟨(blk_cell BK317.out 0).trans rfl, (blk_cell BK317.out 1).trans rfl, (blk_cell BK317.out 2).trans rfl, ((HB.out.cell (World.block_lt_of_cell? w _ hw319_0)).trans hw319_0), ((HB.out.cell (World.block_lt_of_cell? w _ hw319_1)).trans hw319_1), ((HB.out.cell (World.block_lt_of_cell? w _ hw319_2)).trans hw319_2), ((HB.out.cell (World.block_lt_of_cell? w _ hw320_0)).trans hw320_0), ((HB.out.cell (World.block_lt_of_cell? w _ hw320_1)).trans hw320_1), ((HB.out.cell (World.block_lt_of_cell? w _ hw320_2)).trans hw320_2), ((HB.out.cell (World.block_lt_of_cell? w _ hw321_0)).trans hw321_0), ((HB.out.cell (World.block_lt_of_cell? w _ hw321_1)).trans hw321_1), ((HB.out.cell (World.block_lt_of_cell? w _ hw321_2)).trans hw321_2)⟩ (fun hHeld => ?_)
                      clear hK K
                      refine norm_ (a' := ?_) ?_ ?_
                      rotate_left
                      · show Act.put _ (some 37) _ = _
                        simp only [Act.put, List.setIfInBounds_toArray, List.set_cons_zero, List.set_cons_succ, i64_w, i32_w]
                        rfl
                      refine pure_ (i := 17) (N := some 20) (v := ?_) (a' := ?_) #[true, true, true, true, true, true, true, true, true, true, true, true, true, true, true, true, true, true, false, false, true, false, false] rfl rfl (any_of HT_.out (by kernel_rfl)) (fun _ _ _ h => h) (Or.inl ⟨by rfl, ?_⟩) ?_ ?_
                      rotate_left
                      · intro w'
                        go_simp
                        with_reducible rfl
                      rotate_left
                      · simp only [Act.put, List.setIfInBounds_toArray, List.set_cons_zero, List.set_cons_succ, i64_w, i32_w]
                        rfl
                      refine pure_ (i := 18) (N := some 38) (v := ?_) (a' := ?_) #[true, true, true, true, true, true, true, true, true, true, true, true, true, true, true, true, true, true, true, false, true, false, false] rfl rfl (any_of HT_.out (by kernel_rfl)) (fun _ _ _ h => h) (Or.inl ⟨by rfl, ?_⟩) ?_ ?_
                      rotate_left
                      · intro w'
                        go_simp
                        with_reducible rfl
                      rotate_left
                      · simp only [Act.put, List.setIfInBounds_toArray, List.set_cons_zero, List.set_cons_succ, i64_w, i32_w]
                        rfl
                      refine pure_ (i := 19) (N := some 39) (v := ?_) (a' := ?_) #[true, true, true, true, true, true, true, true, true, true, true, true, true, true, true, true, true, true, true, true, true, false, false] rfl rfl (any_of HT_.out (by kernel_rfl)) (fun _ _ _ h => h) (Or.inl ⟨by rfl, ?_⟩) ?_ ?_
                      rotate_left
                      · intro w'
                        go_simp
                        with_reducible rfl
                      rotate_left
                      · simp only [Act.put, List.setIfInBounds_toArray, List.set_cons_zero, List.set_cons_succ, i64_w, i32_w]
                        rfl
                      exact norm_ (by simp only [putAll, Act.put, List.setIfInBounds_toArray, List.set_cons_zero, List.set_cons_succ]) (hCont (v325, gb328) _ ⟨hHeld, (by (with_reducible repeat (first | apply Kd.R_alloc | apply Kd.R_drewN | apply Kd.R_drew)); exact Kd.R_mono HO326.out (fun _ hk => hk.2)), (by (with_reducible repeat (first | apply Kd.R_alloc | apply Kd.R_drewN | apply Kd.R_drew)); exact Kd.R_mono HO_318002.out (fun _ hk => hk.2)), (by (with_reducible repeat (first | refine blk_drewN ?_ _ | refine blk_drew ?_ | refine blk_alloc ?_ _)); exact BK317.out), (by (with_reducible repeat (first | refine blk_drewN ?_ _ | refine blk_drew ?_ | refine blk_alloc ?_ _)); exact BK328.out), GW328.out, GE328.out, NB317_328.out, NB328_317.out, (by repeat (first | (with_reducible first | exact HB.out | apply below_alloc | apply pw_below_drewN | apply below_drew1 | refine below_set ?_ GE317.out | refine below_set ?_ GE328.out) | exact HB.out))⟩)
                  rintro ⟨v325, gb328⟩ w19 ⟨hS_, h0_, h1_, h2_, h3_, h4_, h5_, h6_, h7_, h8_⟩
                  have n0_ : Aside0 (Kd.R (Kd.int .u8) 5 w19 w.heap.size (fun k_ => some k_ ≠ (.slice Ao15 x318002_1.length co15 : Value).ownBlock) v325 t324) := ⟨h0_⟩
                  have n1_ : Aside0 (Kd.R (Kd.int .u8) 5 w19 w.heap.size (fun k_ => some k_ ≠ (v325 : Value).ownBlock) (.slice Ao15 x318002_1.length co15) x318002_1) := ⟨h1_⟩
                  have n2_ : Aside0 (w19.heap[gb317]? = some (.cells #[.int .u64 x318000_1, .int .u32 x318001_1, .slice Ao15 x318002_1.length co15] 26 (0, 0))) := ⟨h2_⟩
                  have n3_ : Aside0 (w19.heap[gb328]? = some (.cells #[.int .u64 0, .int .u32 0, .slice none 0 0] 26 (0, 0))) := ⟨h3_⟩
                  have n4_ : Aside0 (w.heap.size ≤ gb328) := ⟨h4_⟩
                  have n5_ : Aside0 (w.heap.size ≤ gb328) := ⟨h5_⟩
                  have n6_ : Aside0 (gb317 ≠ gb328) := ⟨h6_⟩
                  have n7_ : Aside0 (gb328 ≠ gb317) := ⟨h7_⟩
                  have n8_ : Aside0 (Below w.heap.size w w19) := ⟨h8_⟩
                  clear HO_318002
                  clear BK317
                  clear HB
                  clear h0_ h1_ h2_ h3_ h4_ h5_ h6_ h7_ h8_
                  have HO326 := n0_
                  have HO_318002 := n1_
                  have BK317 := n2_
                  have BK328 := n3_
                  have GW328 := n4_
                  have GE328 := n5_
                  have NB317_328 := n6_
                  have NB328_317 := n7_
                  have HB := n8_
                  clear n0_ n1_ n2_ n3_ n4_ n5_ n6_ n7_ n8_
                  have hHeld : w19.cell? ⟨gb317, 0, none⟩ = some (.int .u64 x318000_1) ∧ w19.cell? ⟨gb317, 1, none⟩ = some (.int .u32 x318001_1) ∧ w19.cell? ⟨gb317, 2, none⟩ = some (.slice Ao15 x318002_1.length co15) ∧ w19.cell? (ad319.add ((x6_1).toNat * 3)) = some (.int .i64 ((rd_T53 l0 x6_1).f0)) ∧ w19.cell? ⟨(ad319.add ((x6_1).toNat * 3)).block, (ad319.add ((x6_1).toNat * 3)).off + 1, none⟩ = some (.int .i64 ((rd_T53 l0 x6_1).f1)) ∧ w19.cell? ⟨(ad319.add ((x6_1).toNat * 3)).block, (ad319.add ((x6_1).toNat * 3)).off + 2, none⟩ = some (.int .i64 ((rd_T53 l0 x6_1).f2)) ∧ w19.cell? (ad319.add ((x6_1).toNat * 3)) = some (.int .i64 ((rd_T53 l0 x6_1).f0)) ∧ w19.cell? ⟨(ad319.add ((x6_1).toNat * 3)).block, (ad319.add ((x6_1).toNat * 3)).off + 1, none⟩ = some (.int .i64 ((rd_T53 l0 x6_1).f1)) ∧ w19.cell? ⟨(ad319.add ((x6_1).toNat * 3)).block, (ad319.add ((x6_1).toNat * 3)).off + 2, none⟩ = some (.int .i64 ((rd_T53 l0 x6_1).f2)) ∧ w19.cell? (ad319.add ((x6_1).toNat * 3)) = some (.int .i64 ((rd_T53 l0 x6_1).f0)) ∧ w19.cell? ⟨(ad319.add ((x6_1).toNat * 3)).block, (ad319.add ((x6_1).toNat * 3)).off + 1, none⟩ = some (.int .i64 ((rd_T53 l0 x6_1).f1)) ∧ w19.cell? ⟨(ad319.add ((x6_1).toNat * 3)).block, (ad319.add ((x6_1).toNat * 3)).off + 2, none⟩ = some (.int .i64 ((rd_T53 l0 x6_1).f2)) := hS_
                  obtain ⟨Ao22, co22, eo22⟩ := Kd.R_slice HO326.out
                  (first | subst eo22 | (injection eo22 with f1_ f2_ f3_; have f4_ := f1_.symm; have f5_ := f3_.symm; clear f1_ f2_ f3_; subst f4_; subst f5_))
                  refine norm_ (a' := ?_) ?_ ?_
                  rotate_left
                  · simp only [putAll, Act.put, List.setIfInBounds_toArray, List.set_cons_zero, List.set_cons_succ]
                    rfl
                  refine one_ (i := 21) (N := none) #[true, true, true, true, true, true, true, true, true, true, true, true, true, true, true, true, true, true, true, true, true, true, false] rfl rfl (one_of HT_.out (by kernel_rfl)) (by decide) (fun K hK => ?_)
                  have hs20 : w19.cell? ⟨gb328, 0, none⟩ = some (.int .u64 0) := (blk_cell BK328.out 0).trans rfl
                  have hfs20 := blk_frozen BK328.out 0
                  have hns20_0 := NB317_328.out
                  have hms20_0 := NB328_317.out
                  have hs21 : w19.cell? ⟨gb328, 1, none⟩ = some (.int .u32 0) := (blk_cell BK328.out 1).trans rfl
                  have hfs21 := blk_frozen BK328.out 1
                  have hns21_0 := NB317_328.out
                  have hms21_0 := NB328_317.out
                  have hs23 : w19.cell? ⟨gb328, 2, none⟩ = some (.slice none 0 0) := (blk_cell BK328.out 2).trans rfl
                  have hfs23 := blk_frozen BK328.out 2
                  have hns23_0 := NB317_328.out
                  have hms23_0 := NB328_317.out
                  refine skip_ (w1 := ?_) (by rfl) rfl ?_ ?_
                  rotate_left
                  · go_simp
                    rfl
                  refine hK.out _ _ ⟨((cell_far (p := ⟨gb328, _, none⟩) NB317_328.out _).trans (((cell_far (p := ⟨gb328, _, none⟩) NB317_328.out _).trans (((cell_far (p := ⟨gb328, _, none⟩) NB317_328.out _).trans (hHeld.1)))))), ((cell_far (p := ⟨gb328, _, none⟩) NB317_328.out _).trans (((cell_far (p := ⟨gb328, _, none⟩) NB317_328.out _).trans (((cell_far (p := ⟨gb328, _, none⟩) NB317_328.out _).trans (hHeld.2.1)))))), ((cell_far (p := ⟨gb328, _, none⟩) NB317_328.out _).trans (((cell_far (p := ⟨gb328, _, none⟩) NB317_328.out _).trans (((cell_far (p := ⟨gb328, _, none⟩) NB317_328.out _).trans (hHeld.2.2.1)))))), ((cell_far (p := ⟨gb328, _, none⟩) (by first | exact Nat.ne_of_lt (Nat.lt_of_lt_of_le (by have := World.block_lt_of_cell? _ _ hw319_0; first | rwa [add_block] at this | exact this) GW328.out) | (rw [add_block]; exact Nat.ne_of_lt (Nat.lt_of_lt_of_le (by have := World.block_lt_of_cell? _ _ hw319_0; first | rwa [add_block] at this | exact this) GW328.out)) | (show (Addr.add _ _).block ≠ _; rw [add_block]; exact Nat.ne_of_lt (Nat.lt_of_lt_of_le (by have := World.block_lt_of_cell? _ _ hw319_0; first | rwa [add_block] at this | exact this) GW328.out)) | (dsimp only; exact Nat.ne_of_lt (Nat.lt_of_lt_of_le (by have := World.block_lt_of_cell? _ _ hw319_0; first | rwa [add_block] at this | exact this) GW328.out))) _).trans (((cell_far (p := ⟨gb328, _, none⟩) (by first | exact Nat.ne_of_lt (Nat.lt_of_lt_of_le (by have := World.block_lt_of_cell? _ _ hw319_0; first | rwa [add_block] at this | exact this) GW328.out) | (rw [add_block]; exact Nat.ne_of_lt (Nat.lt_of_lt_of_le (by have := World.block_lt_of_cell? _ _ hw319_0; first | rwa [add_block] at this | exact this) GW328.out)) | (show (Addr.add _ _).block ≠ _; rw [add_block]; exact Nat.ne_of_lt (Nat.lt_of_lt_of_le (by have := World.block_lt_of_cell? _ _ hw319_0; first | rwa [add_block] at this | exact this) GW328.out)) | (dsimp only; exact Nat.ne_of_lt (Nat.lt_of_lt_of_le (by have := World.block_lt_of_cell? _ _ hw319_0; first | rwa [add_block] at this | exact this) GW328.out))) _).trans (((cell_far (p := ⟨gb328, _, none⟩) (by first | exact Nat.ne_of_lt (Nat.lt_of_lt_of_le (by have := World.block_lt_of_cell? _ _ hw319_0; first | rwa [add_block] at this | exact this) GW328.out) | (rw [add_block]; exact Nat.ne_of_lt (Nat.lt_of_lt_of_le (by have := World.block_lt_of_cell? _ _ hw319_0; first | rwa [add_block] at this | exact this) GW328.out)) | (show (Addr.add _ _).block ≠ _; rw [add_block]; exact Nat.ne_of_lt (Nat.lt_of_lt_of_le (by have := World.block_lt_of_cell? _ _ hw319_0; first | rwa [add_block] at this | exact this) GW328.out)) | (dsimp only; exact Nat.ne_of_lt (Nat.lt_of_lt_of_le (by have := World.block_lt_of_cell? _ _ hw319_0; first | rwa [add_block] at this | exact this) GW328.out))) _).trans (hHeld.2.2.2.1)))))), ((cell_far (p := ⟨gb328, _, none⟩) (by first | exact Nat.ne_of_lt (Nat.lt_of_lt_of_le (by have := World.block_lt_of_cell? _ _ hw319_1; first | rwa [add_block] at this | exact this) GW328.out) | (rw [add_block]; exact Nat.ne_of_lt (Nat.lt_of_lt_of_le (by have := World.block_lt_of_cell? _ _ hw319_1; first | rwa [add_block] at this | exact this) GW328.out)) | (show (Addr.add _ _).block ≠ _; rw [add_block]; exact Nat.ne_of_lt (Nat.lt_of_lt_of_le (by have := World.block_lt_of_cell? _ _ hw319_1; first | rwa [add_block] at this | exact this) GW328.out)) | (dsimp only; exact Nat.ne_of_lt (Nat.lt_of_lt_of_le (by have := World.block_lt_of_cell? _ _ hw319_1; first | rwa [add_block] at this | exact this) GW328.out))) _).trans (((cell_far (p := ⟨gb328, _, none⟩) (by first | exact Nat.ne_of_lt (Nat.lt_of_lt_of_le (by have := World.block_lt_of_cell? _ _ hw319_1; first | rwa [add_block] at this | exact this) GW328.out) | (rw [add_block]; exact Nat.ne_of_lt (Nat.lt_of_lt_of_le (by have := World.block_lt_of_cell? _ _ hw319_1; first | rwa [add_block] at this | exact this) GW328.out)) | (show (Addr.add _ _).block ≠ _; rw [add_block]; exact Nat.ne_of_lt (Nat.lt_of_lt_of_le (by have := World.block_lt_of_cell? _ _ hw319_1; first | rwa [add_block] at this | exact this) GW328.out)) | (dsimp only; exact Nat.ne_of_lt (Nat.lt_of_lt_of_le (by have := World.block_lt_of_cell? _ _ hw319_1; first | rwa [add_block] at this | exact this) GW328.out))) _).trans (((cell_far (p := ⟨gb328, _, none⟩) (by first | exact Nat.ne_of_lt (Nat.lt_of_lt_of_le (by have := World.block_lt_of_cell? _ _ hw319_1; first | rwa [add_block] at this | exact this) GW328.out) | (rw [add_block]; exact Nat.ne_of_lt (Nat.lt_of_lt_of_le (by have := World.block_lt_of_cell? _ _ hw319_1; first | rwa [add_block] at this | exact this) GW328.out)) | (show (Addr.add _ _).block ≠ _; rw [add_block]; exact Nat.ne_of_lt (Nat.lt_of_lt_of_le (by have := World.block_lt_of_cell? _ _ hw319_1; first | rwa [add_block] at this | exact this) GW328.out)) | (dsimp only; exact Nat.ne_of_lt (Nat.lt_of_lt_of_le (by have := World.block_lt_of_cell? _ _ hw319_1; first | rwa [add_block] at this | exact this) GW328.out))) _).trans (hHeld.2.2.2.2.1)))))), ((cell_far (p := ⟨gb328, _, none⟩) (by first | exact Nat.ne_of_lt (Nat.lt_of_lt_of_le (by have := World.block_lt_of_cell? _ _ hw319_2; first | rwa [add_block] at this | exact this) GW328.out) | (rw [add_block]; exact Nat.ne_of_lt (Nat.lt_of_lt_of_le (by have := World.block_lt_of_cell? _ _ hw319_2; first | rwa [add_block] at this | exact this) GW328.out)) | (show (Addr.add _ _).block ≠ _; rw [add_block]; exact Nat.ne_of_lt (Nat.lt_of_lt_of_le (by have := World.block_lt_of_cell? _ _ hw319_2; first | rwa [add_block] at this | exact this) GW328.out)) | (dsimp only; exact Nat.ne_of_lt (Nat.lt_of_lt_of_le (by have := World.block_lt_of_cell? _ _ hw319_2; first | rwa [add_block] at this | exact this) GW328.out))) _).trans (((cell_far (p := ⟨gb328, _, none⟩) (by first | exact Nat.ne_of_lt (Nat.lt_of_lt_of_le (by have := World.block_lt_of_cell? _ _ hw319_2; first | rwa [add_block] at this | exact this) GW328.out) | (rw [add_block]; exact Nat.ne_of_lt (Nat.lt_of_lt_of_le (by have := World.block_lt_of_cell? _ _ hw319_2; first | rwa [add_block] at this | exact this) GW328.out)) | (show (Addr.add _ _).block ≠ _; rw [add_block]; exact Nat.ne_of_lt (Nat.lt_of_lt_of_le (by have := World.block_lt_of_cell? _ _ hw319_2; first | rwa [add_block] at this | exact this) GW328.out)) | (dsimp only; exact Nat.ne_of_lt (Nat.lt_of_lt_of_le (by have := World.block_lt_of_cell? _ _ hw319_2; first | rwa [add_block] at this | exact this) GW328.out))) _).trans (((cell_far (p := ⟨gb328, _, none⟩) (by first | exact Nat.ne_of_lt (Nat.lt_of_lt_of_le (by have := World.block_lt_of_cell? _ _ hw319_2; first | rwa [add_block] at this | exact this) GW328.out) | (rw [add_block]; exact Nat.ne_of_lt (Nat.lt_of_lt_of_le (by have := World.block_lt_of_cell? _ _ hw319_2; first | rwa [add_block] at this | exact this) GW328.out)) | (show (Addr.add _ _).block ≠ _; rw [add_block]; exact Nat.ne_of_lt (Nat.lt_of_lt_of_le (by have := World.block_lt_of_cell? _ _ hw319_2; first | rwa [add_block] at this | exact this) GW328.out)) | (dsimp only; exact Nat.ne_of_lt (Nat.lt_of_lt_of_le (by have := World.block_lt_of_cell? _ _ hw319_2; first | rwa [add_block] at this | exact this) GW328.out))) _).trans (hHeld.2.2.2.2.2.1)))))), ((cell_far (p := ⟨gb328, _, none⟩) (by first | exact Nat.ne_of_lt (Nat.lt_of_lt_of_le (by have := World.block_lt_of_cell? _ _ hw320_0; first | rwa [add_block] at this | exact this) GW328.out) | (rw [add_block]; exact Nat.ne_of_lt (Nat.lt_of_lt_of_le (by have := World.block_lt_of_cell? _ _ hw320_0; first | rwa [add_block] at this | exact this) GW328.out)) | (show (Addr.add _ _).block ≠ _; rw [add_block]; exact Nat.ne_of_lt (Nat.lt_of_lt_of_le (by have := World.block_lt_of_cell? _ _ hw320_0; first | rwa [add_block] at this | exact this) GW328.out)) | (dsimp only; exact Nat.ne_of_lt (Nat.lt_of_lt_of_le (by have := World.block_lt_of_cell? _ _ hw320_0; first | rwa [add_block] at this | exact this) GW328.out))) _).trans (((cell_far (p := ⟨gb328, _, none⟩) (by first | exact Nat.ne_of_lt (Nat.lt_of_lt_of_le (by have := World.block_lt_of_cell? _ _ hw320_0; first | rwa [add_block] at this | exact this) GW328.out) | (rw [add_block]; exact Nat.ne_of_lt (Nat.lt_of_lt_of_le (by have := World.block_lt_of_cell? _ _ hw320_0; first | rwa [add_block] at this | exact this) GW328.out)) | (show (Addr.add _ _).block ≠ _; rw [add_block]; exact Nat.ne_of_lt (Nat.lt_of_lt_of_le (by have := World.block_lt_of_cell? _ _ hw320_0; first | rwa [add_block] at this | exact this) GW328.out)) | (dsimp only; exact Nat.ne_of_lt (Nat.lt_of_lt_of_le (by have := World.block_lt_of_cell? _ _ hw320_0; first | rwa [add_block] at this | exact this) GW328.out))) _).trans (((cell_far (p := ⟨gb328, _, none⟩) (by first | exact Nat.ne_of_lt (Nat.lt_of_lt_of_le (by have := World.block_lt_of_cell? _ _ hw320_0; first | rwa [add_block] at this | exact this) GW328.out) | (rw [add_block]; exact Nat.ne_of_lt (Nat.lt_of_lt_of_le (by have := World.block_lt_of_cell? _ _ hw320_0; first | rwa [add_block] at this | exact this) GW328.out)) | (show (Addr.add _ _).block ≠ _; rw [add_block]; exact Nat.ne_of_lt (Nat.lt_of_lt_of_le (by have := World.block_lt_of_cell? _ _ hw320_0; first | rwa [add_block] at this | exact this) GW328.out)) | (dsimp only; exact Nat.ne_of_lt (Nat.lt_of_lt_of_le (by have := World.block_lt_of_cell? _ _ hw320_0; first | rwa [add_block] at this | exact this) GW328.out))) _).trans (hHeld.2.2.2.2.2.2.1)))))), ((cell_far (p := ⟨gb328, _, none⟩) (by first | exact Nat.ne_of_lt (Nat.lt_of_lt_of_le (by have := World.block_lt_of_cell? _ _ hw320_1; first | rwa [add_block] at this | exact this) GW328.out) | (rw [add_block]; exact Nat.ne_of_lt (Nat.lt_of_lt_of_le (by have := World.block_lt_of_cell? _ _ hw320_1; first | rwa [add_block] at this | exact this) GW328.out)) | (show (Addr.add _ _).block ≠ _; rw [add_block]; exact Nat.ne_of_lt (Nat.lt_of_lt_of_le (by have := World.block_lt_of_cell? _ _ hw320_1; first | rwa [add_block] at this | exact this) GW328.out)) | (dsimp only; exact Nat.ne_of_lt (Nat.lt_of_lt_of_le (by have := World.block_lt_of_cell? _ _ hw320_1; first | rwa [add_block] at this | exact this) GW328.out))) _).trans (((cell_far (p := ⟨gb328, _, none⟩) (by first | exact Nat.ne_of_lt (Nat.lt_of_lt_of_le (by have := World.block_lt_of_cell? _ _ hw320_1; first | rwa [add_block] at this | exact this) GW328.out) | (rw [add_block]; exact Nat.ne_of_lt (Nat.lt_of_lt_of_le (by have := World.block_lt_of_cell? _ _ hw320_1; first | rwa [add_block] at this | exact this) GW328.out)) | (show (Addr.add _ _).block ≠ _; rw [add_block]; exact Nat.ne_of_lt (Nat.lt_of_lt_of_le (by have := World.block_lt_of_cell? _ _ hw320_1; first | rwa [add_block] at this | exact this) GW328.out)) | (dsimp only; exact Nat.ne_of_lt (Nat.lt_of_lt_of_le (by have := World.block_lt_of_cell? _ _ hw320_1; first | rwa [add_block] at this | exact this) GW328.out))) _).trans (((cell_far (p := ⟨gb328, _, none⟩) (by first | exact Nat.ne_of_lt (Nat.lt_of_lt_of_le (by have := World.block_lt_of_cell? _ _ hw320_1; first | rwa [add_block] at this | exact this) GW328.out) | (rw [add_block]; exact Nat.ne_of_lt (Nat.lt_of_lt_of_le (by have := World.block_lt_of_cell? _ _ hw320_1; first | rwa [add_block] at this | exact this) GW328.out)) | (show (Addr.add _ _).block ≠ _; rw [add_block]; exact Nat.ne_of_lt (Nat.lt_of_lt_of_le (by have := World.block_lt_of_cell? _ _ hw320_1; first | rwa [add_block] at this | exact this) GW328.out)) | (dsimp only; exact Nat.ne_of_lt (Nat.lt_of_lt_of_le (by have := World.block_lt_of_cell? _ _ hw320_1; first | rwa [add_block] at this | exact this) GW328.out))) _).trans (hHeld.2.2.2.2.2.2.2.1)))))), ((cell_far (p := ⟨gb328, _, none⟩) (by first | exact Nat.ne_of_lt (Nat.lt_of_lt_of_le (by have := World.block_lt_of_cell? _ _ hw320_2; first | rwa [add_block] at this | exact this) GW328.out) | (rw [add_block]; exact Nat.ne_of_lt (Nat.lt_of_lt_of_le (by have := World.block_lt_of_cell? _ _ hw320_2; first | rwa [add_block] at this | exact this) GW328.out)) | (show (Addr.add _ _).block ≠ _; rw [add_block]; exact Nat.ne_of_lt (Nat.lt_of_lt_of_le (by have := World.block_lt_of_cell? _ _ hw320_2; first | rwa [add_block] at this | exact this) GW328.out)) | (dsimp only; exact Nat.ne_of_lt (Nat.lt_of_lt_of_le (by have := World.block_lt_of_cell? _ _ hw320_2; first | rwa [add_block] at this | exact this) GW328.out))) _).trans (((cell_far (p := ⟨gb328, _, none⟩) (by first | exact Nat.ne_of_lt (Nat.lt_of_lt_of_le (by have := World.block_lt_of_cell? _ _ hw320_2; first | rwa [add_block] at this | exact this) GW328.out) | (rw [add_block]; exact Nat.ne_of_lt (Nat.lt_of_lt_of_le (by have := World.block_lt_of_cell? _ _ hw320_2; first | rwa [add_block] at this | exact this) GW328.out)) | (show (Addr.add _ _).block ≠ _; rw [add_block]; exact Nat.ne_of_lt (Nat.lt_of_lt_of_le (by have := World.block_lt_of_cell? _ _ hw320_2; first | rwa [add_block] at this | exact this) GW328.out)) | (dsimp only; exact Nat.ne_of_lt (Nat.lt_of_lt_of_le (by have := World.block_lt_of_cell? _ _ hw320_2; first | rwa [add_block] at this | exact this) GW328.out))) _).trans (((cell_far (p := ⟨gb328, _, none⟩) (by first | exact Nat.ne_of_lt (Nat.lt_of_lt_of_le (by have := World.block_lt_of_cell? _ _ hw320_2; first | rwa [add_block] at this | exact this) GW328.out) | (rw [add_block]; exact Nat.ne_of_lt (Nat.lt_of_lt_of_le (by have := World.block_lt_of_cell? _ _ hw320_2; first | rwa [add_block] at this | exact this) GW328.out)) | (show (Addr.add _ _).block ≠ _; rw [add_block]; exact Nat.ne_of_lt (Nat.lt_of_lt_of_le (by have := World.block_lt_of_cell? _ _ hw320_2; first | rwa [add_block] at this | exact this) GW328.out)) | (dsimp only; exact Nat.ne_of_lt (Nat.lt_of_lt_of_le (by have := World.block_lt_of_cell? _ _ hw320_2; first | rwa [add_block] at this | exact this) GW328.out))) _).trans (hHeld.2.2.2.2.2.2.2.2.1)))))), ((cell_far (p := ⟨gb328, _, none⟩) (by first | exact Nat.ne_of_lt (Nat.lt_of_lt_of_le (by have := World.block_lt_of_cell? _ _ hw321_0; first | rwa [add_block] at this | exact this) GW328.out) | (rw [add_block]; exact Nat.ne_of_lt (Nat.lt_of_lt_of_le (by have := World.block_lt_of_cell? _ _ hw321_0; first | rwa [add_block] at this | exact this) GW328.out)) | (show (Addr.add _ _).block ≠ _; rw [add_block]; exact Nat.ne_of_lt (Nat.lt_of_lt_of_le (by have := World.block_lt_of_cell? _ _ hw321_0; first | rwa [add_block] at this | exact this) GW328.out)) | (dsimp only; exact Nat.ne_of_lt (Nat.lt_of_lt_of_le (by have := World.block_lt_of_cell? _ _ hw321_0; first | rwa [add_block] at this | exact this) GW328.out))) _).trans (((cell_far (p := ⟨gb328, _, none⟩) (by first | exact Nat.ne_of_lt (Nat.lt_of_lt_of_le (by have := World.block_lt_of_cell? _ _ hw321_0; first | rwa [add_block] at this | exact this) GW328.out) | (rw [add_block]; exact Nat.ne_of_lt (Nat.lt_of_lt_of_le (by have := World.block_lt_of_cell? _ _ hw321_0; first | rwa [add_block] at this | exact this) GW328.out)) | (show (Addr.add _ _).block ≠ _; rw [add_block]; exact Nat.ne_of_lt (Nat.lt_of_lt_of_le (by have := World.block_lt_of_cell? _ _ hw321_0; first | rwa [add_block] at this | exact this) GW328.out)) | (dsimp only; exact Nat.ne_of_lt (Nat.lt_of_lt_of_le (by have := World.block_lt_of_cell? _ _ hw321_0; first | rwa [add_block] at this | exact this) GW328.out))) _).trans (((cell_far (p := ⟨gb328, _, none⟩) (by first | exact Nat.ne_of_lt (Nat.lt_of_lt_of_le (by have := World.block_lt_of_cell? _ _ hw321_0; first | rwa [add_block] at this | exact this) GW328.out) | (rw [add_block]; exact Nat.ne_of_lt (Nat.lt_of_lt_of_le (by have := World.block_lt_of_cell? _ _ hw321_0; first | rwa [add_block] at this | exact this) GW328.out)) | (show (Addr.add _ _).block ≠ _; rw [add_block]; exact Nat.ne_of_lt (Nat.lt_of_lt_of_le (by have := World.block_lt_of_cell? _ _ hw321_0; first | rwa [add_block] at this | exact this) GW328.out)) | (dsimp only; exact Nat.ne_of_lt (Nat.lt_of_lt_of_le (by have := World.block_lt_of_cell? _ _ hw321_0; first | rwa [add_block] at this | exact this) GW328.out))) _).trans (hHeld.2.2.2.2.2.2.2.2.2.1)))))), ((cell_far (p := ⟨gb328, _, none⟩) (by first | exact Nat.ne_of_lt (Nat.lt_of_lt_of_le (by have := World.block_lt_of_cell? _ _ hw321_1; first | rwa [add_block] at this | exact this) GW328.out) | (rw [add_block]; exact Nat.ne_of_lt (Nat.lt_of_lt_of_le (by have := World.block_lt_of_cell? _ _ hw321_1; first | rwa [add_block] at this | exact this) GW328.out)) | (show (Addr.add _ _).block ≠ _; rw [add_block]; exact Nat.ne_of_lt (Nat.lt_of_lt_of_le (by have := World.block_lt_of_cell? _ _ hw321_1; first | rwa [add_block] at this | exact this) GW328.out)) | (dsimp only; exact Nat.ne_of_lt (Nat.lt_of_lt_of_le (by have := World.block_lt_of_cell? _ _ hw321_1; first | rwa [add_block] at this | exact this) GW328.out))) _).trans (((cell_far (p := ⟨gb328, _, none⟩) (by first | exact Nat.ne_of_lt (Nat.lt_of_lt_of_le (by have := World.block_lt_of_cell? _ _ hw321_1; first | rwa [add_block] at this | exact this) GW328.out) | (rw [add_block]; exact Nat.ne_of_lt (Nat.lt_of_lt_of_le (by have := World.block_lt_of_cell? _ _ hw321_1; first | rwa [add_block] at this | exact this) GW328.out)) | (show (Addr.add _ _).block ≠ _; rw [add_block]; exact Nat.ne_of_lt (Nat.lt_of_lt_of_le (by have := World.block_lt_of_cell? _ _ hw321_1; first | rwa [add_block] at this | exact this) GW328.out)) | (dsimp only; exact Nat.ne_of_lt (Nat.lt_of_lt_of_le (by have := World.block_lt_of_cell? _ _ hw321_1; first | rwa [add_block] at this | exact this) GW328.out))) _).trans (((cell_far (p := ⟨gb328, _, none⟩) (by first | exact Nat.ne_of_lt (Nat.lt_of_lt_of_le (by have := World.block_lt_of_cell? _ _ hw321_1; first | rwa [add_block] at this | exact this) GW328.out) | (rw [add_block]; exact Nat.ne_of_lt (Nat.lt_of_lt_of_le (by have := World.block_lt_of_cell? _ _ hw321_1; first | rwa [add_block] at this | exact this) GW328.out)) | (show (Addr.add _ _).block ≠ _; rw [add_block]; exact Nat.ne_of_lt (Nat.lt_of_lt_of_le (by have := World.block_lt_of_cell? _ _ hw321_1; first | rwa [add_block] at this | exact this) GW328.out)) | (dsimp only; exact Nat.ne_of_lt (Nat.lt_of_lt_of_le (by have := World.block_lt_of_cell? _ _ hw321_1; first | rwa [add_block] at this | exact this) GW328.out))) _).trans (hHeld.2.2.2.2.2.2.2.2.2.2.1)))))), ((cell_far (p := ⟨gb328, _, none⟩) (by first | exact Nat.ne_of_lt (Nat.lt_of_lt_of_le (by have := World.block_lt_of_cell? _ _ hw321_2; first | rwa [add_block] at this | exact this) GW328.out) | (rw [add_block]; exact Nat.ne_of_lt (Nat.lt_of_lt_of_le (by have := World.block_lt_of_cell? _ _ hw321_2; first | rwa [add_block] at this | exact this) GW328.out)) | (show (Addr.add _ _).block ≠ _; rw [add_block]; exact Nat.ne_of_lt (Nat.lt_of_lt_of_le (by have := World.block_lt_of_cell? _ _ hw321_2; first | rwa [add_block] at this | exact this) GW328.out)) | (dsimp only; exact Nat.ne_of_lt (Nat.lt_of_lt_of_le (by have := World.block_lt_of_cell? _ _ hw321_2; first | rwa [add_block] at this | exact this) GW328.out))) _).trans (((cell_far (p := ⟨gb328, _, none⟩) (by first | exact Nat.ne_of_lt (Nat.lt_of_lt_of_le (by have := World.block_lt_of_cell? _ _ hw321_2; first | rwa [add_block] at this | exact this) GW328.out) | (rw [add_block]; exact Nat.ne_of_lt (Nat.lt_of_lt_of_le (by have := World.block_lt_of_cell? _ _ hw321_2; first | rwa [add_block] at this | exact this) GW328.out)) | (show (Addr.add _ _).block ≠ _; rw [add_block]; exact Nat.ne_of_lt (Nat.lt_of_lt_of_le (by have := World.block_lt_of_cell? _ _ hw321_2; first | rwa [add_block] at this | exact this) GW328.out)) | (dsimp only; exact Nat.ne_of_lt (Nat.lt_of_lt_of_le (by have := World.block_lt_of_cell? _ _ hw321_2; first | rwa [add_block] at this | exact this) GW328.out))) _).trans (((cell_far (p := ⟨gb328, _, none⟩) (by first | exact Nat.ne_of_lt (Nat.lt_of_lt_of_le (by have := World.block_lt_of_cell? _ _ hw321_2; first | rwa [add_block] at this | exact this) GW328.out) | (rw [add_block]; exact Nat.ne_of_lt (Nat.lt_of_lt_of_le (by have := World.block_lt_of_cell? _ _ hw321_2; first | rwa [add_block] at this | exact this) GW328.out)) | (show (Addr.add _ _).block ≠ _; rw [add_block]; exact Nat.ne_of_lt (Nat.lt_of_lt_of_le (by have := World.block_lt_of_cell? _ _ hw321_2; first | rwa [add_block] at this | exact this) GW328.out)) | (dsimp only; exact Nat.ne_of_lt (Nat.lt_of_lt_of_le (by have := World.block_lt_of_cell? _ _ hw321_2; first | rwa [add_block] at this | exact this) GW328.out))) _).trans (hHeld.2.2.2.2.2.2.2.2.2.2.2))))))⟩ (fun hHeld => ?_)
                  clear hK K
                  refine pure_ (i := 22) (N := some 8) (v := ?_) (a' := ?_) #[true, true, true, true, true, true, true, true, true, true, true, true, true, true, true, true, true, true, true, true, true, true, true] rfl rfl (any_of HT_.out (by kernel_rfl)) (fun _ _ _ h => h) (Or.inl ⟨by rfl, ?_⟩) ?_ ?_
                  rotate_left
                  · intro w'
                    go_simp
                    with_reducible rfl
                  rotate_left
                  · simp only [Act.put, List.setIfInBounds_toArray, List.set_cons_zero, List.set_cons_succ, i64_w, i32_w]
                    rfl
                  refine done_ (done_of HT_.out (by kernel_rfl)) ?_
                  have n0_ : Aside0 (Kd.R (Kd.int .u8) 5 (((w19.setCell ⟨gb328, 0, none⟩ (.int .u64 t322)).setCell ⟨gb328, 1, none⟩ (.int .u32 t323)).setCell ⟨gb328, 2, none⟩ (.slice Ao22 t324.length co22)) w.heap.size (fun k_ => some k_ ≠ (.slice Ao22 t324.length co22 : Value).ownBlock) (.slice Ao15 x318002_1.length co15) x318002_1) := ⟨by (with_reducible repeat (first | apply Kd.R_alloc | apply Kd.R_drewN | apply Kd.R_drew)); exact Kd.R_mono (Kd.R_far (p := ⟨gb328, 2, none⟩) (Kd.R_far (p := ⟨gb328, 1, none⟩) (Kd.R_far (p := ⟨gb328, 0, none⟩) (Kd.R_types HO_318002.out BK328.out (by decide)) (fun _ hk => hk.2) (.int .u64 t322)) (fun _ hk => hk.2) (.int .u32 t323)) (fun _ hk => hk.2) (.slice Ao22 t324.length co22)) (fun _ hk => hk.1)⟩
                  have n1_ : Aside0 (Kd.R (Kd.int .u8) 5 (((w19.setCell ⟨gb328, 0, none⟩ (.int .u64 t322)).setCell ⟨gb328, 1, none⟩ (.int .u32 t323)).setCell ⟨gb328, 2, none⟩ (.slice Ao22 t324.length co22)) w.heap.size (fun k_ => some k_ ≠ (.slice Ao15 x318002_1.length co15 : Value).ownBlock) (.slice Ao22 t324.length co22) t324) := ⟨by (with_reducible repeat (first | apply Kd.R_alloc | apply Kd.R_drewN | apply Kd.R_drew)); exact Kd.R_mono (Kd.R_far (p := ⟨gb328, 2, none⟩) (Kd.R_far (p := ⟨gb328, 1, none⟩) (Kd.R_far (p := ⟨gb328, 0, none⟩) (Kd.R_types HO326.out BK328.out (by decide)) (fun _ hk => hk.2) (.int .u64 t322)) (fun _ hk => hk.2) (.int .u32 t323)) (fun _ hk => hk.2) (.slice Ao22 t324.length co22)) (fun _ hk => hk.1)⟩
                  have n2_ : Aside0 ((((w19.setCell ⟨gb328, 0, none⟩ (.int .u64 t322)).setCell ⟨gb328, 1, none⟩ (.int .u32 t323)).setCell ⟨gb328, 2, none⟩ (.slice Ao22 t324.length co22)).heap[gb317]? = some (.cells #[.int .u64 x318000_1, .int .u32 x318001_1, .slice Ao15 x318002_1.length co15] 26 (0, 0))) := ⟨by (with_reducible repeat (first | refine blk_drewN ?_ _ | refine blk_drew ?_ | refine blk_alloc ?_ _)); refine blk_far ?_ NB317_328.out _; (with_reducible repeat (first | refine blk_drewN ?_ _ | refine blk_drew ?_ | refine blk_alloc ?_ _)); refine blk_far ?_ NB317_328.out _; (with_reducible repeat (first | refine blk_drewN ?_ _ | refine blk_drew ?_ | refine blk_alloc ?_ _)); refine blk_far ?_ NB317_328.out _; (with_reducible repeat (first | refine blk_drewN ?_ _ | refine blk_drew ?_ | refine blk_alloc ?_ _)); exact BK317.out⟩
                  have n3_ : Aside0 ((((w19.setCell ⟨gb328, 0, none⟩ (.int .u64 t322)).setCell ⟨gb328, 1, none⟩ (.int .u32 t323)).setCell ⟨gb328, 2, none⟩ (.slice Ao22 t324.length co22)).heap[gb328]? = some (.cells #[.int .u64 t322, .int .u32 t323, .slice Ao22 t324.length co22] 26 (0, 0))) := ⟨by (with_reducible repeat (first | refine blk_drewN ?_ _ | refine blk_drew ?_ | refine blk_alloc ?_ _)); refine blk_put (cs := #[.int .u64 t322, .int .u32 t323, .slice none 0 0]) ?_ 2 _ rfl; (with_reducible repeat (first | refine blk_drewN ?_ _ | refine blk_drew ?_ | refine blk_alloc ?_ _)); refine blk_put (cs := #[.int .u64 t322, .int .u32 0, .slice none 0 0]) ?_ 1 _ rfl; (with_reducible repeat (first | refine blk_drewN ?_ _ | refine blk_drew ?_ | refine blk_alloc ?_ _)); refine blk_put (cs := #[.int .u64 0, .int .u32 0, .slice none 0 0]) ?_ 0 _ rfl; (with_reducible repeat (first | refine blk_drewN ?_ _ | refine blk_drew ?_ | refine blk_alloc ?_ _)); exact BK328.out⟩
                  have n4_ : Aside0 (Below w.heap.size w (((w19.setCell ⟨gb328, 0, none⟩ (.int .u64 t322)).setCell ⟨gb328, 1, none⟩ (.int .u32 t323)).setCell ⟨gb328, 2, none⟩ (.slice Ao22 t324.length co22))) := ⟨by repeat (first | (with_reducible first | exact HB.out | apply below_alloc | apply pw_below_drewN | apply below_drew1 | refine below_set ?_ GE317.out | refine below_set ?_ GE328.out) | exact HB.out)⟩
                  (try clear HO_318002)
                  (try clear HO326)
                  (try clear BK317)
                  (try clear BK328)
                  (try clear HB)
                  generalize (((w19.setCell ⟨gb328, 0, none⟩ (.int .u64 t322)).setCell ⟨gb328, 1, none⟩ (.int .u32 t323)).setCell ⟨gb328, 2, none⟩ (.slice Ao22 t324.length co22)) = w24 at n0_ n1_ n2_ n3_ n4_ ⊢
                  have HO_318002 := n0_
                  have HO326 := n1_
                  have BK317 := n2_
                  have BK328 := n3_
                  have HB := n4_
                  clear n0_ n1_ n2_ n3_ n4_
                  have p329 : 0 ≤ (x6_1 : Int) := of_decide_eq_true (by first | (with_reducible assumption) | assumption)
                  have q329 : x6_1 < (l0.length : Int) := of_decide_eq_true (by first | (with_reducible assumption) | assumption)
                  obtain ⟨ad329, e329, hx329_0, hx329_1, hx329_2⟩ := at_T53 HR0.out x6_1 p329 q329
                  obtain rfl : ad319 = ad329 := (by injection e329)
                  replace hx329_0 := (HB.out.cell (World.block_lt_of_cell? w _ hx329_0)).trans hx329_0
                  replace hx329_1 := (HB.out.cell (World.block_lt_of_cell? w _ hx329_1)).trans hx329_1
                  replace hx329_2 := (HB.out.cell (World.block_lt_of_cell? w _ hx329_2)).trans hx329_2
                  replace p329 := eq_true p329
                  replace q329 := eq_true q329
                  try go_wp2_with (first | ((with_reducible refine gate_callee (f := 30) rfl ?_); refine goesL_ (some 53) rfl rfl Try.func30 (by kernel_rfl) rfl #[.int .u64 (IntKind.u64.wrap ((IntKind.u64.wrap ((rd_T53 l0 x6_1).f2)) - 1))] rfl (by (try simp only [List.map_toArray, List.map_cons, List.map_nil]); first | done | rfl | (simp only [List.length_drop, List.length_take]; rfl)) ?_; (with_reducible refine (psalteryref03_Log2.calls kj6 (IntKind.u64.wrap ((IntKind.u64.wrap ((rd_T53 l0 x6_1).f2)) - 1)) t330 _ A14.out).mono ?_); rintro e w' ⟨rfl, ⟨nd, rfl⟩⟩; refine ⟨_, rfl, ?_⟩; (try (rw [drewN_self w24]; generalize hq_ : World.drewN w24 _ = w24; have n0_ : Aside0 (Kd.R (Kd.int .u8) 5 w24 w.heap.size (fun k_ => some k_ ≠ (.slice Ao15 x318002_1.length co15 : Value).ownBlock) (.slice Ao22 t324.length co22) t324) := ⟨by rw [← hq_]; exact (by (with_reducible repeat (first | apply Kd.R_alloc | apply Kd.R_drewN | apply Kd.R_drew)); exact HO326.out)⟩; have n1_ : Aside0 (Kd.R (Kd.int .u8) 5 w24 w.heap.size (fun k_ => some k_ ≠ (.slice Ao22 t324.length co22 : Value).ownBlock) (.slice Ao15 x318002_1.length co15) x318002_1) := ⟨by rw [← hq_]; exact (by (with_reducible repeat (first | apply Kd.R_alloc | apply Kd.R_drewN | apply Kd.R_drew)); exact HO_318002.out)⟩; have n2_ : Aside0 (w24.heap[gb317]? = some (.cells #[.int .u64 x318000_1, .int .u32 x318001_1, .slice Ao15 x318002_1.length co15] 26 (0, 0))) := ⟨by rw [← hq_]; exact (by (with_reducible repeat (first | refine blk_drewN ?_ _ | refine blk_drew ?_ | refine blk_alloc ?_ _)); exact BK317.out)⟩; have n3_ : Aside0 (w24.heap[gb328]? = some (.cells #[.int .u64 t322, .int .u32 t323, .slice Ao22 t324.length co22] 26 (0, 0))) := ⟨by rw [← hq_]; exact (by (with_reducible repeat (first | refine blk_drewN ?_ _ | refine blk_drew ?_ | refine blk_alloc ?_ _)); exact BK328.out)⟩; have n4_ : Aside0 (Below w.heap.size w w24) := ⟨by rw [← hq_]; exact (by repeat (first | (with_reducible first | exact HB.out | apply below_alloc | apply pw_below_drewN | apply below_drew1 | refine below_set ?_ GE317.out | refine below_set ?_ GE328.out) | exact HB.out))⟩; clear HO326 HO_318002 BK317 BK328 HB hq_; have HO326 := n0_; have HO_318002 := n1_; have BK317 := n2_; have BK328 := n3_; have HB := n4_; clear n0_ n1_ n2_ n3_ n4_)); have hnb25 := NB328_317.out; have hnc25 := NB317_328.out; have hcz26_0 : w24.cell? ⟨gb328, 0, none⟩ = some (.int .u64 t322) := (blk_cell BK328.out 0).trans rfl; have hcz26_1 : w24.cell? ⟨gb328, 1, none⟩ = some (.int .u32 t323) := (blk_cell BK328.out 1).trans rfl; have hcz26_2 : w24.cell? ⟨gb328, 2, none⟩ = some (.slice Ao22 t324.length co22) := (blk_cell BK328.out 2).trans rfl; have hfz26_0 := blk_frozen BK328.out 0; have hfz26_1 := blk_frozen BK328.out 1; have hfz26_2 := blk_frozen BK328.out 2; have hcz27_0 : w24.cell? ⟨gb317, 0, none⟩ = some (.int .u64 x318000_1) := (blk_cell BK317.out 0).trans rfl; have hcz27_1 : w24.cell? ⟨gb317, 1, none⟩ = some (.int .u32 x318001_1) := (blk_cell BK317.out 1).trans rfl; have hcz27_2 : w24.cell? ⟨gb317, 2, none⟩ = some (.slice Ao15 x318002_1.length co15) := (blk_cell BK317.out 2).trans rfl; have hfz27_0 := blk_frozen BK317.out 0; have hfz27_1 := blk_frozen BK317.out 1; have hfz27_2 := blk_frozen BK317.out 2))
                  go_roundg kj6
                  case measure => have := HK1.out; have := HJ6.out; omega
                  case rel => exact ⟨(wrap64 (x4_1 + 1)), (wrap64 ((wrap64 (x5_1 + 1)) + t330)), (wrap64 (x6_1 + 1)), (t322), (t323), (t324), (.slice Ao22 t324.length co22), (by first | rfl | (simp; done) | (simp [*]; done)), (by first | rfl | (simp; done) | (simp [*]; done)), (by first | rfl | (simp; done) | (simp [*]; done)), H', ⟨by have := HK1.out; have := HJ6.out; omega⟩, ⟨by (with_reducible repeat (first | apply Kd.R_alloc | apply Kd.R_drewN | apply Kd.R_drew)); exact Kd.R_mono (Kd.R_far (p := ⟨gb317, 2, none⟩) (Kd.R_far (p := ⟨gb317, 1, none⟩) (Kd.R_far (p := ⟨gb317, 0, none⟩) (Kd.R_types HO326.out BK317.out (by decide)) (fun _ hk => hk.2) (.int .u64 t322)) (fun _ hk => hk.2) (.int .u32 t323)) (fun _ hk => hk.2) (.slice Ao22 t324.length co22)) (fun _ hk => trivial)⟩, ⟨by (with_reducible repeat (first | refine blk_drewN ?_ _ | refine blk_drew ?_ | refine blk_alloc ?_ _)); refine blk_put (cs := #[.int .u64 t322, .int .u32 t323, .slice Ao15 x318002_1.length co15]) ?_ 2 _ rfl; (with_reducible repeat (first | refine blk_drewN ?_ _ | refine blk_drew ?_ | refine blk_alloc ?_ _)); refine blk_put (cs := #[.int .u64 t322, .int .u32 x318001_1, .slice Ao15 x318002_1.length co15]) ?_ 1 _ rfl; (with_reducible repeat (first | refine blk_drewN ?_ _ | refine blk_drew ?_ | refine blk_alloc ?_ _)); refine blk_put (cs := #[.int .u64 x318000_1, .int .u32 x318001_1, .slice Ao15 x318002_1.length co15]) ?_ 0 _ rfl; (with_reducible repeat (first | refine blk_drewN ?_ _ | refine blk_drew ?_ | refine blk_alloc ?_ _)); exact BK317.out⟩, ⟨by repeat (first | (with_reducible first | exact HB.out | apply below_alloc | apply pw_below_drewN | apply below_drew1 | refine below_set ?_ GE317.out | refine below_set ?_ GE328.out) | exact HB.out)⟩⟩
                · rw [if_neg c13] at H
                  have c13b0 : (t327 == 0) = false := beq_eq_false_iff_ne.mpr c13
                  have c13b1 : (t327 != 0) = true := bne_iff_ne.mpr c13
                  have H' := Aside0.mk H
                  clear H
                  obtain ⟨Ao28, co28, eo28⟩ := Kd.R_slice HO_318002.out
                  subst eo28
                  try go_wp2
                  have n0_ := Aside0.mk (Kd.R_drew HO_318002.out)
                  have n1_ := Aside0.mk (blk_drew BK317.out)
                  have n2_ := Aside0.mk (below_drew1 HB.out)
                  clear HO_318002
                  clear BK317
                  clear HB
                  have HO_318002 := n0_
                  have BK317 := n1_
                  have HB := n2_
                  clear n0_ n1_ n2_
                  have p319 : 0 ≤ (x6_1 : Int) := of_decide_eq_true (by first | (with_reducible assumption) | assumption)
                  have q319 : x6_1 < (l0.length : Int) := of_decide_eq_true (by first | (with_reducible assumption) | assumption)
                  obtain ⟨ad319, e319, hx319_0, hx319_1, hx319_2⟩ := at_T53 HR0.out x6_1 p319 q319
                  have hw319_2 := hx319_2
                  have hw319_1 := hx319_1
                  have hw319_0 := hx319_0
                  cases e319
                  replace hx319_0 := (HB.out.cell (World.block_lt_of_cell? w _ hx319_0)).trans hx319_0
                  replace hx319_1 := (HB.out.cell (World.block_lt_of_cell? w _ hx319_1)).trans hx319_1
                  replace hx319_2 := (HB.out.cell (World.block_lt_of_cell? w _ hx319_2)).trans hx319_2
                  replace p319 := eq_true p319
                  replace q319 := eq_true q319
                  have p320 : 0 ≤ (x6_1 : Int) := of_decide_eq_true (by first | (with_reducible assumption) | assumption)
                  have q320 : x6_1 < (l0.length : Int) := of_decide_eq_true (by first | (with_reducible assumption) | assumption)
                  obtain ⟨ad320, e320, hx320_0, hx320_1, hx320_2⟩ := at_T53 HR0.out x6_1 p320 q320
                  have hw320_2 := hx320_2
                  have hw320_1 := hx320_1
                  have hw320_0 := hx320_0
                  obtain rfl : ad319 = ad320 := (by injection e320)
                  replace hx320_0 := (HB.out.cell (World.block_lt_of_cell? w _ hx320_0)).trans hx320_0
                  replace hx320_1 := (HB.out.cell (World.block_lt_of_cell? w _ hx320_1)).trans hx320_1
                  replace hx320_2 := (HB.out.cell (World.block_lt_of_cell? w _ hx320_2)).trans hx320_2
                  replace p320 := eq_true p320
                  replace q320 := eq_true q320
                  have p321 : 0 ≤ (x6_1 : Int) := of_decide_eq_true (by first | (with_reducible assumption) | assumption)
                  have q321 : x6_1 < (l0.length : Int) := of_decide_eq_true (by first | (with_reducible assumption) | assumption)
                  obtain ⟨ad321, e321, hx321_0, hx321_1, hx321_2⟩ := at_T53 HR0.out x6_1 p321 q321
                  have hw321_2 := hx321_2
                  have hw321_1 := hx321_1
                  have hw321_0 := hx321_0
                  obtain rfl : ad319 = ad321 := (by injection e321)
                  replace hx321_0 := (HB.out.cell (World.block_lt_of_cell? w _ hx321_0)).trans hx321_0
                  replace hx321_1 := (HB.out.cell (World.block_lt_of_cell? w _ hx321_1)).trans hx321_1
                  replace hx321_2 := (HB.out.cell (World.block_lt_of_cell? w _ hx321_2)).trans hx321_2
                  replace p321 := eq_true p321
                  replace q321 := eq_true q321
                  refine start_ (n := 23) (S := fun w' => w'.cell? ⟨gb317, 0, none⟩ = some (.int .u64 x318000_1) ∧ w'.cell? ⟨gb317, 1, none⟩ = some (.int .u32 x318001_1) ∧ w'.cell? ⟨gb317, 2, none⟩ = some (.slice Ao28 x318002_1.length co28) ∧ w'.cell? (ad319.add ((x6_1).toNat * 3)) = some (.int .i64 ((rd_T53 l0 x6_1).f0)) ∧ w'.cell? ⟨(ad319.add ((x6_1).toNat * 3)).block, (ad319.add ((x6_1).toNat * 3)).off + 1, none⟩ = some (.int .i64 ((rd_T53 l0 x6_1).f1)) ∧ w'.cell? ⟨(ad319.add ((x6_1).toNat * 3)).block, (ad319.add ((x6_1).toNat * 3)).off + 2, none⟩ = some (.int .i64 ((rd_T53 l0 x6_1).f2)) ∧ w'.cell? (ad319.add ((x6_1).toNat * 3)) = some (.int .i64 ((rd_T53 l0 x6_1).f0)) ∧ w'.cell? ⟨(ad319.add ((x6_1).toNat * 3)).block, (ad319.add ((x6_1).toNat * 3)).off + 1, none⟩ = some (.int .i64 ((rd_T53 l0 x6_1).f1)) ∧ w'.cell? ⟨(ad319.add ((x6_1).toNat * 3)).block, (ad319.add ((x6_1).toNat * 3)).off + 2, none⟩ = some (.int .i64 ((rd_T53 l0 x6_1).f2)) ∧ w'.cell? (ad319.add ((x6_1).toNat * 3)) = some (.int .i64 ((rd_T53 l0 x6_1).f0)) ∧ w'.cell? ⟨(ad319.add ((x6_1).toNat * 3)).block, (ad319.add ((x6_1).toNat * 3)).off + 1, none⟩ = some (.int .i64 ((rd_T53 l0 x6_1).f1)) ∧ w'.cell? ⟨(ad319.add ((x6_1).toNat * 3)).block, (ad319.add ((x6_1).toNat * 3)).off + 2, none⟩ = some (.int .i64 ((rd_T53 l0 x6_1).f2))) (ds := []) #[false, false, false, false, false, false, false, false, false, false, false, false, false, false, false, false, false, false, false, false, false, false, false] (by kernel_rfl) rfl rfl ⟨(blk_cell BK317.out 0).trans rfl, (blk_cell BK317.out 1).trans rfl, (blk_cell BK317.out 2).trans rfl, ((HB.out.cell (World.block_lt_of_cell? w _ hw319_0)).trans hw319_0), ((HB.out.cell (World.block_lt_of_cell? w _ hw319_1)).trans hw319_1), ((HB.out.cell (World.block_lt_of_cell? w _ hw319_2)).trans hw319_2), ((HB.out.cell (World.block_lt_of_cell? w _ hw320_0)).trans hw320_0), ((HB.out.cell (World.block_lt_of_cell? w _ hw320_1)).trans hw320_1), ((HB.out.cell (World.block_lt_of_cell? w _ hw320_2)).trans hw320_2), ((HB.out.cell (World.block_lt_of_cell? w _ hw321_0)).trans hw321_0), ((HB.out.cell (World.block_lt_of_cell? w _ hw321_1)).trans hw321_1), ((HB.out.cell (World.block_lt_of_cell? w _ hw321_2)).trans hw321_2)⟩ (fun hHeld => ?_); refine with_tabW psalterylaw05_CoderShort.tab7 psalterylaw05_CoderShort.bits7 (fun HT_ HW_ => ?_)
                  generalize wc.drew = w29 at HO_318002 BK317 HB hx319_0 hx319_1 hx319_2 hx320_0 hx320_1 hx320_2 hx321_0 hx321_1 hx321_2 hHeld ⊢
                  refine pure_ (i := 1) (N := some 22) (v := ?_) (a' := ?_) #[false, true, false, false, false, false, false, false, false, false, false, false, false, false, false, false, false, false, false, false, false, false, false] rfl rfl (any_of HT_.out (by kernel_rfl)) (fun _ _ _ h => h) (Or.inl ⟨by rfl, ?_⟩) ?_ ?_
                  rotate_left
                  · intro w'
                    go_simp
                    with_reducible rfl
                  rotate_left
                  · simp only [Act.put, List.setIfInBounds_toArray, List.set_cons_zero, List.set_cons_succ, i64_w, i32_w]
                    rfl
                  refine pure_ (i := 2) (N := some 23) (v := ?_) (a' := ?_) #[false, true, true, false, false, false, false, false, false, false, false, false, false, false, false, false, false, false, false, false, false, false, false] rfl rfl (any_of HT_.out (by kernel_rfl)) (fun _ _ _ h => h) (Or.inl ⟨by rfl, ?_⟩) ?_ ?_
                  rotate_left
                  · intro w'
                    go_simp
                    with_reducible rfl
                  rotate_left
                  · simp only [Act.put, List.setIfInBounds_toArray, List.set_cons_zero, List.set_cons_succ, i64_w, i32_w]
                    rfl
                  refine pure_ (i := 3) (N := some 24) (v := ?_) (a' := ?_) #[false, true, true, true, false, false, false, false, false, false, false, false, false, false, false, false, false, false, false, false, false, false, false] rfl rfl (any_of HT_.out (by kernel_rfl)) (fun _ _ _ h => h) (Or.inl ⟨by rfl, ?_⟩) ?_ ?_
                  rotate_left
                  · intro w'
                    go_simp
                    with_reducible rfl
                  rotate_left
                  · simp only [Act.put, List.setIfInBounds_toArray, List.set_cons_zero, List.set_cons_succ, i64_w, i32_w]
                    rfl
                  refine pure_ (i := 4) (N := some 25) (v := ?_) (a' := ?_) #[false, true, true, true, true, false, false, false, false, false, false, false, false, false, false, false, false, false, false, false, false, false, false] rfl rfl (any_of HT_.out (by kernel_rfl)) (fun _ _ _ h => h) (Or.inl ⟨by rfl, ?_⟩) ?_ ?_
                  rotate_left
                  · intro w'
                    go_simp
                    with_reducible rfl
                  rotate_left
                  · simp only [Act.put, List.setIfInBounds_toArray, List.set_cons_zero, List.set_cons_succ, i64_w, i32_w]
                    rfl
                  refine pure_ (i := 6) (N := some 27) (v := ?_) (a' := ?_) #[false, true, true, true, true, false, true, false, false, false, false, false, false, false, false, false, false, false, false, false, false, false, false] rfl rfl (any_of HT_.out (by kernel_rfl)) (fun _ _ _ h => h) (Or.inl ⟨by rfl, ?_⟩) ?_ ?_
                  rotate_left
                  · intro w'
                    go_simp
                    with_reducible rfl
                  rotate_left
                  · simp only [Act.put, List.setIfInBounds_toArray, List.set_cons_zero, List.set_cons_succ, i64_w, i32_w]
                    rfl
                  refine pure_ (i := 7) (N := some 28) (v := ?_) (a' := ?_) #[false, true, true, true, true, false, true, true, false, false, false, false, false, false, false, false, false, false, false, false, false, false, false] rfl rfl (any_of HT_.out (by kernel_rfl)) (fun _ _ _ h => h) (Or.inl ⟨by rfl, ?_⟩) ?_ ?_
                  rotate_left
                  · intro w'
                    go_simp
                    with_reducible rfl
                  rotate_left
                  · simp only [Act.put, List.setIfInBounds_toArray, List.set_cons_zero, List.set_cons_succ, i64_w, i32_w]
                    rfl
                  refine pure_ (i := 8) (N := some 29) (v := ?_) (a' := ?_) #[false, true, true, true, true, false, true, true, true, false, false, false, false, false, false, false, false, false, false, false, false, false, false] rfl rfl (any_of HT_.out (by kernel_rfl)) (fun _ _ _ h => h) (Or.inl ⟨by rfl, ?_⟩) ?_ ?_
                  rotate_left
                  · intro w'
                    go_simp
                    with_reducible rfl
                  rotate_left
                  · simp only [Act.put, List.setIfInBounds_toArray, List.set_cons_zero, List.set_cons_succ, i64_w, i32_w]
                    rfl
                  refine pure_ (i := 9) (N := some 30) (v := ?_) (a' := ?_) #[false, true, true, true, true, false, true, true, true, true, false, false, false, false, false, false, false, false, false, false, false, false, false] rfl rfl (any_of HT_.out (by kernel_rfl)) (fun _ _ _ h => h) (Or.inl ⟨by rfl, ?_⟩) ?_ ?_
                  rotate_left
                  · intro w'
                    go_simp
                    with_reducible rfl
                  rotate_left
                  · simp only [Act.put, List.setIfInBounds_toArray, List.set_cons_zero, List.set_cons_succ, i64_w, i32_w]
                    rfl
                  refine pure_ (i := 11) (N := some 32) (v := ?_) (a' := ?_) #[false, true, true, true, true, false, true, true, true, true, false, true, false, false, false, false, false, false, false, false, false, false, false] rfl rfl (any_of HT_.out (by kernel_rfl)) (fun _ _ _ h => h) (Or.inl ⟨by rfl, ?_⟩) ?_ ?_
                  rotate_left
                  · intro w'
                    go_simp
                    with_reducible rfl
                  rotate_left
                  · simp only [Act.put, List.setIfInBounds_toArray, List.set_cons_zero, List.set_cons_succ, i64_w, i32_w]
                    rfl
                  refine pure_ (i := 12) (N := some 33) (v := ?_) (a' := ?_) #[false, true, true, true, true, false, true, true, true, true, false, true, true, false, false, false, false, false, false, false, false, false, false] rfl rfl (any_of HT_.out (by kernel_rfl)) (fun _ _ _ h => h) (Or.inl ⟨by rfl, ?_⟩) ?_ ?_
                  rotate_left
                  · intro w'
                    go_simp
                    with_reducible rfl
                  rotate_left
                  · simp only [Act.put, List.setIfInBounds_toArray, List.set_cons_zero, List.set_cons_succ, i64_w, i32_w]
                    rfl
                  refine pure_ (i := 13) (N := some 34) (v := ?_) (a' := ?_) #[false, true, true, true, true, false, true, true, true, true, false, true, true, true, false, false, false, false, false, false, false, false, false] rfl rfl (any_of HT_.out (by kernel_rfl)) (fun _ _ _ h => h) (Or.inl ⟨by rfl, ?_⟩) ?_ ?_
                  rotate_left
                  · intro w'
                    go_simp
                    with_reducible rfl
                  rotate_left
                  · simp only [Act.put, List.setIfInBounds_toArray, List.set_cons_zero, List.set_cons_succ, i64_w, i32_w]
                    rfl
                  refine pure_ (i := 14) (N := some 35) (v := ?_) (a' := ?_) #[false, true, true, true, true, false, true, true, true, true, false, true, true, true, true, false, false, false, false, false, false, false, false] rfl rfl (any_of HT_.out (by kernel_rfl)) (fun _ _ _ h => h) (Or.inl ⟨by rfl, ?_⟩) ?_ ?_
                  rotate_left
                  · intro w'
                    go_simp
                    with_reducible rfl
                  rotate_left
                  · simp only [Act.put, List.setIfInBounds_toArray, List.set_cons_zero, List.set_cons_succ, i64_w, i32_w]
                    rfl
                  refine take_ (i := 0) (N := some 21) (v := ?_) (a' := ?_) #[true, true, true, true, true, false, true, true, true, true, false, true, true, true, true, false, false, false, false, false, false, false, false] rfl rfl (take_ofW HT_.out HW_.out (by kernel_rfl)) (fun _ _ _ h => h) (Or.inl ⟨by rfl, ?_⟩) hHeld ?_ ?_
                  rotate_left
                  · rintro w' ⟨s0, s1, s2, s3, s4, s5, s6, s7, s8, s9, s10, s11⟩
                    go_simp
                    with_reducible rfl
                  rotate_left
                  · simp only [Act.put, List.setIfInBounds_toArray, List.set_cons_zero, List.set_cons_succ, i64_w, i32_w]
                    rfl
                  refine take_ (i := 5) (N := some 26) (v := ?_) (a' := ?_) #[true, true, true, true, true, true, true, true, true, true, false, true, true, true, true, false, false, false, false, false, false, false, false] rfl rfl (take_ofW HT_.out HW_.out (by kernel_rfl)) (fun _ _ _ h => h) (Or.inl ⟨by rfl, ?_⟩) hHeld ?_ ?_
                  rotate_left
                  · rintro w' ⟨s0, s1, s2, s3, s4, s5, s6, s7, s8, s9, s10, s11⟩
                    go_simp
                    with_reducible rfl
                  rotate_left
                  · simp only [Act.put, List.setIfInBounds_toArray, List.set_cons_zero, List.set_cons_succ, i64_w, i32_w]
                    rfl
                  refine take_ (i := 10) (N := some 31) (v := ?_) (a' := ?_) #[true, true, true, true, true, true, true, true, true, true, true, true, true, true, true, false, false, false, false, false, false, false, false] rfl rfl (take_ofW HT_.out HW_.out (by kernel_rfl)) (fun _ _ _ h => h) (Or.inl ⟨by rfl, ?_⟩) hHeld ?_ ?_
                  rotate_left
                  · rintro w' ⟨s0, s1, s2, s3, s4, s5, s6, s7, s8, s9, s10, s11⟩
                    go_simp
                    with_reducible rfl
                  rotate_left
                  · simp only [Act.put, List.setIfInBounds_toArray, List.set_cons_zero, List.set_cons_succ, i64_w, i32_w]
                    rfl
                  refine take_ (i := 15) (N := some 36) (v := ?_) (a' := ?_) #[true, true, true, true, true, true, true, true, true, true, true, true, true, true, true, true, false, false, false, false, false, false, false] rfl rfl (take_ofW HT_.out HW_.out (by kernel_rfl)) (fun _ _ _ h => h) (Or.inl ⟨by rfl, ?_⟩) hHeld ?_ ?_
                  rotate_left
                  · rintro w' ⟨s0, s1, s2, s3, s4, s5, s6, s7, s8, s9, s10, s11⟩
                    go_simp
                    with_reducible rfl
                  rotate_left
                  · simp only [Act.put, List.setIfInBounds_toArray, List.set_cons_zero, List.set_cons_succ, i64_w, i32_w]
                    rfl
                  refine join_ (σ := Value × Nat) 2 #[true, true, true, true, true, true, true, true, true, true, true, true, true, true, true, true, true, true, true, true, true, false, false] (fun s_ => [(37, .tuple #[.agg #[.int .u64 t322, .int .u32 t323, s_.1], .int .i64 t327]), (7, .pointer (some ⟨s_.2, 0, none⟩)), (20, .tuple #[.agg #[.int .u64 t322, .int .u32 t323, s_.1], .int .i64 t327]), (38, .agg #[.int .u64 t322, .int .u32 t323, s_.1]), (39, .int .i64 t327)]) (fun s_ w' => (w'.cell? ⟨gb317, 0, none⟩ = some (.int .u64 x318000_1) ∧ w'.cell? ⟨gb317, 1, none⟩ = some (.int .u32 x318001_1) ∧ w'.cell? ⟨gb317, 2, none⟩ = some (.slice Ao28 x318002_1.length co28) ∧ w'.cell? (ad319.add ((x6_1).toNat * 3)) = some (.int .i64 ((rd_T53 l0 x6_1).f0)) ∧ w'.cell? ⟨(ad319.add ((x6_1).toNat * 3)).block, (ad319.add ((x6_1).toNat * 3)).off + 1, none⟩ = some (.int .i64 ((rd_T53 l0 x6_1).f1)) ∧ w'.cell? ⟨(ad319.add ((x6_1).toNat * 3)).block, (ad319.add ((x6_1).toNat * 3)).off + 2, none⟩ = some (.int .i64 ((rd_T53 l0 x6_1).f2)) ∧ w'.cell? (ad319.add ((x6_1).toNat * 3)) = some (.int .i64 ((rd_T53 l0 x6_1).f0)) ∧ w'.cell? ⟨(ad319.add ((x6_1).toNat * 3)).block, (ad319.add ((x6_1).toNat * 3)).off + 1, none⟩ = some (.int .i64 ((rd_T53 l0 x6_1).f1)) ∧ w'.cell? ⟨(ad319.add ((x6_1).toNat * 3)).block, (ad319.add ((x6_1).toNat * 3)).off + 2, none⟩ = some (.int .i64 ((rd_T53 l0 x6_1).f2)) ∧ w'.cell? (ad319.add ((x6_1).toNat * 3)) = some (.int .i64 ((rd_T53 l0 x6_1).f0)) ∧ w'.cell? ⟨(ad319.add ((x6_1).toNat * 3)).block, (ad319.add ((x6_1).toNat * 3)).off + 1, none⟩ = some (.int .i64 ((rd_T53 l0 x6_1).f1)) ∧ w'.cell? ⟨(ad319.add ((x6_1).toNat * 3)).block, (ad319.add ((x6_1).toNat * 3)).off + 2, none⟩ = some (.int .i64 ((rd_T53 l0 x6_1).f2))) ∧ (Kd.R (Kd.int .u8) 5 w' w.heap.size (fun k_ => some k_ ≠ (.slice Ao28 x318002_1.length co28 : Value).ownBlock) s_.1 t324) ∧ (Kd.R (Kd.int .u8) 5 w' w.heap.size (fun k_ => some k_ ≠ (s_.1 : Value).ownBlock) (.slice Ao28 x318002_1.length co28) x318002_1) ∧ (w'.heap[gb317]? = some (.cells #[.int .u64 x318000_1, .int .u32 x318001_1, .slice Ao28 x318002_1.length co28] 26 (0, 0))) ∧ (w'.heap[s_.2]? = some (.cells #[.int .u64 0, .int .u32 0, .slice none 0 0] 26 (0, 0))) ∧ (w.heap.size ≤ s_.2) ∧ (w.heap.size ≤ s_.2) ∧ (gb317 ≠ s_.2) ∧ (s_.2 ≠ gb317) ∧ (Below w.heap.size w w')) ?_ ?_
                  rotate_left
                  · intro hCont
                    refine two_ (i := 16) (j := 20) (Ni := some 37) (Nj := some 7) #[true, true, true, true, true, true, true, true, true, true, true, true, true, true, true, true, true, false, false, false, false, false, false] #[true, true, true, true, true, true, true, true, true, true, true, true, true, true, true, true, false, false, false, false, true, false, false] rfl rfl rfl rfl (two_of HT_.out (by kernel_rfl)) (by decide) (by decide) (fun K hK => ?_) (fun K hK => ?_)
                    · skip
                      refine goes_ Try.func18 (by kernel_rfl) rfl #[.agg #[.int .u64 x318000_1, .int .u32 x318001_1, .slice Ao28 x318002_1.length co28], .int .i64 ((rd_T53 l0 x6_1).f0), .int .i64 ((rd_T53 l0 x6_1).f1), .int .i64 ((rd_T53 l0 x6_1).f2)] (by rfl) rfl rfl (by (try simp only [List.map_toArray, List.map_cons, List.map_nil]); first | done | rfl | (simp only [List.length_drop, List.length_take]; rfl)) ?_
                      with_reducible refine (coder_Put.calls kj6 x318000_1 x318001_1 _ _ x318002_1 ((rd_T53 l0 x6_1).f0) ((rd_T53 l0 x6_1).f1) ((rd_T53 l0 x6_1).f2) t322 t323 t324 t327 _ ?side1 ?side2 A12.out).mono ?_
                      (case side1 => repeat (first | exact (Kd.R_reads' HO_318002.out).2.2 | (with_reducible refine Kd.C_alloc ?_ _) | (with_reducible refine Kd.C_drewN ?_ _) | (with_reducible refine Kd.C_drew ?_)))
                      (case side2 => exact (Kd.R_reads' HO_318002.out).2.1)
                      rintro e w30 ⟨v325, rfl, ho0, hb⟩
                      refine ⟨_, rfl, ?_⟩
                      have n0_ := Aside0.mk (Kd.R_elder' (by (with_reducible repeat (first | apply Kd.R_alloc | apply Kd.R_drewN | apply Kd.R_drew)); exact HO_318002.out) (Kd.R_base ho0) hb)
                      have n1_ := Aside0.mk (Kd.R_lower (Kd.R_new' ho0 (Kd.R_lt (by (with_reducible repeat (first | apply Kd.R_alloc | apply Kd.R_drewN | apply Kd.R_drew)); exact HO_318002.out))) (below_size (by repeat (first | (with_reducible first | exact HB.out | apply below_alloc | apply pw_below_drewN | apply below_drew1 | refine below_set ?_ GE317.out) | exact HB.out))))
                      have n2_ := Aside0.mk (blk_below (g := gb317) (o := .cells #[.int .u64 x318000_1, .int .u32 x318001_1, .slice Ao28 x318002_1.length co28] 26 (0, 0)) (by (with_reducible repeat (first | refine blk_drewN ?_ _ | refine blk_drew ?_ | refine blk_alloc ?_ _)); exact BK317.out) hb)
                      have n3_ := Aside0.mk (below_step (by repeat (first | (with_reducible first | exact HB.out | apply below_alloc | apply pw_below_drewN | apply below_drew1 | refine below_set ?_ GE317.out) | exact HB.out)) hb)
                      clear HO_318002
                      clear BK317
                      clear HB
                      have HO_318002 := n0_
                      have HO326 := n1_
                      have BK317 := n2_
                      have HB := n3_
                      clear n0_ n1_ n2_ n3_
                      (try clear hb)
                      (try clear hb2)
                      (try clear hk)
                      (try clear hi)
                      (try clear ho0)
                      refine hK.out _ _ ⟨(blk_cell BK317.out 0).trans rfl, (blk_cell BK317.out 1).trans rfl, (blk_cell BK317.out 2).trans rfl, ((HB.out.cell (World.block_lt_of_cell? w _ hw319_0)).trans hw319_0), ((HB.out.cell (World.block_lt_of_cell? w _ hw319_1)).trans hw319_1), ((HB.out.cell (World.block_lt_of_cell? w _ hw319_2)).trans hw319_2), ((HB.out.cell (World.block_lt_of_cell? w _ hw320_0)).trans hw320_0), ((HB.out.cell (World.block_lt_of_cell? w _ hw320_1)).trans hw320_1), ((HB.out.cell (World.block_lt_of_cell? w _ hw320_2)).trans hw320_2), ((HB.out.cell (World.block_lt_of_cell? w _ hw321_0)).trans hw321_0), ((HB.out.cell (World.block_lt_of_cell? w _ hw321_1)).trans hw321_1), ((HB.out.cell (World.block_lt_of_cell? w _ hw321_2)).trans hw321_2)⟩ (fun hHeld => ?_)
                      clear hK K
                      refine norm_ (a' := ?_) ?_ ?_
                      rotate_left
                      · show Act.put _ (some 37) _ = _
                        simp only [Act.put, List.setIfInBounds_toArray, List.set_cons_zero, List.set_cons_succ, i64_w, i32_w]
                        rfl
                      refine pure_ (i := 17) (N := some 20) (v := ?_) (a' := ?_) #[true, true, true, true, true, true, true, true, true, true, true, true, true, true, true, true, true, true, false, false, false, false, false] rfl rfl (any_of HT_.out (by kernel_rfl)) (fun _ _ _ h => h) (Or.inl ⟨by rfl, ?_⟩) ?_ ?_
                      rotate_left
                      · intro w'
                        go_simp
                        with_reducible rfl
                      rotate_left
                      · simp only [Act.put, List.setIfInBounds_toArray, List.set_cons_zero, List.set_cons_succ, i64_w, i32_w]
                        rfl
                      refine pure_ (i := 18) (N := some 38) (v := ?_) (a' := ?_) #[true, true, true, true, true, true, true, true, true, true, true, true, true, true, true, true, true, true, true, false, false, false, false] rfl rfl (any_of HT_.out (by kernel_rfl)) (fun _ _ _ h => h) (Or.inl ⟨by rfl, ?_⟩) ?_ ?_
                      rotate_left
                      · intro w'
                        go_simp
                        with_reducible rfl
                      rotate_left
                      · simp only [Act.put, List.setIfInBounds_toArray, List.set_cons_zero, List.set_cons_succ, i64_w, i32_w]
                        rfl
                      refine pure_ (i := 19) (N := some 39) (v := ?_) (a' := ?_) #[true, true, true, true, true, true, true, true, true, true, true, true, true, true, true, true, true, true, true, true, false, false, false] rfl rfl (any_of HT_.out (by kernel_rfl)) (fun _ _ _ h => h) (Or.inl ⟨by rfl, ?_⟩) ?_ ?_
                      rotate_left
                      · intro w'
                        go_simp
                        with_reducible rfl
                      rotate_left
                      · simp only [Act.put, List.setIfInBounds_toArray, List.set_cons_zero, List.set_cons_succ, i64_w, i32_w]
                        rfl
                      refine one_ (i := 20) (N := some 7) #[true, true, true, true, true, true, true, true, true, true, true, true, true, true, true, true, true, true, true, true, true, false, false] rfl rfl (one_of HT_.out (by kernel_rfl)) (by decide) (fun K hK => ?_)
                      refine box_step ?hg (N := 7) ?hd (cs := #[.int .u64 0, .int .u32 0, .slice none 0 0]) (t := 26) ?hr ?_; (case hd => rfl); (case hg => rfl); (case hr => first | (go_simp; done) | (go_simp; rfl))
                      intro gb328 hg w31 hbox hb
                      have n0_ := Aside0.mk (Kd.R_below (by (with_reducible repeat (first | apply Kd.R_alloc | apply Kd.R_drewN | apply Kd.R_drew)); exact HO_318002.out) hb)
                      have n1_ := Aside0.mk (Kd.R_below (by (with_reducible repeat (first | apply Kd.R_alloc | apply Kd.R_drewN | apply Kd.R_drew)); exact HO326.out) hb)
                      have n2_ := Aside0.mk (blk_below (g := gb317) (o := .cells #[.int .u64 x318000_1, .int .u32 x318001_1, .slice Ao28 x318002_1.length co28] 26 (0, 0)) (by (with_reducible repeat (first | refine blk_drewN ?_ _ | refine blk_drew ?_ | refine blk_alloc ?_ _)); exact BK317.out) hb)
                      have n3_ := Aside0.mk (below_step (by repeat (first | (with_reducible first | exact HB.out | apply below_alloc | apply pw_below_drewN | apply below_drew1 | refine below_set ?_ GE317.out) | exact HB.out)) hb)
                      have n4_ := Aside0.mk (hbox)
                      have n5_ := Aside0.mk ((by rw [hg]; exact (below_size (by repeat (first | (with_reducible first | exact HB.out | apply below_alloc | apply pw_below_drewN | apply below_drew1 | refine below_set ?_ GE317.out) | exact HB.out))) : w.heap.size ≤ gb328))
                      have n6_ := Aside0.mk ((by rw [hg]; exact (below_size (by repeat (first | (with_reducible first | exact HB.out | apply below_alloc | apply pw_below_drewN | apply below_drew1 | refine below_set ?_ GE317.out) | exact HB.out))) : w.heap.size ≤ gb328))
                      have n7_ := Aside0.mk ((by rw [hg]; exact Nat.ne_of_lt (blk_lt (g := gb317) (o := .cells #[.int .u64 x318000_1, .int .u32 x318001_1, .slice Ao28 x318002_1.length co28] 26 (0, 0)) (by (with_reducible repeat (first | refine blk_drewN ?_ _ | refine blk_drew ?_ | refine blk_alloc ?_ _)); exact BK317.out)) : gb317 ≠ gb328))
                      have n8_ := Aside0.mk ((by rw [hg]; exact Nat.ne_of_gt (blk_lt (g := gb317) (o := .cells #[.int .u64 x318000_1, .int .u32 x318001_1, .slice Ao28 x318002_1.length co28] 26 (0, 0)) (by (with_reducible repeat (first | refine blk_drewN ?_ _ | refine blk_drew ?_ | refine blk_alloc ?_ _)); exact BK317.out)) : gb328 ≠ gb317))
                      clear HO_318002
                      clear HO326
                      clear BK317
                      clear HB
                      have HO_318002 := n0_
                      have HO326 := n1_
                      have BK317 := n2_
                      have HB := n3_
                      have BK328 := n4_
                      have GW328 := n5_
                      have GE328 := n6_
                      have NB317_328 := n7_
                      have NB328_317 := n8_
                      clear n0_ n1_ n2_ n3_ n4_ n5_ n6_ n7_ n8_
                      clear hb hbox hg
                      refine hK.out _ _ ⟨(blk_cell BK317.out 0).trans rfl, (blk_cell BK317.out 1).trans rfl, (blk_cell BK317.out 2).trans rfl, ((HB.out.cell (World.block_lt_of_cell? w _ hw319_0)).trans hw319_0), ((HB.out.cell (World.block_lt_of_cell? w _ hw319_1)).trans hw319_1), ((HB.out.cell (World.block_lt_of_cell? w _ hw319_2)).trans hw319_2), ((HB.out.cell (World.block_lt_of_cell? w _ hw320_0)).trans hw320_0), ((HB.out.cell (World.block_lt_of_cell? w _ hw320_1)).trans hw320_1), ((HB.out.cell (World.block_lt_of_cell? w _ hw320_2)).trans hw320_2), ((HB.out.cell (World.block_lt_of_cell? w _ hw321_0)).trans hw321_0), ((HB.out.cell (World.block_lt_of_cell? w _ hw321_1)).trans hw321_1), ((HB.out.cell (World.block_lt_of_cell? w _ hw321_2)).trans hw321_2)⟩ (fun hHeld => ?_)
                      clear hK K
                      refine norm_ (a' := ?_) ?_ ?_
                      rotate_left
                      · show Act.put _ (some 7) _ = _
                        simp only [Act.put, List.setIfInBounds_toArray, List.set_cons_zero, List.set_cons_succ, i64_w, i32_w]
                        rfl
                      exact norm_ (by simp only [putAll, Act.put, List.setIfInBounds_toArray, List.set_cons_zero, List.set_cons_succ]) (hCont (v325, gb328) _ ⟨hHeld, (by (with_reducible repeat (first | apply Kd.R_alloc | apply Kd.R_drewN | apply Kd.R_drew)); exact Kd.R_mono HO326.out (fun _ hk => hk.2)), (by (with_reducible repeat (first | apply Kd.R_alloc | apply Kd.R_drewN | apply Kd.R_drew)); exact Kd.R_mono HO_318002.out (fun _ hk => hk.2)), (by (with_reducible repeat (first | refine blk_drewN ?_ _ | refine blk_drew ?_ | refine blk_alloc ?_ _)); exact BK317.out), (by (with_reducible repeat (first | refine blk_drewN ?_ _ | refine blk_drew ?_ | refine blk_alloc ?_ _)); exact BK328.out), GW328.out, GE328.out, NB317_328.out, NB328_317.out, (by repeat (first | (with_reducible first | exact HB.out | apply below_alloc | apply pw_below_drewN | apply below_drew1 | refine below_set ?_ GE317.out | refine below_set ?_ GE328.out) | exact HB.out))⟩)
                    · skip
                      refine box_step ?hg (N := 7) ?hd (cs := #[.int .u64 0, .int .u32 0, .slice none 0 0]) (t := 26) ?hr ?_; (case hd => rfl); (case hg => rfl); (case hr => first | (go_simp; done) | (go_simp; rfl))
                      intro gb328 hg w30 hbox hb
                      have n0_ := Aside0.mk (Kd.R_below (by (with_reducible repeat (first | apply Kd.R_alloc | apply Kd.R_drewN | apply Kd.R_drew)); exact HO_318002.out) hb)
                      have n1_ := Aside0.mk (blk_below (g := gb317) (o := .cells #[.int .u64 x318000_1, .int .u32 x318001_1, .slice Ao28 x318002_1.length co28] 26 (0, 0)) (by (with_reducible repeat (first | refine blk_drewN ?_ _ | refine blk_drew ?_ | refine blk_alloc ?_ _)); exact BK317.out) hb)
                      have n2_ := Aside0.mk (below_step (by repeat (first | (with_reducible first | exact HB.out | apply below_alloc | apply pw_below_drewN | apply below_drew1 | refine below_set ?_ GE317.out) | exact HB.out)) hb)
                      have n3_ := Aside0.mk (hbox)
                      have n4_ := Aside0.mk ((by rw [hg]; exact (below_size (by repeat (first | (with_reducible first | exact HB.out | apply below_alloc | apply pw_below_drewN | apply below_drew1 | refine below_set ?_ GE317.out) | exact HB.out))) : w.heap.size ≤ gb328))
                      have n5_ := Aside0.mk ((by rw [hg]; exact (below_size (by repeat (first | (with_reducible first | exact HB.out | apply below_alloc | apply pw_below_drewN | apply below_drew1 | refine below_set ?_ GE317.out) | exact HB.out))) : w.heap.size ≤ gb328))
                      have n6_ := Aside0.mk ((by rw [hg]; exact Nat.ne_of_lt (blk_lt (g := gb317) (o := .cells #[.int .u64 x318000_1, .int .u32 x318001_1, .slice Ao28 x318002_1.length co28] 26 (0, 0)) (by (with_reducible repeat (first | refine blk_drewN ?_ _ | refine blk_drew ?_ | refine blk_alloc ?_ _)); exact BK317.out)) : gb317 ≠ gb328))
                      have n7_ := Aside0.mk ((by rw [hg]; exact Nat.ne_of_gt (blk_lt (g := gb317) (o := .cells #[.int .u64 x318000_1, .int .u32 x318001_1, .slice Ao28 x318002_1.length co28] 26 (0, 0)) (by (with_reducible repeat (first | refine blk_drewN ?_ _ | refine blk_drew ?_ | refine blk_alloc ?_ _)); exact BK317.out)) : gb328 ≠ gb317))
                      clear HO_318002
                      clear BK317
                      clear HB
                      have HO_318002 := n0_
                      have BK317 := n1_
                      have HB := n2_
                      have BK328 := n3_
                      have GW328 := n4_
                      have GE328 := n5_
                      have NB317_328 := n6_
                      have NB328_317 := n7_
                      clear n0_ n1_ n2_ n3_ n4_ n5_ n6_ n7_
                      clear hb hbox hg
                      refine hK.out _ _ ⟨(blk_cell BK317.out 0).trans rfl, (blk_cell BK317.out 1).trans rfl, (blk_cell BK317.out 2).trans rfl, ((HB.out.cell (World.block_lt_of_cell? w _ hw319_0)).trans hw319_0), ((HB.out.cell (World.block_lt_of_cell? w _ hw319_1)).trans hw319_1), ((HB.out.cell (World.block_lt_of_cell? w _ hw319_2)).trans hw319_2), ((HB.out.cell (World.block_lt_of_cell? w _ hw320_0)).trans hw320_0), ((HB.out.cell (World.block_lt_of_cell? w _ hw320_1)).trans hw320_1), ((HB.out.cell (World.block_lt_of_cell? w _ hw320_2)).trans hw320_2), ((HB.out.cell (World.block_lt_of_cell? w _ hw321_0)).trans hw321_0), ((HB.out.cell (World.block_lt_of_cell? w _ hw321_1)).trans hw321_1), ((HB.out.cell (World.block_lt_of_cell? w _ hw321_2)).trans hw321_2)⟩ (fun hHeld => ?_)
                      clear hK K
                      refine norm_ (a' := ?_) ?_ ?_
                      rotate_left
                      · show Act.put _ (some 7) _ = _
                        simp only [Act.put, List.setIfInBounds_toArray, List.set_cons_zero, List.set_cons_succ, i64_w, i32_w]
                        rfl
                      refine one_ (i := 16) (N := some 37) #[true, true, true, true, true, true, true, true, true, true, true, true, true, true, true, true, true, false, false, false, true, false, false] rfl rfl (one_of HT_.out (by kernel_rfl)) (by decide) (fun K hK => ?_)
                      refine goes_ Try.func18 (by kernel_rfl) rfl #[.agg #[.int .u64 x318000_1, .int .u32 x318001_1, .slice Ao28 x318002_1.length co28], .int .i64 ((rd_T53 l0 x6_1).f0), .int .i64 ((rd_T53 l0 x6_1).f1), .int .i64 ((rd_T53 l0 x6_1).f2)] (by rfl) rfl rfl (by (try simp only [List.map_toArray, List.map_cons, List.map_nil]); first | done | rfl | (simp only [List.length_drop, List.length_take]; rfl)) ?_
                      with_reducible refine (coder_Put.calls kj6 x318000_1 x318001_1 _ _ x318002_1 ((rd_T53 l0 x6_1).f0) ((rd_T53 l0 x6_1).f1) ((rd_T53 l0 x6_1).f2) t322 t323 t324 t327 _ ?side1 ?side2 A12.out).mono ?_
                      (case side1 => repeat (first | exact (Kd.R_reads' HO_318002.out).2.2 | (with_reducible refine Kd.C_alloc ?_ _) | (with_reducible refine Kd.C_drewN ?_ _) | (with_reducible refine Kd.C_drew ?_)))
                      (case side2 => exact (Kd.R_reads' HO_318002.out).2.1)
                      rintro e w31 ⟨v325, rfl, ho0, hb⟩
                      refine ⟨_, rfl, ?_⟩
                      have n0_ := Aside0.mk (Kd.R_elder' (by (with_reducible repeat (first | apply Kd.R_alloc | apply Kd.R_drewN | apply Kd.R_drew)); exact HO_318002.out) (Kd.R_base ho0) hb)
                      have n1_ := Aside0.mk (Kd.R_lower (Kd.R_new' ho0 (Kd.R_lt (by (with_reducible repeat (first | apply Kd.R_alloc | apply Kd.R_drewN | apply Kd.R_drew)); exact HO_318002.out))) (below_size (by repeat (first | (with_reducible first | exact HB.out | apply below_alloc | apply pw_below_drewN | apply below_drew1 | refine below_set ?_ GE317.out | refine below_set ?_ GE328.out) | exact HB.out))))
                      have n2_ := Aside0.mk (blk_below (g := gb317) (o := .cells #[.int .u64 x318000_1, .int .u32 x318001_1, .slice Ao28 x318002_1.length co28] 26 (0, 0)) (by (with_reducible repeat (first | refine blk_drewN ?_ _ | refine blk_drew ?_ | refine blk_alloc ?_ _)); exact BK317.out) hb)
                      have n3_ := Aside0.mk (blk_below (g := gb328) (o := .cells #[.int .u64 0, .int .u32 0, .slice none 0 0] 26 (0, 0)) (by (with_reducible repeat (first | refine blk_drewN ?_ _ | refine blk_drew ?_ | refine blk_alloc ?_ _)); exact BK328.out) hb)
                      have n4_ := Aside0.mk (below_step (by repeat (first | (with_reducible first | exact HB.out | apply below_alloc | apply pw_below_drewN | apply below_drew1 | refine below_set ?_ GE317.out | refine below_set ?_ GE328.out) | exact HB.out)) hb)
                      clear HO_318002
                      clear BK317
                      clear BK328
                      clear HB
                      have HO_318002 := n0_
                      have HO326 := n1_
                      have BK317 := n2_
                      have BK328 := n3_
                      have HB := n4_
                      clear n0_ n1_ n2_ n3_ n4_
                      (try clear hb)
                      (try clear hb2)
                      (try clear hk)
                      (try clear hi)
                      (try clear ho0)
                      refine hK.out _ _ ⟨(blk_cell BK317.out 0).trans rfl, (blk_cell BK317.out 1).trans rfl, (blk_cell BK317.out 2).trans rfl, ((HB.out.cell (World.block_lt_of_cell? w _ hw319_0)).trans hw319_0), ((HB.out.cell (World.block_lt_of_cell? w _ hw319_1)).trans hw319_1), ((HB.out.cell (World.block_lt_of_cell? w _ hw319_2)).trans hw319_2), ((HB.out.cell (World.block_lt_of_cell? w _ hw320_0)).trans hw320_0), ((HB.out.cell (World.block_lt_of_cell? w _ hw320_1)).trans hw320_1), ((HB.out.cell (World.block_lt_of_cell? w _ hw320_2)).trans hw320_2), ((HB.out.cell (World.block_lt_of_cell? w _ hw321_0)).trans hw321_0), ((HB.out.cell (World.block_lt_of_cell? w _ hw321_1)).trans hw321_1), ((HB.out.cell (World.block_lt_of_cell? w _ hw321_2)).trans hw321_2)⟩ (fun hHeld => ?_)
                      clear hK K
                      refine norm_ (a' := ?_) ?_ ?_
                      rotate_left
                      · show Act.put _ (some 37) _ = _
                        simp only [Act.put, List.setIfInBounds_toArray, List.set_cons_zero, List.set_cons_succ, i64_w, i32_w]
                        rfl
                      refine pure_ (i := 17) (N := some 20) (v := ?_) (a' := ?_) #[true, true, true, true, true, true, true, true, true, true, true, true, true, true, true, true, true, true, false, false, true, false, false] rfl rfl (any_of HT_.out (by kernel_rfl)) (fun _ _ _ h => h) (Or.inl ⟨by rfl, ?_⟩) ?_ ?_
                      rotate_left
                      · intro w'
                        go_simp
                        with_reducible rfl
                      rotate_left
                      · simp only [Act.put, List.setIfInBounds_toArray, List.set_cons_zero, List.set_cons_succ, i64_w, i32_w]
                        rfl
                      refine pure_ (i := 18) (N := some 38) (v := ?_) (a' := ?_) #[true, true, true, true, true, true, true, true, true, true, true, true, true, true, true, true, true, true, true, false, true, false, false] rfl rfl (any_of HT_.out (by kernel_rfl)) (fun _ _ _ h => h) (Or.inl ⟨by rfl, ?_⟩) ?_ ?_
                      rotate_left
                      · intro w'
                        go_simp
                        with_reducible rfl
                      rotate_left
                      · simp only [Act.put, List.setIfInBounds_toArray, List.set_cons_zero, List.set_cons_succ, i64_w, i32_w]
                        rfl
                      refine pure_ (i := 19) (N := some 39) (v := ?_) (a' := ?_) #[true, true, true, true, true, true, true, true, true, true, true, true, true, true, true, true, true, true, true, true, true, false, false] rfl rfl (any_of HT_.out (by kernel_rfl)) (fun _ _ _ h => h) (Or.inl ⟨by rfl, ?_⟩) ?_ ?_
                      rotate_left
                      · intro w'
                        go_simp
                        with_reducible rfl
                      rotate_left
                      · simp only [Act.put, List.setIfInBounds_toArray, List.set_cons_zero, List.set_cons_succ, i64_w, i32_w]
                        rfl
                      exact norm_ (by simp only [putAll, Act.put, List.setIfInBounds_toArray, List.set_cons_zero, List.set_cons_succ]) (hCont (v325, gb328) _ ⟨hHeld, (by (with_reducible repeat (first | apply Kd.R_alloc | apply Kd.R_drewN | apply Kd.R_drew)); exact Kd.R_mono HO326.out (fun _ hk => hk.2)), (by (with_reducible repeat (first | apply Kd.R_alloc | apply Kd.R_drewN | apply Kd.R_drew)); exact Kd.R_mono HO_318002.out (fun _ hk => hk.2)), (by (with_reducible repeat (first | refine blk_drewN ?_ _ | refine blk_drew ?_ | refine blk_alloc ?_ _)); exact BK317.out), (by (with_reducible repeat (first | refine blk_drewN ?_ _ | refine blk_drew ?_ | refine blk_alloc ?_ _)); exact BK328.out), GW328.out, GE328.out, NB317_328.out, NB328_317.out, (by repeat (first | (with_reducible first | exact HB.out | apply below_alloc | apply pw_below_drewN | apply below_drew1 | refine below_set ?_ GE317.out | refine below_set ?_ GE328.out) | exact HB.out))⟩)
                  rintro ⟨v325, gb328⟩ w32 ⟨hS_, h0_, h1_, h2_, h3_, h4_, h5_, h6_, h7_, h8_⟩
                  have n0_ : Aside0 (Kd.R (Kd.int .u8) 5 w32 w.heap.size (fun k_ => some k_ ≠ (.slice Ao28 x318002_1.length co28 : Value).ownBlock) v325 t324) := ⟨h0_⟩
                  have n1_ : Aside0 (Kd.R (Kd.int .u8) 5 w32 w.heap.size (fun k_ => some k_ ≠ (v325 : Value).ownBlock) (.slice Ao28 x318002_1.length co28) x318002_1) := ⟨h1_⟩
                  have n2_ : Aside0 (w32.heap[gb317]? = some (.cells #[.int .u64 x318000_1, .int .u32 x318001_1, .slice Ao28 x318002_1.length co28] 26 (0, 0))) := ⟨h2_⟩
                  have n3_ : Aside0 (w32.heap[gb328]? = some (.cells #[.int .u64 0, .int .u32 0, .slice none 0 0] 26 (0, 0))) := ⟨h3_⟩
                  have n4_ : Aside0 (w.heap.size ≤ gb328) := ⟨h4_⟩
                  have n5_ : Aside0 (w.heap.size ≤ gb328) := ⟨h5_⟩
                  have n6_ : Aside0 (gb317 ≠ gb328) := ⟨h6_⟩
                  have n7_ : Aside0 (gb328 ≠ gb317) := ⟨h7_⟩
                  have n8_ : Aside0 (Below w.heap.size w w32) := ⟨h8_⟩
                  clear HO_318002
                  clear BK317
                  clear HB
                  clear h0_ h1_ h2_ h3_ h4_ h5_ h6_ h7_ h8_
                  have HO326 := n0_
                  have HO_318002 := n1_
                  have BK317 := n2_
                  have BK328 := n3_
                  have GW328 := n4_
                  have GE328 := n5_
                  have NB317_328 := n6_
                  have NB328_317 := n7_
                  have HB := n8_
                  clear n0_ n1_ n2_ n3_ n4_ n5_ n6_ n7_ n8_
                  have hHeld : w32.cell? ⟨gb317, 0, none⟩ = some (.int .u64 x318000_1) ∧ w32.cell? ⟨gb317, 1, none⟩ = some (.int .u32 x318001_1) ∧ w32.cell? ⟨gb317, 2, none⟩ = some (.slice Ao28 x318002_1.length co28) ∧ w32.cell? (ad319.add ((x6_1).toNat * 3)) = some (.int .i64 ((rd_T53 l0 x6_1).f0)) ∧ w32.cell? ⟨(ad319.add ((x6_1).toNat * 3)).block, (ad319.add ((x6_1).toNat * 3)).off + 1, none⟩ = some (.int .i64 ((rd_T53 l0 x6_1).f1)) ∧ w32.cell? ⟨(ad319.add ((x6_1).toNat * 3)).block, (ad319.add ((x6_1).toNat * 3)).off + 2, none⟩ = some (.int .i64 ((rd_T53 l0 x6_1).f2)) ∧ w32.cell? (ad319.add ((x6_1).toNat * 3)) = some (.int .i64 ((rd_T53 l0 x6_1).f0)) ∧ w32.cell? ⟨(ad319.add ((x6_1).toNat * 3)).block, (ad319.add ((x6_1).toNat * 3)).off + 1, none⟩ = some (.int .i64 ((rd_T53 l0 x6_1).f1)) ∧ w32.cell? ⟨(ad319.add ((x6_1).toNat * 3)).block, (ad319.add ((x6_1).toNat * 3)).off + 2, none⟩ = some (.int .i64 ((rd_T53 l0 x6_1).f2)) ∧ w32.cell? (ad319.add ((x6_1).toNat * 3)) = some (.int .i64 ((rd_T53 l0 x6_1).f0)) ∧ w32.cell? ⟨(ad319.add ((x6_1).toNat * 3)).block, (ad319.add ((x6_1).toNat * 3)).off + 1, none⟩ = some (.int .i64 ((rd_T53 l0 x6_1).f1)) ∧ w32.cell? ⟨(ad319.add ((x6_1).toNat * 3)).block, (ad319.add ((x6_1).toNat * 3)).off + 2, none⟩ = some (.int .i64 ((rd_T53 l0 x6_1).f2)) := hS_
                  obtain ⟨Ao35, co35, eo35⟩ := Kd.R_slice HO326.out
                  (first | subst eo35 | (injection eo35 with f1_ f2_ f3_; have f4_ := f1_.symm; have f5_ := f3_.symm; clear f1_ f2_ f3_; subst f4_; subst f5_))
                  refine norm_ (a' := ?_) ?_ ?_
                  rotate_left
                  · simp only [putAll, Act.put, List.setIfInBounds_toArray, List.set_cons_zero, List.set_cons_succ]
                    rfl
                  refine one_ (i := 21) (N := none) #[true, true, true, true, true, true, true, true, true, true, true, true, true, true, true, true, true, true, true, true, true, true, false] rfl rfl (one_of HT_.out (by kernel_rfl)) (by decide) (fun K hK => ?_)
                  have hs33 : w32.cell? ⟨gb328, 0, none⟩ = some (.int .u64 0) := (blk_cell BK328.out 0).trans rfl
                  have hfs33 := blk_frozen BK328.out 0
                  have hns33_0 := NB317_328.out
                  have hms33_0 := NB328_317.out
                  have hs34 : w32.cell? ⟨gb328, 1, none⟩ = some (.int .u32 0) := (blk_cell BK328.out 1).trans rfl
                  have hfs34 := blk_frozen BK328.out 1
                  have hns34_0 := NB317_328.out
                  have hms34_0 := NB328_317.out
                  have hs36 : w32.cell? ⟨gb328, 2, none⟩ = some (.slice none 0 0) := (blk_cell BK328.out 2).trans rfl
                  have hfs36 := blk_frozen BK328.out 2
                  have hns36_0 := NB317_328.out
                  have hms36_0 := NB328_317.out
                  refine skip_ (w1 := ?_) (by rfl) rfl ?_ ?_
                  rotate_left
                  · go_simp
                    rfl
                  refine hK.out _ _ ⟨((cell_far (p := ⟨gb328, _, none⟩) NB317_328.out _).trans (((cell_far (p := ⟨gb328, _, none⟩) NB317_328.out _).trans (((cell_far (p := ⟨gb328, _, none⟩) NB317_328.out _).trans (hHeld.1)))))), ((cell_far (p := ⟨gb328, _, none⟩) NB317_328.out _).trans (((cell_far (p := ⟨gb328, _, none⟩) NB317_328.out _).trans (((cell_far (p := ⟨gb328, _, none⟩) NB317_328.out _).trans (hHeld.2.1)))))), ((cell_far (p := ⟨gb328, _, none⟩) NB317_328.out _).trans (((cell_far (p := ⟨gb328, _, none⟩) NB317_328.out _).trans (((cell_far (p := ⟨gb328, _, none⟩) NB317_328.out _).trans (hHeld.2.2.1)))))), ((cell_far (p := ⟨gb328, _, none⟩) (by first | exact Nat.ne_of_lt (Nat.lt_of_lt_of_le (by have := World.block_lt_of_cell? _ _ hw319_0; first | rwa [add_block] at this | exact this) GW328.out) | (rw [add_block]; exact Nat.ne_of_lt (Nat.lt_of_lt_of_le (by have := World.block_lt_of_cell? _ _ hw319_0; first | rwa [add_block] at this | exact this) GW328.out)) | (show (Addr.add _ _).block ≠ _; rw [add_block]; exact Nat.ne_of_lt (Nat.lt_of_lt_of_le (by have := World.block_lt_of_cell? _ _ hw319_0; first | rwa [add_block] at this | exact this) GW328.out)) | (dsimp only; exact Nat.ne_of_lt (Nat.lt_of_lt_of_le (by have := World.block_lt_of_cell? _ _ hw319_0; first | rwa [add_block] at this | exact this) GW328.out))) _).trans (((cell_far (p := ⟨gb328, _, none⟩) (by first | exact Nat.ne_of_lt (Nat.lt_of_lt_of_le (by have := World.block_lt_of_cell? _ _ hw319_0; first | rwa [add_block] at this | exact this) GW328.out) | (rw [add_block]; exact Nat.ne_of_lt (Nat.lt_of_lt_of_le (by have := World.block_lt_of_cell? _ _ hw319_0; first | rwa [add_block] at this | exact this) GW328.out)) | (show (Addr.add _ _).block ≠ _; rw [add_block]; exact Nat.ne_of_lt (Nat.lt_of_lt_of_le (by have := World.block_lt_of_cell? _ _ hw319_0; first | rwa [add_block] at this | exact this) GW328.out)) | (dsimp only; exact Nat.ne_of_lt (Nat.lt_of_lt_of_le (by have := World.block_lt_of_cell? _ _ hw319_0; first | rwa [add_block] at this | exact this) GW328.out))) _).trans (((cell_far (p := ⟨gb328, _, none⟩) (by first | exact Nat.ne_of_lt (Nat.lt_of_lt_of_le (by have := World.block_lt_of_cell? _ _ hw319_0; first | rwa [add_block] at this | exact this) GW328.out) | (rw [add_block]; exact Nat.ne_of_lt (Nat.lt_of_lt_of_le (by have := World.block_lt_of_cell? _ _ hw319_0; first | rwa [add_block] at this | exact this) GW328.out)) | (show (Addr.add _ _).block ≠ _; rw [add_block]; exact Nat.ne_of_lt (Nat.lt_of_lt_of_le (by have := World.block_lt_of_cell? _ _ hw319_0; first | rwa [add_block] at this | exact this) GW328.out)) | (dsimp only; exact Nat.ne_of_lt (Nat.lt_of_lt_of_le (by have := World.block_lt_of_cell? _ _ hw319_0; first | rwa [add_block] at this | exact this) GW328.out))) _).trans (hHeld.2.2.2.1)))))), ((cell_far (p := ⟨gb328, _, none⟩) (by first | exact Nat.ne_of_lt (Nat.lt_of_lt_of_le (by have := World.block_lt_of_cell? _ _ hw319_1; first | rwa [add_block] at this | exact this) GW328.out) | (rw [add_block]; exact Nat.ne_of_lt (Nat.lt_of_lt_of_le (by have := World.block_lt_of_cell? _ _ hw319_1; first | rwa [add_block] at this | exact this) GW328.out)) | (show (Addr.add _ _).block ≠ _; rw [add_block]; exact Nat.ne_of_lt (Nat.lt_of_lt_of_le (by have := World.block_lt_of_cell? _ _ hw319_1; first | rwa [add_block] at this | exact this) GW328.out)) | (dsimp only; exact Nat.ne_of_lt (Nat.lt_of_lt_of_le (by have := World.block_lt_of_cell? _ _ hw319_1; first | rwa [add_block] at this | exact this) GW328.out))) _).trans (((cell_far (p := ⟨gb328, _, none⟩) (by first | exact Nat.ne_of_lt (Nat.lt_of_lt_of_le (by have := World.block_lt_of_cell? _ _ hw319_1; first | rwa [add_block] at this | exact this) GW328.out) | (rw [add_block]; exact Nat.ne_of_lt (Nat.lt_of_lt_of_le (by have := World.block_lt_of_cell? _ _ hw319_1; first | rwa [add_block] at this | exact this) GW328.out)) | (show (Addr.add _ _).block ≠ _; rw [add_block]; exact Nat.ne_of_lt (Nat.lt_of_lt_of_le (by have := World.block_lt_of_cell? _ _ hw319_1; first | rwa [add_block] at this | exact this) GW328.out)) | (dsimp only; exact Nat.ne_of_lt (Nat.lt_of_lt_of_le (by have := World.block_lt_of_cell? _ _ hw319_1; first | rwa [add_block] at this | exact this) GW328.out))) _).trans (((cell_far (p := ⟨gb328, _, none⟩) (by first | exact Nat.ne_of_lt (Nat.lt_of_lt_of_le (by have := World.block_lt_of_cell? _ _ hw319_1; first | rwa [add_block] at this | exact this) GW328.out) | (rw [add_block]; exact Nat.ne_of_lt (Nat.lt_of_lt_of_le (by have := World.block_lt_of_cell? _ _ hw319_1; first | rwa [add_block] at this | exact this) GW328.out)) | (show (Addr.add _ _).block ≠ _; rw [add_block]; exact Nat.ne_of_lt (Nat.lt_of_lt_of_le (by have := World.block_lt_of_cell? _ _ hw319_1; first | rwa [add_block] at this | exact this) GW328.out)) | (dsimp only; exact Nat.ne_of_lt (Nat.lt_of_lt_of_le (by have := World.block_lt_of_cell? _ _ hw319_1; first | rwa [add_block] at this | exact this) GW328.out))) _).trans (hHeld.2.2.2.2.1)))))), ((cell_far (p := ⟨gb328, _, none⟩) (by first | exact Nat.ne_of_lt (Nat.lt_of_lt_of_le (by have := World.block_lt_of_cell? _ _ hw319_2; first | rwa [add_block] at this | exact this) GW328.out) | (rw [add_block]; exact Nat.ne_of_lt (Nat.lt_of_lt_of_le (by have := World.block_lt_of_cell? _ _ hw319_2; first | rwa [add_block] at this | exact this) GW328.out)) | (show (Addr.add _ _).block ≠ _; rw [add_block]; exact Nat.ne_of_lt (Nat.lt_of_lt_of_le (by have := World.block_lt_of_cell? _ _ hw319_2; first | rwa [add_block] at this | exact this) GW328.out)) | (dsimp only; exact Nat.ne_of_lt (Nat.lt_of_lt_of_le (by have := World.block_lt_of_cell? _ _ hw319_2; first | rwa [add_block] at this | exact this) GW328.out))) _).trans (((cell_far (p := ⟨gb328, _, none⟩) (by first | exact Nat.ne_of_lt (Nat.lt_of_lt_of_le (by have := World.block_lt_of_cell? _ _ hw319_2; first | rwa [add_block] at this | exact this) GW328.out) | (rw [add_block]; exact Nat.ne_of_lt (Nat.lt_of_lt_of_le (by have := World.block_lt_of_cell? _ _ hw319_2; first | rwa [add_block] at this | exact this) GW328.out)) | (show (Addr.add _ _).block ≠ _; rw [add_block]; exact Nat.ne_of_lt (Nat.lt_of_lt_of_le (by have := World.block_lt_of_cell? _ _ hw319_2; first | rwa [add_block] at this | exact this) GW328.out)) | (dsimp only; exact Nat.ne_of_lt (Nat.lt_of_lt_of_le (by have := World.block_lt_of_cell? _ _ hw319_2; first | rwa [add_block] at this | exact this) GW328.out))) _).trans (((cell_far (p := ⟨gb328, _, none⟩) (by first | exact Nat.ne_of_lt (Nat.lt_of_lt_of_le (by have := World.block_lt_of_cell? _ _ hw319_2; first | rwa [add_block] at this | exact this) GW328.out) | (rw [add_block]; exact Nat.ne_of_lt (Nat.lt_of_lt_of_le (by have := World.block_lt_of_cell? _ _ hw319_2; first | rwa [add_block] at this | exact this) GW328.out)) | (show (Addr.add _ _).block ≠ _; rw [add_block]; exact Nat.ne_of_lt (Nat.lt_of_lt_of_le (by have := World.block_lt_of_cell? _ _ hw319_2; first | rwa [add_block] at this | exact this) GW328.out)) | (dsimp only; exact Nat.ne_of_lt (Nat.lt_of_lt_of_le (by have := World.block_lt_of_cell? _ _ hw319_2; first | rwa [add_block] at this | exact this) GW328.out))) _).trans (hHeld.2.2.2.2.2.1)))))), ((cell_far (p := ⟨gb328, _, none⟩) (by first | exact Nat.ne_of_lt (Nat.lt_of_lt_of_le (by have := World.block_lt_of_cell? _ _ hw320_0; first | rwa [add_block] at this | exact this) GW328.out) | (rw [add_block]; exact Nat.ne_of_lt (Nat.lt_of_lt_of_le (by have := World.block_lt_of_cell? _ _ hw320_0; first | rwa [add_block] at this | exact this) GW328.out)) | (show (Addr.add _ _).block ≠ _; rw [add_block]; exact Nat.ne_of_lt (Nat.lt_of_lt_of_le (by have := World.block_lt_of_cell? _ _ hw320_0; first | rwa [add_block] at this | exact this) GW328.out)) | (dsimp only; exact Nat.ne_of_lt (Nat.lt_of_lt_of_le (by have := World.block_lt_of_cell? _ _ hw320_0; first | rwa [add_block] at this | exact this) GW328.out))) _).trans (((cell_far (p := ⟨gb328, _, none⟩) (by first | exact Nat.ne_of_lt (Nat.lt_of_lt_of_le (by have := World.block_lt_of_cell? _ _ hw320_0; first | rwa [add_block] at this | exact this) GW328.out) | (rw [add_block]; exact Nat.ne_of_lt (Nat.lt_of_lt_of_le (by have := World.block_lt_of_cell? _ _ hw320_0; first | rwa [add_block] at this | exact this) GW328.out)) | (show (Addr.add _ _).block ≠ _; rw [add_block]; exact Nat.ne_of_lt (Nat.lt_of_lt_of_le (by have := World.block_lt_of_cell? _ _ hw320_0; first | rwa [add_block] at this | exact this) GW328.out)) | (dsimp only; exact Nat.ne_of_lt (Nat.lt_of_lt_of_le (by have := World.block_lt_of_cell? _ _ hw320_0; first | rwa [add_block] at this | exact this) GW328.out))) _).trans (((cell_far (p := ⟨gb328, _, none⟩) (by first | exact Nat.ne_of_lt (Nat.lt_of_lt_of_le (by have := World.block_lt_of_cell? _ _ hw320_0; first | rwa [add_block] at this | exact this) GW328.out) | (rw [add_block]; exact Nat.ne_of_lt (Nat.lt_of_lt_of_le (by have := World.block_lt_of_cell? _ _ hw320_0; first | rwa [add_block] at this | exact this) GW328.out)) | (show (Addr.add _ _).block ≠ _; rw [add_block]; exact Nat.ne_of_lt (Nat.lt_of_lt_of_le (by have := World.block_lt_of_cell? _ _ hw320_0; first | rwa [add_block] at this | exact this) GW328.out)) | (dsimp only; exact Nat.ne_of_lt (Nat.lt_of_lt_of_le (by have := World.block_lt_of_cell? _ _ hw320_0; first | rwa [add_block] at this | exact this) GW328.out))) _).trans (hHeld.2.2.2.2.2.2.1)))))), ((cell_far (p := ⟨gb328, _, none⟩) (by first | exact Nat.ne_of_lt (Nat.lt_of_lt_of_le (by have := World.block_lt_of_cell? _ _ hw320_1; first | rwa [add_block] at this | exact this) GW328.out) | (rw [add_block]; exact Nat.ne_of_lt (Nat.lt_of_lt_of_le (by have := World.block_lt_of_cell? _ _ hw320_1; first | rwa [add_block] at this | exact this) GW328.out)) | (show (Addr.add _ _).block ≠ _; rw [add_block]; exact Nat.ne_of_lt (Nat.lt_of_lt_of_le (by have := World.block_lt_of_cell? _ _ hw320_1; first | rwa [add_block] at this | exact this) GW328.out)) | (dsimp only; exact Nat.ne_of_lt (Nat.lt_of_lt_of_le (by have := World.block_lt_of_cell? _ _ hw320_1; first | rwa [add_block] at this | exact this) GW328.out))) _).trans (((cell_far (p := ⟨gb328, _, none⟩) (by first | exact Nat.ne_of_lt (Nat.lt_of_lt_of_le (by have := World.block_lt_of_cell? _ _ hw320_1; first | rwa [add_block] at this | exact this) GW328.out) | (rw [add_block]; exact Nat.ne_of_lt (Nat.lt_of_lt_of_le (by have := World.block_lt_of_cell? _ _ hw320_1; first | rwa [add_block] at this | exact this) GW328.out)) | (show (Addr.add _ _).block ≠ _; rw [add_block]; exact Nat.ne_of_lt (Nat.lt_of_lt_of_le (by have := World.block_lt_of_cell? _ _ hw320_1; first | rwa [add_block] at this | exact this) GW328.out)) | (dsimp only; exact Nat.ne_of_lt (Nat.lt_of_lt_of_le (by have := World.block_lt_of_cell? _ _ hw320_1; first | rwa [add_block] at this | exact this) GW328.out))) _).trans (((cell_far (p := ⟨gb328, _, none⟩) (by first | exact Nat.ne_of_lt (Nat.lt_of_lt_of_le (by have := World.block_lt_of_cell? _ _ hw320_1; first | rwa [add_block] at this | exact this) GW328.out) | (rw [add_block]; exact Nat.ne_of_lt (Nat.lt_of_lt_of_le (by have := World.block_lt_of_cell? _ _ hw320_1; first | rwa [add_block] at this | exact this) GW328.out)) | (show (Addr.add _ _).block ≠ _; rw [add_block]; exact Nat.ne_of_lt (Nat.lt_of_lt_of_le (by have := World.block_lt_of_cell? _ _ hw320_1; first | rwa [add_block] at this | exact this) GW328.out)) | (dsimp only; exact Nat.ne_of_lt (Nat.lt_of_lt_of_le (by have := World.block_lt_of_cell? _ _ hw320_1; first | rwa [add_block] at this | exact this) GW328.out))) _).trans (hHeld.2.2.2.2.2.2.2.1)))))), ((cell_far (p := ⟨gb328, _, none⟩) (by first | exact Nat.ne_of_lt (Nat.lt_of_lt_of_le (by have := World.block_lt_of_cell? _ _ hw320_2; first | rwa [add_block] at this | exact this) GW328.out) | (rw [add_block]; exact Nat.ne_of_lt (Nat.lt_of_lt_of_le (by have := World.block_lt_of_cell? _ _ hw320_2; first | rwa [add_block] at this | exact this) GW328.out)) | (show (Addr.add _ _).block ≠ _; rw [add_block]; exact Nat.ne_of_lt (Nat.lt_of_lt_of_le (by have := World.block_lt_of_cell? _ _ hw320_2; first | rwa [add_block] at this | exact this) GW328.out)) | (dsimp only; exact Nat.ne_of_lt (Nat.lt_of_lt_of_le (by have := World.block_lt_of_cell? _ _ hw320_2; first | rwa [add_block] at this | exact this) GW328.out))) _).trans (((cell_far (p := ⟨gb328, _, none⟩) (by first | exact Nat.ne_of_lt (Nat.lt_of_lt_of_le (by have := World.block_lt_of_cell? _ _ hw320_2; first | rwa [add_block] at this | exact this) GW328.out) | (rw [add_block]; exact Nat.ne_of_lt (Nat.lt_of_lt_of_le (by have := World.block_lt_of_cell? _ _ hw320_2; first | rwa [add_block] at this | exact this) GW328.out)) | (show (Addr.add _ _).block ≠ _; rw [add_block]; exact Nat.ne_of_lt (Nat.lt_of_lt_of_le (by have := World.block_lt_of_cell? _ _ hw320_2; first | rwa [add_block] at this | exact this) GW328.out)) | (dsimp only; exact Nat.ne_of_lt (Nat.lt_of_lt_of_le (by have := World.block_lt_of_cell? _ _ hw320_2; first | rwa [add_block] at this | exact this) GW328.out))) _).trans (((cell_far (p := ⟨gb328, _, none⟩) (by first | exact Nat.ne_of_lt (Nat.lt_of_lt_of_le (by have := World.block_lt_of_cell? _ _ hw320_2; first | rwa [add_block] at this | exact this) GW328.out) | (rw [add_block]; exact Nat.ne_of_lt (Nat.lt_of_lt_of_le (by have := World.block_lt_of_cell? _ _ hw320_2; first | rwa [add_block] at this | exact this) GW328.out)) | (show (Addr.add _ _).block ≠ _; rw [add_block]; exact Nat.ne_of_lt (Nat.lt_of_lt_of_le (by have := World.block_lt_of_cell? _ _ hw320_2; first | rwa [add_block] at this | exact this) GW328.out)) | (dsimp only; exact Nat.ne_of_lt (Nat.lt_of_lt_of_le (by have := World.block_lt_of_cell? _ _ hw320_2; first | rwa [add_block] at this | exact this) GW328.out))) _).trans (hHeld.2.2.2.2.2.2.2.2.1)))))), ((cell_far (p := ⟨gb328, _, none⟩) (by first | exact Nat.ne_of_lt (Nat.lt_of_lt_of_le (by have := World.block_lt_of_cell? _ _ hw321_0; first | rwa [add_block] at this | exact this) GW328.out) | (rw [add_block]; exact Nat.ne_of_lt (Nat.lt_of_lt_of_le (by have := World.block_lt_of_cell? _ _ hw321_0; first | rwa [add_block] at this | exact this) GW328.out)) | (show (Addr.add _ _).block ≠ _; rw [add_block]; exact Nat.ne_of_lt (Nat.lt_of_lt_of_le (by have := World.block_lt_of_cell? _ _ hw321_0; first | rwa [add_block] at this | exact this) GW328.out)) | (dsimp only; exact Nat.ne_of_lt (Nat.lt_of_lt_of_le (by have := World.block_lt_of_cell? _ _ hw321_0; first | rwa [add_block] at this | exact this) GW328.out))) _).trans (((cell_far (p := ⟨gb328, _, none⟩) (by first | exact Nat.ne_of_lt (Nat.lt_of_lt_of_le (by have := World.block_lt_of_cell? _ _ hw321_0; first | rwa [add_block] at this | exact this) GW328.out) | (rw [add_block]; exact Nat.ne_of_lt (Nat.lt_of_lt_of_le (by have := World.block_lt_of_cell? _ _ hw321_0; first | rwa [add_block] at this | exact this) GW328.out)) | (show (Addr.add _ _).block ≠ _; rw [add_block]; exact Nat.ne_of_lt (Nat.lt_of_lt_of_le (by have := World.block_lt_of_cell? _ _ hw321_0; first | rwa [add_block] at this | exact this) GW328.out)) | (dsimp only; exact Nat.ne_of_lt (Nat.lt_of_lt_of_le (by have := World.block_lt_of_cell? _ _ hw321_0; first | rwa [add_block] at this | exact this) GW328.out))) _).trans (((cell_far (p := ⟨gb328, _, none⟩) (by first | exact Nat.ne_of_lt (Nat.lt_of_lt_of_le (by have := World.block_lt_of_cell? _ _ hw321_0; first | rwa [add_block] at this | exact this) GW328.out) | (rw [add_block]; exact Nat.ne_of_lt (Nat.lt_of_lt_of_le (by have := World.block_lt_of_cell? _ _ hw321_0; first | rwa [add_block] at this | exact this) GW328.out)) | (show (Addr.add _ _).block ≠ _; rw [add_block]; exact Nat.ne_of_lt (Nat.lt_of_lt_of_le (by have := World.block_lt_of_cell? _ _ hw321_0; first | rwa [add_block] at this | exact this) GW328.out)) | (dsimp only; exact Nat.ne_of_lt (Nat.lt_of_lt_of_le (by have := World.block_lt_of_cell? _ _ hw321_0; first | rwa [add_block] at this | exact this) GW328.out))) _).trans (hHeld.2.2.2.2.2.2.2.2.2.1)))))), ((cell_far (p := ⟨gb328, _, none⟩) (by first | exact Nat.ne_of_lt (Nat.lt_of_lt_of_le (by have := World.block_lt_of_cell? _ _ hw321_1; first | rwa [add_block] at this | exact this) GW328.out) | (rw [add_block]; exact Nat.ne_of_lt (Nat.lt_of_lt_of_le (by have := World.block_lt_of_cell? _ _ hw321_1; first | rwa [add_block] at this | exact this) GW328.out)) | (show (Addr.add _ _).block ≠ _; rw [add_block]; exact Nat.ne_of_lt (Nat.lt_of_lt_of_le (by have := World.block_lt_of_cell? _ _ hw321_1; first | rwa [add_block] at this | exact this) GW328.out)) | (dsimp only; exact Nat.ne_of_lt (Nat.lt_of_lt_of_le (by have := World.block_lt_of_cell? _ _ hw321_1; first | rwa [add_block] at this | exact this) GW328.out))) _).trans (((cell_far (p := ⟨gb328, _, none⟩) (by first | exact Nat.ne_of_lt (Nat.lt_of_lt_of_le (by have := World.block_lt_of_cell? _ _ hw321_1; first | rwa [add_block] at this | exact this) GW328.out) | (rw [add_block]; exact Nat.ne_of_lt (Nat.lt_of_lt_of_le (by have := World.block_lt_of_cell? _ _ hw321_1; first | rwa [add_block] at this | exact this) GW328.out)) | (show (Addr.add _ _).block ≠ _; rw [add_block]; exact Nat.ne_of_lt (Nat.lt_of_lt_of_le (by have := World.block_lt_of_cell? _ _ hw321_1; first | rwa [add_block] at this | exact this) GW328.out)) | (dsimp only; exact Nat.ne_of_lt (Nat.lt_of_lt_of_le (by have := World.block_lt_of_cell? _ _ hw321_1; first | rwa [add_block] at this | exact this) GW328.out))) _).trans (((cell_far (p := ⟨gb328, _, none⟩) (by first | exact Nat.ne_of_lt (Nat.lt_of_lt_of_le (by have := World.block_lt_of_cell? _ _ hw321_1; first | rwa [add_block] at this | exact this) GW328.out) | (rw [add_block]; exact Nat.ne_of_lt (Nat.lt_of_lt_of_le (by have := World.block_lt_of_cell? _ _ hw321_1; first | rwa [add_block] at this | exact this) GW328.out)) | (show (Addr.add _ _).block ≠ _; rw [add_block]; exact Nat.ne_of_lt (Nat.lt_of_lt_of_le (by have := World.block_lt_of_cell? _ _ hw321_1; first | rwa [add_block] at this | exact this) GW328.out)) | (dsimp only; exact Nat.ne_of_lt (Nat.lt_of_lt_of_le (by have := World.block_lt_of_cell? _ _ hw321_1; first | rwa [add_block] at this | exact this) GW328.out))) _).trans (hHeld.2.2.2.2.2.2.2.2.2.2.1)))))), ((cell_far (p := ⟨gb328, _, none⟩) (by first | exact Nat.ne_of_lt (Nat.lt_of_lt_of_le (by have := World.block_lt_of_cell? _ _ hw321_2; first | rwa [add_block] at this | exact this) GW328.out) | (rw [add_block]; exact Nat.ne_of_lt (Nat.lt_of_lt_of_le (by have := World.block_lt_of_cell? _ _ hw321_2; first | rwa [add_block] at this | exact this) GW328.out)) | (show (Addr.add _ _).block ≠ _; rw [add_block]; exact Nat.ne_of_lt (Nat.lt_of_lt_of_le (by have := World.block_lt_of_cell? _ _ hw321_2; first | rwa [add_block] at this | exact this) GW328.out)) | (dsimp only; exact Nat.ne_of_lt (Nat.lt_of_lt_of_le (by have := World.block_lt_of_cell? _ _ hw321_2; first | rwa [add_block] at this | exact this) GW328.out))) _).trans (((cell_far (p := ⟨gb328, _, none⟩) (by first | exact Nat.ne_of_lt (Nat.lt_of_lt_of_le (by have := World.block_lt_of_cell? _ _ hw321_2; first | rwa [add_block] at this | exact this) GW328.out) | (rw [add_block]; exact Nat.ne_of_lt (Nat.lt_of_lt_of_le (by have := World.block_lt_of_cell? _ _ hw321_2; first | rwa [add_block] at this | exact this) GW328.out)) | (show (Addr.add _ _).block ≠ _; rw [add_block]; exact Nat.ne_of_lt (Nat.lt_of_lt_of_le (by have := World.block_lt_of_cell? _ _ hw321_2; first | rwa [add_block] at this | exact this) GW328.out)) | (dsimp only; exact Nat.ne_of_lt (Nat.lt_of_lt_of_le (by have := World.block_lt_of_cell? _ _ hw321_2; first | rwa [add_block] at this | exact this) GW328.out))) _).trans (((cell_far (p := ⟨gb328, _, none⟩) (by first | exact Nat.ne_of_lt (Nat.lt_of_lt_of_le (by have := World.block_lt_of_cell? _ _ hw321_2; first | rwa [add_block] at this | exact this) GW328.out) | (rw [add_block]; exact Nat.ne_of_lt (Nat.lt_of_lt_of_le (by have := World.block_lt_of_cell? _ _ hw321_2; first | rwa [add_block] at this | exact this) GW328.out)) | (show (Addr.add _ _).block ≠ _; rw [add_block]; exact Nat.ne_of_lt (Nat.lt_of_lt_of_le (by have := World.block_lt_of_cell? _ _ hw321_2; first | rwa [add_block] at this | exact this) GW328.out)) | (dsimp only; exact Nat.ne_of_lt (Nat.lt_of_lt_of_le (by have := World.block_lt_of_cell? _ _ hw321_2; first | rwa [add_block] at this | exact this) GW328.out))) _).trans (hHeld.2.2.2.2.2.2.2.2.2.2.2))))))⟩ (fun hHeld => ?_)
                  clear hK K
                  refine pure_ (i := 22) (N := some 8) (v := ?_) (a' := ?_) #[true, true, true, true, true, true, true, true, true, true, true, true, true, true, true, true, true, true, true, true, true, true, true] rfl rfl (any_of HT_.out (by kernel_rfl)) (fun _ _ _ h => h) (Or.inl ⟨by rfl, ?_⟩) ?_ ?_
                  rotate_left
                  · intro w'
                    go_simp
                    with_reducible rfl
                  rotate_left
                  · simp only [Act.put, List.setIfInBounds_toArray, List.set_cons_zero, List.set_cons_succ, i64_w, i32_w]
                    rfl
                  refine done_ (done_of HT_.out (by kernel_rfl)) ?_
                  have hnb37 := NB328_317.out
                  have hnc37 := NB317_328.out
                  have hcz38_0 : w32.cell? ⟨gb328, 0, none⟩ = some (.int .u64 0) := (blk_cell BK328.out 0).trans rfl
                  have hcz38_1 : w32.cell? ⟨gb328, 1, none⟩ = some (.int .u32 0) := (blk_cell BK328.out 1).trans rfl
                  have hcz38_2 : w32.cell? ⟨gb328, 2, none⟩ = some (.slice none 0 0) := (blk_cell BK328.out 2).trans rfl
                  have hfz38_0 := blk_frozen BK328.out 0
                  have hfz38_1 := blk_frozen BK328.out 1
                  have hfz38_2 := blk_frozen BK328.out 2
                  have hcz39_0 : w32.cell? ⟨gb317, 0, none⟩ = some (.int .u64 x318000_1) := (blk_cell BK317.out 0).trans rfl
                  have hcz39_1 : w32.cell? ⟨gb317, 1, none⟩ = some (.int .u32 x318001_1) := (blk_cell BK317.out 1).trans rfl
                  have hcz39_2 : w32.cell? ⟨gb317, 2, none⟩ = some (.slice Ao28 x318002_1.length co28) := (blk_cell BK317.out 2).trans rfl
                  have hfz39_0 := blk_frozen BK317.out 0
                  have hfz39_1 := blk_frozen BK317.out 1
                  have hfz39_2 := blk_frozen BK317.out 2
                  try go_wp2
                  go_roundg kj6
                  case measure => have := HK1.out; have := HJ6.out; omega
                  case rel => exact ⟨(x4_1), (x5_1), (wrap64 (x6_1 + 1)), (t322), (t323), (t324), (.slice Ao35 t324.length co35), (by first | rfl | (simp; done) | (simp [*]; done)), (by first | rfl | (simp; done) | (simp [*]; done)), (by first | rfl | (simp; done) | (simp [*]; done)), H', ⟨by have := HK1.out; have := HJ6.out; omega⟩, ⟨by (with_reducible repeat (first | apply Kd.R_alloc | apply Kd.R_drewN | apply Kd.R_drew)); exact Kd.R_mono (Kd.R_far (p := ⟨gb317, 2, none⟩) (Kd.R_far (p := ⟨gb317, 1, none⟩) (Kd.R_far (p := ⟨gb317, 0, none⟩) (Kd.R_far (p := ⟨gb328, 2, none⟩) (Kd.R_far (p := ⟨gb328, 1, none⟩) (Kd.R_far (p := ⟨gb328, 0, none⟩) (Kd.R_types (Kd.R_types HO326.out BK328.out (by decide)) BK317.out (by decide)) (fun _ hk => hk.1.2) (.int .u64 t322)) (fun _ hk => hk.1.2) (.int .u32 t323)) (fun _ hk => hk.1.2) (.slice Ao35 t324.length co35)) (fun _ hk => hk.2) (.int .u64 t322)) (fun _ hk => hk.2) (.int .u32 t323)) (fun _ hk => hk.2) (.slice Ao35 t324.length co35)) (fun _ hk => trivial)⟩, ⟨by (with_reducible repeat (first | refine blk_drewN ?_ _ | refine blk_drew ?_ | refine blk_alloc ?_ _)); refine blk_put (cs := #[.int .u64 t322, .int .u32 t323, .slice Ao28 x318002_1.length co28]) ?_ 2 _ rfl; (with_reducible repeat (first | refine blk_drewN ?_ _ | refine blk_drew ?_ | refine blk_alloc ?_ _)); refine blk_put (cs := #[.int .u64 t322, .int .u32 x318001_1, .slice Ao28 x318002_1.length co28]) ?_ 1 _ rfl; (with_reducible repeat (first | refine blk_drewN ?_ _ | refine blk_drew ?_ | refine blk_alloc ?_ _)); refine blk_put (cs := #[.int .u64 x318000_1, .int .u32 x318001_1, .slice Ao28 x318002_1.length co28]) ?_ 0 _ rfl; (with_reducible repeat (first | refine blk_drewN ?_ _ | refine blk_drew ?_ | refine blk_alloc ?_ _)); refine blk_far ?_ NB317_328.out _; (with_reducible repeat (first | refine blk_drewN ?_ _ | refine blk_drew ?_ | refine blk_alloc ?_ _)); refine blk_far ?_ NB317_328.out _; (with_reducible repeat (first | refine blk_drewN ?_ _ | refine blk_drew ?_ | refine blk_alloc ?_ _)); refine blk_far ?_ NB317_328.out _; (with_reducible repeat (first | refine blk_drewN ?_ _ | refine blk_drew ?_ | refine blk_alloc ?_ _)); exact BK317.out⟩, ⟨by repeat (first | (with_reducible first | exact HB.out | apply below_alloc | apply pw_below_drewN | apply below_drew1 | refine below_set ?_ GE317.out | refine below_set ?_ GE328.out) | exact HB.out)⟩⟩
              · rw [if_neg c11] at H
                exact absurd H (by simp)
            · rw [if_neg c10] at H
              exact absurd H (by simp)
          · replace c9 := Bool.eq_false_iff.mpr c9
            subst c9
            have H1 : (if (wrap64 (8 * (x318002_1.length : Int))) ≤ (wrap64 (x5_1 + (wrap64 (Int.tdiv x4_1 100)))) then ((psalterylaw05_knows.f kj6).bind fun t318 => (some t318)) else (some false)) = some r := by rw [if_neg (show ¬ (false = true) by decide)] at H; exact H
            clear H
            have H := H1
            clear H1
            by_cases c40 : (wrap64 (8 * (x318002_1.length : Int))) ≤ (wrap64 (x5_1 + (wrap64 (Int.tdiv x4_1 100))))
            · rw [if_pos c40] at H
              have c40b0 : decide ((wrap64 (8 * (x318002_1.length : Int))) ≤ (wrap64 (x5_1 + (wrap64 (Int.tdiv x4_1 100))))) = true := decide_eq_true c40
              clear c40
              replace H := Option.bind_eq_some_iff.mp H
              obtain ⟨t318, A410, H⟩ := H
              replace H : (some t318) = some r := H
              have A41 := Aside0.mk A410
              clear A410
              obtain rfl := Option.some.inj H
              have hcz42_0 : wc.cell? ⟨gb317, 0, none⟩ = some (.int .u64 x318000_1) := (blk_cell BK317.out 0).trans rfl
              have hcz42_1 : wc.cell? ⟨gb317, 1, none⟩ = some (.int .u32 x318001_1) := (blk_cell BK317.out 1).trans rfl
              have hcz42_2 : wc.cell? ⟨gb317, 2, none⟩ = some (u318002) := (blk_cell BK317.out 2).trans rfl
              have hfz42_0 := blk_frozen BK317.out 0
              have hfz42_1 := blk_frozen BK317.out 1
              have hfz42_2 := blk_frozen BK317.out 2
              obtain ⟨Ao43, co43, eo43⟩ := Kd.R_slice HO_318002.out
              subst eo43
              go_wp2_with (first | (go_at_call 17; (with_reducible refine (psalterylaw05_knows.calls kj6  t318 _ A41.out).mono ?_); rintro e w44 ⟨rfl, hb⟩; have n0_ := Aside0.mk (Kd.R_below (by (with_reducible repeat (first | apply Kd.R_alloc | apply Kd.R_drewN | apply Kd.R_drew)); exact HO_318002.out) hb); have n1_ := Aside0.mk (blk_below (g := gb317) (o := .cells #[.int .u64 x318000_1, .int .u32 x318001_1, .slice Ao43 x318002_1.length co43] 26 (0, 0)) (by (with_reducible repeat (first | refine blk_drewN ?_ _ | refine blk_drew ?_ | refine blk_alloc ?_ _)); exact BK317.out) hb); have n2_ := Aside0.mk (below_step (by repeat (first | (with_reducible first | exact HB.out | apply below_alloc | apply pw_below_drewN | apply below_drew1 | refine below_set ?_ GE317.out) | exact HB.out)) hb); clear HO_318002; clear BK317; clear HB; have HO_318002 := n0_; have BK317 := n1_; have HB := n2_; clear n0_ n1_ n2_; (try clear hb); (try clear hb2); (try clear hk); (try clear hi)))
              go_ret
              exact ⟨by first | rfl | (simp [errW_none, errW_some] <;> rfl) | (simp [*, errW_none, errW_some] <;> rfl), by repeat (first | (with_reducible first | exact HB.out | apply below_alloc | apply pw_below_drewN | apply below_drew1 | refine below_set ?_ GE317.out) | exact HB.out)⟩
            · rw [if_neg c40] at H
              have c40b0 : decide ((wrap64 (8 * (x318002_1.length : Int))) ≤ (wrap64 (x5_1 + (wrap64 (Int.tdiv x4_1 100))))) = false := decide_eq_false c40
              clear c40
              obtain rfl := Option.some.inj H
              have hcz45_0 : wc.cell? ⟨gb317, 0, none⟩ = some (.int .u64 x318000_1) := (blk_cell BK317.out 0).trans rfl
              have hcz45_1 : wc.cell? ⟨gb317, 1, none⟩ = some (.int .u32 x318001_1) := (blk_cell BK317.out 1).trans rfl
              have hcz45_2 : wc.cell? ⟨gb317, 2, none⟩ = some (u318002) := (blk_cell BK317.out 2).trans rfl
              have hfz45_0 := blk_frozen BK317.out 0
              have hfz45_1 := blk_frozen BK317.out 1
              have hfz45_2 := blk_frozen BK317.out 2
              obtain ⟨Ao46, co46, eo46⟩ := Kd.R_slice HO_318002.out
              subst eo46
              go_wp2
              go_ret
              exact ⟨by first | rfl | (simp [errW_none, errW_some] <;> rfl) | (simp [*, errW_none, errW_some] <;> rfl), by repeat (first | (with_reducible first | exact HB.out | apply below_alloc | apply pw_below_drewN | apply below_drew1 | refine below_set ?_ GE317.out) | exact HB.out)⟩

end Go.Proofs.Ytkaoiblgfpphoaa.Prt
