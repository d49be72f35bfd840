-- Functions of the program and of the document as plain Lean, each with the proof that the code comes to it. Written by a program of this session (wip/tools/myprint.py, pack.py) over the kit's printer; Lean checks it.
import Derived.Test.YtkaoiblgfpphoaaZCoderBackPrt0
import Derived.Test.YtkaoiblgfpphoaaZCoderBackM1
import Derived.Test.YtkaoiblgfpphoaaZCoderBackM2
namespace Go.Proofs.Ytkaoiblgfpphoaa.Prt
open Go.RowKit Go.Proofs.YtkaoiblgfpphoaaW.PrintWords Go.Proofs.YtkaoiblgfpphoaaW.PrintLast Go.Proofs.YtkaoiblgfpphoaaW.PrintMore
attribute [local go_sem] max2_int min2_int max_two min_two max_three min_three max_four min_four   -- for this text's walks alone
set_option linter.unusedVariables false
set_option linter.unusedSimpArgs false

/-! ### psalterylaw05_CoderBack: function 7 -/
mutual
def psalterylaw05_CoderBack.l0 : Nat → List (S53) → List (S53) → Int → Int → Int → List Int → Option (Bool)
 | 0, _, _, _, _, _, _ => none
 | k + 1, x0, x4, x5, x410000, x410001, x410002 => if x5 < (x0.length : Int) then (psalterylaw05_CoderBack.j1 k x0 x4 x5 (decide (x5 < 100)) x410000 x410001 x410002) else (psalterylaw05_CoderBack.j1 k x0 x4 x5 false x410000 x410001 x410002)
def psalterylaw05_CoderBack.j1 : Nat → List (S53) → List (S53) → Int → Bool → Int → Int → List Int → Option (Bool)
 | 0, _, _, _, _, _, _, _ => none
 | k + 1, x0, x4, x5, x22, x410000, x410001, x410002 => if x22 = true then (if 0 ≤ x5 then (if x5 < (x0.length : Int) then ((coder_Put.f k x410000 x410001 x410002 ((rd_T53 x0 x5).f0) ((rd_T53 x0 x5).f1) ((rd_T53 x0 x5).f2)).bind fun bt413 => (if bt413.2.2.2 = 0 then (if x4.length < 5864062014805 then (psalterylaw05_CoderBack.l0 k x0 (x4 ++ [(⟨(rd_T53 x0 x5).f0, (rd_T53 x0 x5).f1, (rd_T53 x0 x5).f2⟩ : S53)]) (wrap64 (x5 + 1)) bt413.1 bt413.2.1 bt413.2.2.1) else (none)) else (psalterylaw05_CoderBack.l0 k x0 x4 (wrap64 (x5 + 1)) bt413.1 bt413.2.1 bt413.2.2.1))) else (none)) else (none)) else ((coder_Finish.f x410000 x410001 x410002).bind fun t424 => ((coder_Open.f t424).bind fun bt427 => (psalterylaw05_CoderBack.l1 k x4 0 bt427.1 bt427.2.1 bt427.2.2.1 bt427.2.2.2)))
def psalterylaw05_CoderBack.l1 : Nat → List (S53) → Int → Int → Int → List Int → Int → Option (Bool)
 | 0, _, _, _, _, _, _ => none
 | k + 1, x4, x9, x434000, x434001, x434002, x434003 => if x9 < (x4.length : Int) then (if 0 ≤ x9 then ((coder_Get.f x434000 x434001 x434002 x434003 ((rd_T53 x4 x9).f2)).bind fun bt436 => ((coder_Take.f k x434000 x434001 x434002 x434003 ((rd_T53 x4 x9).f0) ((rd_T53 x4 x9).f1) ((rd_T53 x4 x9).f2)).bind fun bt441 => (if bt436.2 = 0 then (if bt441.2.2.2.2 = 0 then (if bt436.1 < ((rd_T53 x4 x9).f0) then (psalterylaw05_CoderBack.j3 k x4 x9 true bt441.1 bt441.2.1 bt441.2.2.1 bt441.2.2.2.1) else (psalterylaw05_CoderBack.j3 k x4 x9 (decide (bt436.1 ≥ ((rd_T53 x4 x9).f1))) bt441.1 bt441.2.1 bt441.2.2.1 bt441.2.2.2.1)) else (psalterylaw05_CoderBack.j3 k x4 x9 true bt441.1 bt441.2.1 bt441.2.2.1 bt441.2.2.2.1)) else (psalterylaw05_CoderBack.j3 k x4 x9 true bt441.1 bt441.2.1 bt441.2.2.1 bt441.2.2.2.1)))) else (none)) else ((psalterylaw05_knows.f k).bind fun t434 => (some t434))
def psalterylaw05_CoderBack.j3 : Nat → List (S53) → Int → Bool → Int → Int → List Int → Int → Option (Bool)
 | 0, _, _, _, _, _, _, _ => none
 | k + 1, x4, x9, x117, x449000, x449001, x449002, x449003 => if x117 = true then (none) else (psalterylaw05_CoderBack.l1 k x4 (wrap64 (x9 + 1)) x449000 x449001 x449002 x449003)
end
def psalterylaw05_CoderBack.f (k : Nat) (l0 : List (S53)) : Option (Bool) := (coder_New.f).bind fun bt404 => (psalterylaw05_CoderBack.l0 k l0 ([] : List (S53)) 0 bt404.1 bt404.2.1 bt404.2.2)
theorem psalterylaw05_CoderBack.mono_l : ∀ k, (∀ y0 y1 y2 y3 y4 y5, LeO (psalterylaw05_CoderBack.l0 k y0 y1 y2 y3 y4 y5) (psalterylaw05_CoderBack.l0 (k + 1) y0 y1 y2 y3 y4 y5)) ∧ (∀ y0 y1 y2 y3 y4 y5 y6, LeO (psalterylaw05_CoderBack.j1 k y0 y1 y2 y3 y4 y5 y6) (psalterylaw05_CoderBack.j1 (k + 1) y0 y1 y2 y3 y4 y5 y6)) ∧ (∀ y0 y1 y2 y3 y4 y5, LeO (psalterylaw05_CoderBack.l1 k y0 y1 y2 y3 y4 y5) (psalterylaw05_CoderBack.l1 (k + 1) y0 y1 y2 y3 y4 y5)) ∧ (∀ y0 y1 y2 y3 y4 y5 y6, LeO (psalterylaw05_CoderBack.j3 k y0 y1 y2 y3 y4 y5 y6) (psalterylaw05_CoderBack.j3 (k + 1) y0 y1 y2 y3 y4 y5 y6))
 | 0 => ⟨fun _ _ _ _ _ _ r h => by simp [psalterylaw05_CoderBack.l0] at h, fun _ _ _ _ _ _ _ r h => by simp [psalterylaw05_CoderBack.j1] at h, fun _ _ _ _ _ _ r h => by simp [psalterylaw05_CoderBack.l1] at h, fun _ _ _ _ _ _ _ r h => by simp [psalterylaw05_CoderBack.j3] at h⟩
 | k + 1 => by
  obtain ⟨ih0, ih1, ih2, ih3⟩ := psalterylaw05_CoderBack.mono_l k
  refine ⟨?_, ?_, ?_, ?_⟩
  ·
   intro y0 y1 y2 y3 y4 y5
   unfold psalterylaw05_CoderBack.l0
   repeat' first
   | (with_reducible exact ih0 _ _ _ _ _ _)
   | (with_reducible exact ih1 _ _ _ _ _ _ _)
   | (with_reducible exact ih2 _ _ _ _ _ _)
   | (with_reducible exact ih3 _ _ _ _ _ _ _)
   | (with_reducible exact coder_Put.mono _ _ _ _ _ _ _)
   | (with_reducible exact coder_Take.mono _ _ _ _ _ _ _ _)
   | (with_reducible exact psalterylaw05_knows.mono _)
   | (with_reducible exact LeO.refl _)
   | (with_reducible exact LeO.none _)
   | (with_reducible refine LeO.ite ?_ ?_)
   | (with_reducible refine LeO.bind ?_ (fun _ => ?_))
   | exact ih0 _ _ _ _ _ _
   | exact ih1 _ _ _ _ _ _ _
   | exact ih2 _ _ _ _ _ _
   | exact ih3 _ _ _ _ _ _ _
   | exact coder_Put.mono _ _ _ _ _ _ _
   | exact coder_Take.mono _ _ _ _ _ _ _ _
   | exact psalterylaw05_knows.mono _
   | exact LeO.none _
   | refine LeO.ite ?_ ?_
   | refine LeO.bind ?_ (fun _ => ?_)
  ·
   intro y0 y1 y2 y3 y4 y5 y6
   unfold psalterylaw05_CoderBack.j1
   repeat' first
   | (with_reducible exact ih0 _ _ _ _ _ _)
   | (with_reducible exact ih1 _ _ _ _ _ _ _)
   | (with_reducible exact ih2 _ _ _ _ _ _)
   | (with_reducible exact ih3 _ _ _ _ _ _ _)
   | (with_reducible exact coder_Put.mono _ _ _ _ _ _ _)
   | (with_reducible exact coder_Take.mono _ _ _ _ _ _ _ _)
   | (with_reducible exact psalterylaw05_knows.mono _)
   | (with_reducible exact LeO.refl _)
   | (with_reducible exact LeO.none _)
   | (with_reducible refine LeO.ite ?_ ?_)
   | (with_reducible refine LeO.bind ?_ (fun _ => ?_))
   | exact ih0 _ _ _ _ _ _
   | exact ih1 _ _ _ _ _ _ _
   | exact ih2 _ _ _ _ _ _
   | exact ih3 _ _ _ _ _ _ _
   | exact coder_Put.mono _ _ _ _ _ _ _
   | exact coder_Take.mono _ _ _ _ _ _ _ _
   | exact psalterylaw05_knows.mono _
   | exact LeO.none _
   | refine LeO.ite ?_ ?_
   | refine LeO.bind ?_ (fun _ => ?_)
  ·
   intro y0 y1 y2 y3 y4 y5
   unfold psalterylaw05_CoderBack.l1
   repeat' first
   | (with_reducible exact ih0 _ _ _ _ _ _)
   | (with_reducible exact ih1 _ _ _ _ _ _ _)
   | (with_reducible exact ih2 _ _ _ _ _ _)
   | (with_reducible exact ih3 _ _ _ _ _ _ _)
   | (with_reducible exact coder_Put.mono _ _ _ _ _ _ _)
   | (with_reducible exact coder_Take.mono _ _ _ _ _ _ _ _)
   | (with_reducible exact psalterylaw05_knows.mono _)
   | (with_reducible exact LeO.refl _)
   | (with_reducible exact LeO.none _)
   | (with_reducible refine LeO.ite ?_ ?_)
   | (with_reducible refine LeO.bind ?_ (fun _ => ?_))
   | exact ih0 _ _ _ _ _ _
   | exact ih1 _ _ _ _ _ _ _
   | exact ih2 _ _ _ _ _ _
   | exact ih3 _ _ _ _ _ _ _
   | exact coder_Put.mono _ _ _ _ _ _ _
   | exact coder_Take.mono _ _ _ _ _ _ _ _
   | exact psalterylaw05_knows.mono _
   | exact LeO.none _
   | refine LeO.ite ?_ ?_
   | refine LeO.bind ?_ (fun _ => ?_)
  ·
   intro y0 y1 y2 y3 y4 y5 y6
   unfold psalterylaw05_CoderBack.j3
   repeat' first
   | (with_reducible exact ih0 _ _ _ _ _ _)
   | (with_reducible exact ih1 _ _ _ _ _ _ _)
   | (with_reducible exact ih2 _ _ _ _ _ _)
   | (with_reducible exact ih3 _ _ _ _ _ _ _)
   | (with_reducible exact coder_Put.mono _ _ _ _ _ _ _)
   | (with_reducible exact coder_Take.mono _ _ _ _ _ _ _ _)
   | (with_reducible exact psalterylaw05_knows.mono _)
   | (with_reducible exact LeO.refl _)
   | (with_reducible exact LeO.none _)
   | (with_reducible refine LeO.ite ?_ ?_)
   | (with_reducible refine LeO.bind ?_ (fun _ => ?_))
   | exact ih0 _ _ _ _ _ _
   | exact ih1 _ _ _ _ _ _ _
   | exact ih2 _ _ _ _ _ _
   | exact ih3 _ _ _ _ _ _ _
   | exact coder_Put.mono _ _ _ _ _ _ _
   | exact coder_Take.mono _ _ _ _ _ _ _ _
   | exact psalterylaw05_knows.mono _
   | exact LeO.none _
   | refine LeO.ite ?_ ?_
   | refine LeO.bind ?_ (fun _ => ?_)
theorem psalterylaw05_CoderBack.mono : ∀ a0 k, LeO (psalterylaw05_CoderBack.f k a0) (psalterylaw05_CoderBack.f (k + 1) a0) := by
 intro a0 k
 obtain ⟨ih0, ih1, ih2, ih3⟩ := psalterylaw05_CoderBack.mono_l k
 unfold psalterylaw05_CoderBack.f
 repeat' first
   | (with_reducible exact ih0 _ _ _ _ _ _)
   | (with_reducible exact ih1 _ _ _ _ _ _ _)
   | (with_reducible exact ih2 _ _ _ _ _ _)
   | (with_reducible exact ih3 _ _ _ _ _ _ _)
   | (with_reducible exact coder_Put.mono _ _ _ _ _ _ _)
   | (with_reducible exact coder_Take.mono _ _ _ _ _ _ _ _)
   | (with_reducible exact psalterylaw05_knows.mono _)
   | (with_reducible exact LeO.refl _)
   | (with_reducible exact LeO.none _)
   | (with_reducible refine LeO.ite ?_ ?_)
   | (with_reducible refine LeO.bind ?_ (fun _ => ?_))
   | exact ih0 _ _ _ _ _ _
   | exact ih1 _ _ _ _ _ _ _
   | exact ih2 _ _ _ _ _ _
   | exact ih3 _ _ _ _ _ _ _
   | exact coder_Put.mono _ _ _ _ _ _ _
   | exact coder_Take.mono _ _ _ _ _ _ _ _
   | exact psalterylaw05_knows.mono _
   | exact LeO.none _
   | refine LeO.ite ?_ ?_
   | refine LeO.bind ?_ (fun _ => ?_)
def psalterylaw05_CoderBack.T6 : Bool × List (List Nat × List Nat) := (true, [([], []), ([], []), ([], []), ([1, 2], [1, 2]), ([3], [3]), ([4], [4]), ([], []), ([], []), ([6, 7], [6, 7]), ([8], [8]), ([9], [9]), ([], []), ([], []), ([11, 12], [11, 12]), ([13], [13]), ([14], [14]), ([0, 5, 10, 15], [0, 5, 10, 15]), ([16], [16]), ([17], [17]), ([17], [17]), ([], []), ([20, 18, 16, 0, 1, 2, 3, 4, 5, 6, 7, 8, 9, 10, 11, 12, 13, 14, 15, 16, 17, 18, 20], [18, 20]), ([19, 21, 0, 1, 2, 3, 4, 5, 6, 7, 8, 9, 10, 11, 12, 13, 14, 15, 16, 17, 18, 19, 20, 21], [19])])
def psalterylaw05_CoderBack.B6 : List Nat := [0, 0, 0, 6, 14, 30, 0, 0, 192, 448, 960, 0, 0, 6144, 14336, 30720, 65535, 131071, 262143, 262143, 0, 1572863, 4194303]
theorem psalterylaw05_CoderBack.tab6 : rtab .any (opsOf Try.f7 6) = psalterylaw05_CoderBack.T6 := by kernel_rfl
theorem psalterylaw05_CoderBack.bits6 : waitsOk psalterylaw05_CoderBack.T6.2 psalterylaw05_CoderBack.B6 = true := by kernel_rfl
def psalterylaw05_CoderBack.T14 : Bool × List (List Nat × List Nat) := (true, [([], []), ([], []), ([], []), ([1, 2], [1, 2]), ([3], [3]), ([4], [4]), ([0, 5], [0, 5]), ([6], [6]), ([7], [7]), ([7], [7]), ([8, 6, 0, 1, 2, 3, 4, 5, 6, 7, 8], [8]), ([9, 10, 0, 1, 2, 3, 4, 5, 6, 7, 8, 9, 10], [9])])
def psalterylaw05_CoderBack.B14 : List Nat := [0, 0, 0, 6, 14, 30, 63, 127, 255, 255, 511, 2047]
theorem psalterylaw05_CoderBack.tab14 : rtab .any (opsOf Try.f7 14) = psalterylaw05_CoderBack.T14 := by kernel_rfl
theorem psalterylaw05_CoderBack.bits14 : waitsOk psalterylaw05_CoderBack.T14.2 psalterylaw05_CoderBack.B14 = true := by kernel_rfl
def psalterylaw05_CoderBack.T15 : Bool × List (List Nat × List Nat) := (true, [([], []), ([], []), ([], []), ([1, 2], [1, 2]), ([3], [3]), ([4], [4]), ([], []), ([], []), ([6, 7], [6, 7]), ([8], [8]), ([9], [9]), ([], []), ([], []), ([11, 12], [11, 12]), ([13], [13]), ([14], [14]), ([0, 5, 10, 15], [0, 5, 10, 15]), ([16], [16]), ([17], [17]), ([17], [17]), ([], []), ([20, 18, 16, 0, 1, 2, 3, 4, 5, 6, 7, 8, 9, 10, 11, 12, 13, 14, 15, 16, 17, 18, 20], [18, 20]), ([19, 21, 0, 1, 2, 3, 4, 5, 6, 7, 8, 9, 10, 11, 12, 13, 14, 15, 16, 17, 18, 19, 20, 21], [19])])
def psalterylaw05_CoderBack.B15 : List Nat := [0, 0, 0, 6, 14, 30, 0, 0, 192, 448, 960, 0, 0, 6144, 14336, 30720, 65535, 131071, 262143, 262143, 0, 1572863, 4194303]
theorem psalterylaw05_CoderBack.tab15 : rtab .any (opsOf Try.f7 15) = psalterylaw05_CoderBack.T15 := by kernel_rfl
theorem psalterylaw05_CoderBack.bits15 : waitsOk psalterylaw05_CoderBack.T15.2 psalterylaw05_CoderBack.B15 = true := by kernel_rfl
set_option maxHeartbeats 8000000 in
set_option maxRecDepth 100000 in
theorem psalterylaw05_CoderBack.calls (k : Nat) (A0 : Option Addr) (c0 : Nat) (l0 : List (S53)) (r : Bool) (w : World) (hr0 : Kd.C k53 w A0 l0.length l0) (hc0 : l0.length ≤ c0) (h : psalterylaw05_CoderBack.f k l0 = some r) :
  Calls Try.prog 7 #[.slice A0 l0.length c0] w fun e w' => e = .returned (.bool r) ∧ Below w.heap.size w w' := by
 have hu26 := Try.underlying26
 have hu53 := Try.underlying53
 have hu43 := Try.underlying43
 have HR0 := zm hr0
 have HC0 := zm hc0
 clear hr0 hc0
 have HB := zm (Below.refl w.heap.size w)
 have H : ((coder_New.f).bind fun bt404 => (psalterylaw05_CoderBack.l0 k l0 ([] : List (S53)) 0 bt404.1 bt404.2.1 bt404.2.2)) = some r := h
 clear h
 replace H := Option.bind_eq_some_iff.mp H
 obtain ⟨⟨t404, t405, t406⟩, A20, H⟩ := H
 replace H : (psalterylaw05_CoderBack.l0 k l0 ([] : List (S53)) 0 t404 t405 t406) = some r := H
 have A2 := zm A20
 clear A20
 have H' := zm H
 clear H
 go_enter Try.func7, Try.ntmps7
 go_wp2_with (first | ((with_reducible refine gate_callee (f := 29) rfl ?_); refine goesL_ (some 14) rfl rfl Try.func29 (by kernel_rfl) rfl #[] rfl (by (try simp only [List.map_toArray, List.map_cons, List.map_nil]); first | done | rfl | (simp only [List.length_drop, List.length_take]; rfl)) ?_; (with_reducible refine (coder_New.calls  t404 t405 t406 _ A2.out).mono ?_); rintro e w3 ⟨v407, rfl, ho0, hb⟩; refine ⟨_, rfl, ?_⟩; have n0_ := zm (Kd.R_lower ho0 (zE (by repeat (first | (with_reducible first | exact HB.out | apply ze | apply zd | apply zf) | exact HB.out)))); have n1_ := zm (zJ (by repeat (first | (with_reducible first | exact HB.out | apply ze | apply zd | apply zf) | exact HB.out)) hb); clear HB; have HO408 := n0_; have HB := n1_; clear n0_ n1_; (try clear hb); (try clear hb2); (try clear hk); (try clear hi); (try clear ho0)) | ((with_reducible refine gate_dst (N := 3) rfl ?_); refine box_event ?hg (N := 3) ?hd (cs := #[.int .u64 0, .int .u32 0, .slice none 0 0]) (t := 26) ?hr ?_; (case hd => rfl); (case hg => rfl); (case hr => first | (go_simp; done) | (go_simp; rfl)); intro gb409 hg w4 hbox hb; have n0_ := zm (Kd.R_below (by (with_reducible repeat (first | apply zo | apply zp | apply zq)); exact HO408.out) hb); have n1_ := zm (zJ (by repeat (first | (with_reducible first | exact HB.out | apply ze | apply zd | apply zf) | exact HB.out)) hb); have n2_ := zm (hbox); have n3_ := zm ((by rw [hg]; exact (zE (by repeat (first | (with_reducible first | exact HB.out | apply ze | apply zd | apply zf) | exact HB.out))) : w.heap.size ≤ gb409)); have n4_ := zm ((by rw [hg]; exact (zE (by repeat (first | (with_reducible first | exact HB.out | apply ze | apply zd | apply zf) | exact HB.out))) : w.heap.size ≤ gb409)); clear HO408; clear HB; have HO408 := n0_; have HB := n1_; have BK409 := n2_; have GW409 := n3_; have GE409 := n4_; clear n0_ n1_ n2_ n3_ n4_; clear hb hbox hg; have hcz5_0 : w4.cell? ⟨gb409, 0, none⟩ = some (.int .u64 0) := (zs BK409.out 0).trans rfl; have hcz5_1 : w4.cell? ⟨gb409, 1, none⟩ = some (.int .u32 0) := (zs BK409.out 1).trans rfl; have hcz5_2 : w4.cell? ⟨gb409, 2, none⟩ = some (.slice none 0 0) := (zs BK409.out 2).trans rfl; have hfz5_0 := zx BK409.out 0; have hfz5_1 := zx BK409.out 1; have hfz5_2 := zx BK409.out 2; obtain ⟨Ao6, co6, eo6⟩ := Kd.R_slice HO408.out; subst eo6))
 go_loopg [4, 5] k (fun kq v4 v5 w' => ∃ (x4_1 : List (S53)) (x5_1 : Int) (x410000_1 : Int) (x410001_1 : Int) (x410002_1 : List Int) (u410002 : Value), v5 = .int .i64 x5_1 ∧ Aside0 (psalterylaw05_CoderBack.l0 kq l0 x4_1 x5_1 x410000_1 x410001_1 x410002_1 = some r) ∧ Aside0 (kq ≤ k) ∧ Aside0 (Kd.R k53 53 w' w.heap.size (fun _ => True) v4 x4_1) ∧ Aside0 (Kd.R (Kd.int .u8) 5 w' w.heap.size (fun _ => True) u410002 x410002_1) ∧ Aside0 (w'.heap[gb409]? = some (.cells #[.int .u64 x410000_1, .int .u32 x410001_1, u410002] 26 (0, 0))) ∧ Aside0 (Below w.heap.size w w'))
 case atStart => exact ⟨(([] : List (S53))), (0), (t404), (t405), (t406), (.slice Ao6 t406.length co6), (by first | rfl | (simp; done) | (simp [*]; done)), H', ⟨Nat.le_refl _⟩, ⟨by first | exact Kd.R_nil _ _ _ _ _ | exact Kd.N_nil _ _ _ _ _ | exact Kd.V_nil _ _ _ _ _ | exact Kd.Q_nil _ _ _ _ _ | exact Kd.S_nil _ _ _ _ _⟩, ⟨by (with_reducible repeat (first | apply zo | apply zp | apply zq)); exact zG (zH (p := ⟨gb409, 2, none⟩) (zH (p := ⟨gb409, 1, none⟩) (zH (p := ⟨gb409, 0, none⟩) (Kd.R_types HO408.out BK409.out (by decide)) (fun _ hk => hk.2) (.int .u64 t404)) (fun _ hk => hk.2) (.int .u32 t405)) (fun _ hk => hk.2) (.slice Ao6 t406.length co6)) (fun _ hk => trivial)⟩, ⟨by (with_reducible repeat (first | refine zh ?_ _ | refine zj ?_ | refine zi ?_ _)); refine zw (cs := #[.int .u64 t404, .int .u32 t405, .slice none 0 0]) ?_ 2 _ rfl; (with_reducible repeat (first | refine zh ?_ _ | refine zj ?_ | refine zi ?_ _)); refine zw (cs := #[.int .u64 t404, .int .u32 0, .slice none 0 0]) ?_ 1 _ rfl; (with_reducible repeat (first | refine zh ?_ _ | refine zj ?_ | refine zi ?_ _)); refine zw (cs := #[.int .u64 0, .int .u32 0, .slice none 0 0]) ?_ 0 _ rfl; (with_reducible repeat (first | refine zh ?_ _ | refine zj ?_ | refine zi ?_ _)); exact BK409.out⟩, ⟨by repeat (first | (with_reducible first | exact HB.out | apply ze | apply zd | apply zf | refine zk ?_ GE409.out) | exact HB.out)⟩⟩
 case round =>
  clear H'
  try clear c2
  try clear p2
  try clear hcz5_0
  try clear hcz5_1
  try clear hcz5_2
  try clear hfz5_0
  try clear hfz5_1
  try clear hfz5_2
  obtain ⟨x4_1, x5_1, x410000_1, x410001_1, x410002_1, u410002, rfl, HA, HK1, HO_4, HO_410002, BK409, HB⟩ := hrel
  cases gk with
  | zero => exact absurd HA.out (by simp [psalterylaw05_CoderBack.l0])
  | succ k1 =>
   have H := HA.out
   clear HA
   simp only [psalterylaw05_CoderBack.l0] at H
   have HC7 := zm H
   clear H
   go_upto_region 4 with (fail)
   go_cut [22] (fun v22 wc => ∃ (kq : Nat) (x22_6 : Bool), v22 = .bool x22_6 ∧ Aside0 (psalterylaw05_CoderBack.j1 kq l0 x4_1 x5_1 x22_6 x410000_1 x410001_1 x410002_1 = some r) ∧ Aside0 (kq ≤ k1) ∧ Aside0 (Kd.R k53 53 wc w.heap.size (fun _ => True) u4 x4_1) ∧ Aside0 (Kd.R (Kd.int .u8) 5 wc w.heap.size (fun _ => True) u410002 x410002_1) ∧ Aside0 (wc.heap[gb409]? = some (.cells #[.int .u64 x410000_1, .int .u32 x410001_1, u410002] 26 (0, 0))) ∧ Aside0 (Below w.heap.size w wc))
   case first =>
    have H := HC7.out
    clear HC7
    by_cases c8 : x5_1 < (l0.length : Int)
    ·
     rw [if_pos c8] at H
     have c8b0 : decide (x5_1 < (l0.length : Int)) = true := decide_eq_true c8
     clear c8
     (first | rw [c8b0] | (simp only [i64_w, i32_w]; rw [c8b0]) | skip)
     have H' := zm H
     clear H
     go_wp2
     go_meet
     case rel => exact ⟨_, (decide (x5_1 < 100)), (by first | rfl | (simp; done) | (simp [*]; done)), H', ⟨by have := HK1.out; first | omega | exact Nat.le_refl _⟩, ⟨by (with_reducible repeat (first | apply zo | apply zp | apply zq)); exact HO_4.out⟩, ⟨by (with_reducible repeat (first | apply zo | apply zp | apply zq)); exact HO_410002.out⟩, ⟨by (with_reducible repeat (first | refine zh ?_ _ | refine zj ?_ | refine zi ?_ _)); exact BK409.out⟩, ⟨by repeat (first | (with_reducible first | exact HB.out | apply ze | apply zd | apply zf | refine zk ?_ GE409.out) | exact HB.out)⟩⟩
    ·
     rw [if_neg c8] at H
     have c8b0 : decide (x5_1 < (l0.length : Int)) = false := decide_eq_false c8
     clear c8
     (first | rw [c8b0] | (simp only [i64_w, i32_w]; rw [c8b0]) | skip)
     have H' := zm H
     clear H
     go_wp2
     go_meet
     case rel => exact ⟨_, (false), (by first | rfl | (simp; done) | (simp [*]; done)), H', ⟨by have := HK1.out; first | omega | exact Nat.le_refl _⟩, ⟨by (with_reducible repeat (first | apply zo | apply zp | apply zq)); exact HO_4.out⟩, ⟨by (with_reducible repeat (first | apply zo | apply zp | apply zq)); exact HO_410002.out⟩, ⟨by (with_reducible repeat (first | refine zh ?_ _ | refine zj ?_ | refine zi ?_ _)); exact BK409.out⟩, ⟨by repeat (first | (with_reducible first | exact HB.out | apply ze | apply zd | apply zf | refine zk ?_ GE409.out) | exact HB.out)⟩⟩
   case rest =>
    clear HC7
    try clear c2
    try clear p2
    try clear c7
    try clear c8
    try clear c8b0
    try clear hcz5_0
    try clear hcz5_1
    try clear hcz5_2
    try clear hfz5_0
    try clear hfz5_1
    try clear hfz5_2
    try clear p2
    obtain ⟨kq, x22_6, rfl, HA, HJ6, HO_4, HO_410002, BK409, HB⟩ := hcut
    cases kq with
    | zero => exact absurd HA.out (by simp [psalterylaw05_CoderBack.j1])
    | succ kj6 =>
     have H := HA.out
     clear HA
     simp only [psalterylaw05_CoderBack.j1] at H
     by_cases c9 : x22_6 = true
     ·
      subst c9
      have H1 : (if 0 ≤ x5_1 then (if x5_1 < (l0.length : Int) then ((coder_Put.f kj6 x410000_1 x410001_1 x410002_1 ((rd_T53 l0 x5_1).f0) ((rd_T53 l0 x5_1).f1) ((rd_T53 l0 x5_1).f2)).bind fun bt413 => (if bt413.2.2.2 = 0 then (if x4_1.length < 5864062014805 then (psalterylaw05_CoderBack.l0 kj6 l0 (x4_1 ++ [(⟨(rd_T53 l0 x5_1).f0, (rd_T53 l0 x5_1).f1, (rd_T53 l0 x5_1).f2⟩ : S53)]) (wrap64 (x5_1 + 1)) bt413.1 bt413.2.1 bt413.2.2.1) else (none)) else (psalterylaw05_CoderBack.l0 kj6 l0 x4_1 (wrap64 (x5_1 + 1)) bt413.1 bt413.2.1 bt413.2.2.1))) else (none)) else (none)) = some r := by rw [if_pos rfl] at H; exact H
      clear H
      have H := H1
      clear H1
      by_cases c10 : 0 ≤ x5_1
      ·
       rw [if_pos c10] at H
       have c10b0 : decide (0 ≤ x5_1) = true := decide_eq_true c10
       clear c10
       by_cases c11 : x5_1 < (l0.length : Int)
       ·
        rw [if_pos c11] at H
        have c11b0 : decide (x5_1 < (l0.length : Int)) = true := decide_eq_true c11
        clear c11
        replace H := Option.bind_eq_some_iff.mp H
        obtain ⟨⟨t413, t414, t415, t418⟩, A120, H⟩ := H
        replace H : (if t418 = 0 then (if x4_1.length < 5864062014805 then (psalterylaw05_CoderBack.l0 kj6 l0 (x4_1 ++ [(⟨(rd_T53 l0 x5_1).f0, (rd_T53 l0 x5_1).f1, (rd_T53 l0 x5_1).f2⟩ : S53)]) (wrap64 (x5_1 + 1)) t413 t414 t415) else (none)) else (psalterylaw05_CoderBack.l0 kj6 l0 x4_1 (wrap64 (x5_1 + 1)) t413 t414 t415)) = some r := H
        have A12 := zm A120
        clear A120
        by_cases c13 : t418 = 0
        ·
         rw [if_pos c13] at H
         have c13b0 : (t418 == 0) = true := beq_iff_eq.mpr c13
         have c13b1 : (t418 != 0) = false := bne_eq_false_iff_eq.mpr c13
         clear c13
         by_cases c14 : x4_1.length < 5864062014805
         ·
          rw [if_pos c14] at H
          have LMc14 := zm c14
          clear c14
          obtain ⟨y421, hy421⟩ : ∃ y_ : List (S53), y_ = (x4_1 ++ [(⟨(rd_T53 l0 x5_1).f0, (rd_T53 l0 x5_1).f1, (rd_T53 l0 x5_1).f2⟩ : S53)]) := ⟨_, rfl⟩
          replace H : (psalterylaw05_CoderBack.l0 kj6 l0 y421 (wrap64 (x5_1 + 1)) t413 t414 t415) = some r := by first | (rw [hy421]; with_reducible exact H) | (have H2_ := (Option.bind_some _ _).symm.trans H; rw [hy421]; with_reducible exact H2_) | (have H2_ := (Option.bind_some _ _).symm.trans H; with_reducible exact H2_) | with_reducible exact H | (rw [hy421]; exact H) | exact H
          have Ny421 := zm hy421
          clear hy421
          have H' := zm H
          clear H
          obtain ⟨Ao15, co15, eo15⟩ := Kd.R_slice HO_410002.out
          subst eo15
          try go_wp2
          have n0_ := zm (zq HO_4.out)
          have n1_ := zm (zq HO_410002.out)
          have n2_ := zm (zj BK409.out)
          have n3_ := zm (zf HB.out)
          clear HO_4
          clear HO_410002
          clear BK409
          clear HB
          have HO_4 := n0_
          have HO_410002 := n1_
          have BK409 := n2_
          have HB := n3_
          clear n0_ n1_ n2_ n3_
          have p410 : 0 ≤ (x5_1 : Int) := of_decide_eq_true (by first | (with_reducible assumption) | assumption)
          have q410 : x5_1 < (l0.length : Int) := of_decide_eq_true (by first | (with_reducible assumption) | assumption)
          obtain ⟨ad410, e410, hx410_0, hx410_1, hx410_2⟩ := at_T53 HR0.out x5_1 p410 q410
          have hw410_2 := hx410_2
          have hw410_1 := hx410_1
          have hw410_0 := hx410_0
          cases e410
          replace hx410_0 := (HB.out.cell (zb w _ hx410_0)).trans hx410_0
          replace hx410_1 := (HB.out.cell (zb w _ hx410_1)).trans hx410_1
          replace hx410_2 := (HB.out.cell (zb w _ hx410_2)).trans hx410_2
          replace p410 := eq_true p410
          replace q410 := eq_true q410
          have p411 : 0 ≤ (x5_1 : Int) := of_decide_eq_true (by first | (with_reducible assumption) | assumption)
          have q411 : x5_1 < (l0.length : Int) := of_decide_eq_true (by first | (with_reducible assumption) | assumption)
          obtain ⟨ad411, e411, hx411_0, hx411_1, hx411_2⟩ := at_T53 HR0.out x5_1 p411 q411
          have hw411_2 := hx411_2
          have hw411_1 := hx411_1
          have hw411_0 := hx411_0
          obtain rfl : ad410 = ad411 := (by injection e411)
          replace hx411_0 := (HB.out.cell (zb w _ hx411_0)).trans hx411_0
          replace hx411_1 := (HB.out.cell (zb w _ hx411_1)).trans hx411_1
          replace hx411_2 := (HB.out.cell (zb w _ hx411_2)).trans hx411_2
          replace p411 := eq_true p411
          replace q411 := eq_true q411
          have p412 : 0 ≤ (x5_1 : Int) := of_decide_eq_true (by first | (with_reducible assumption) | assumption)
          have q412 : x5_1 < (l0.length : Int) := of_decide_eq_true (by first | (with_reducible assumption) | assumption)
          obtain ⟨ad412, e412, hx412_0, hx412_1, hx412_2⟩ := at_T53 HR0.out x5_1 p412 q412
          have hw412_2 := hx412_2
          have hw412_1 := hx412_1
          have hw412_0 := hx412_0
          obtain rfl : ad410 = ad412 := (by injection e412)
          replace hx412_0 := (HB.out.cell (zb w _ hx412_0)).trans hx412_0
          replace hx412_1 := (HB.out.cell (zb w _ hx412_1)).trans hx412_1
          replace hx412_2 := (HB.out.cell (zb w _ hx412_2)).trans hx412_2
          replace p412 := eq_true p412
          replace q412 := eq_true q412
          refine start_ (n := 23) (S := fun w' => w'.cell? ⟨gb409, 0, none⟩ = some (.int .u64 x410000_1) ∧ w'.cell? ⟨gb409, 1, none⟩ = some (.int .u32 x410001_1) ∧ w'.cell? ⟨gb409, 2, none⟩ = some (.slice Ao15 x410002_1.length co15) ∧ w'.cell? (ad410.add ((x5_1).toNat * 3)) = some (.int .i64 ((rd_T53 l0 x5_1).f0)) ∧ w'.cell? ⟨(ad410.add ((x5_1).toNat * 3)).block, (ad410.add ((x5_1).toNat * 3)).off + 1, none⟩ = some (.int .i64 ((rd_T53 l0 x5_1).f1)) ∧ w'.cell? ⟨(ad410.add ((x5_1).toNat * 3)).block, (ad410.add ((x5_1).toNat * 3)).off + 2, none⟩ = some (.int .i64 ((rd_T53 l0 x5_1).f2)) ∧ w'.cell? (ad410.add ((x5_1).toNat * 3)) = some (.int .i64 ((rd_T53 l0 x5_1).f0)) ∧ w'.cell? ⟨(ad410.add ((x5_1).toNat * 3)).block, (ad410.add ((x5_1).toNat * 3)).off + 1, none⟩ = some (.int .i64 ((rd_T53 l0 x5_1).f1)) ∧ w'.cell? ⟨(ad410.add ((x5_1).toNat * 3)).block, (ad410.add ((x5_1).toNat * 3)).off + 2, none⟩ = some (.int .i64 ((rd_T53 l0 x5_1).f2)) ∧ w'.cell? (ad410.add ((x5_1).toNat * 3)) = some (.int .i64 ((rd_T53 l0 x5_1).f0)) ∧ w'.cell? ⟨(ad410.add ((x5_1).toNat * 3)).block, (ad410.add ((x5_1).toNat * 3)).off + 1, none⟩ = some (.int .i64 ((rd_T53 l0 x5_1).f1)) ∧ w'.cell? ⟨(ad410.add ((x5_1).toNat * 3)).block, (ad410.add ((x5_1).toNat * 3)).off + 2, none⟩ = some (.int .i64 ((rd_T53 l0 x5_1).f2))) (ds := []) #[false, false, false, false, false, false, false, false, false, false, false, false, false, false, false, false, false, false, false, false, false, false, false] (by kernel_rfl) rfl rfl ⟨(zs BK409.out 0).trans rfl, (zs BK409.out 1).trans rfl, (zs BK409.out 2).trans rfl, ((HB.out.cell (zb w _ hw410_0)).trans hw410_0), ((HB.out.cell (zb w _ hw410_1)).trans hw410_1), ((HB.out.cell (zb w _ hw410_2)).trans hw410_2), ((HB.out.cell (zb w _ hw411_0)).trans hw411_0), ((HB.out.cell (zb w _ hw411_1)).trans hw411_1), ((HB.out.cell (zb w _ hw411_2)).trans hw411_2), ((HB.out.cell (zb w _ hw412_0)).trans hw412_0), ((HB.out.cell (zb w _ hw412_1)).trans hw412_1), ((HB.out.cell (zb w _ hw412_2)).trans hw412_2)⟩ (fun hHeld => ?_); refine with_tabW psalterylaw05_CoderBack.tab6 psalterylaw05_CoderBack.bits6 (fun HT_ HW_ => ?_)
          generalize wc.drew = w16 at HO_4 HO_410002 BK409 HB hx410_0 hx410_1 hx410_2 hx411_0 hx411_1 hx411_2 hx412_0 hx412_1 hx412_2 hHeld ⊢
          refine pure_ (i := 1) (N := some 27) (v := ?_) (a' := ?_) #[false, true, false, false, false, false, false, false, false, false, false, false, false, false, false, false, false, false, false, false, false, false, false] rfl rfl (any_of HT_.out (by kernel_rfl)) (fun _ _ _ h => h) (Or.inl ⟨by rfl, ?_⟩) ?_ ?_
          rotate_left
          ·
           intro w'
           go_simp
           with_reducible rfl
          rotate_left
          ·
           simp only [Act.put, List.setIfInBounds_toArray, List.set_cons_zero, List.set_cons_succ, i64_w, i32_w]
           rfl
          refine pure_ (i := 2) (N := some 28) (v := ?_) (a' := ?_) #[false, true, true, false, false, false, false, false, false, false, false, false, false, false, false, false, false, false, false, false, false, false, false] rfl rfl (any_of HT_.out (by kernel_rfl)) (fun _ _ _ h => h) (Or.inl ⟨by rfl, ?_⟩) ?_ ?_
          rotate_left
          ·
           intro w'
           go_simp
           with_reducible rfl
          rotate_left
          ·
           simp only [Act.put, List.setIfInBounds_toArray, List.set_cons_zero, List.set_cons_succ, i64_w, i32_w]
           rfl
          refine pure_ (i := 3) (N := some 29) (v := ?_) (a' := ?_) #[false, true, true, true, false, false, false, false, false, false, false, false, false, false, false, false, false, false, false, false, false, false, false] rfl rfl (any_of HT_.out (by kernel_rfl)) (fun _ _ _ h => h) (Or.inl ⟨by rfl, ?_⟩) ?_ ?_
          rotate_left
          ·
           intro w'
           go_simp
           with_reducible rfl
          rotate_left
          ·
           simp only [Act.put, List.setIfInBounds_toArray, List.set_cons_zero, List.set_cons_succ, i64_w, i32_w]
           rfl
          refine pure_ (i := 4) (N := some 30) (v := ?_) (a' := ?_) #[false, true, true, true, true, false, false, false, false, false, false, false, false, false, false, false, false, false, false, false, false, false, false] rfl rfl (any_of HT_.out (by kernel_rfl)) (fun _ _ _ h => h) (Or.inl ⟨by rfl, ?_⟩) ?_ ?_
          rotate_left
          ·
           intro w'
           go_simp
           with_reducible rfl
          rotate_left
          ·
           simp only [Act.put, List.setIfInBounds_toArray, List.set_cons_zero, List.set_cons_succ, i64_w, i32_w]
           rfl
          refine pure_ (i := 6) (N := some 32) (v := ?_) (a' := ?_) #[false, true, true, true, true, false, true, false, false, false, false, false, false, false, false, false, false, false, false, false, false, false, false] rfl rfl (any_of HT_.out (by kernel_rfl)) (fun _ _ _ h => h) (Or.inl ⟨by rfl, ?_⟩) ?_ ?_
          rotate_left
          ·
           intro w'
           go_simp
           with_reducible rfl
          rotate_left
          ·
           simp only [Act.put, List.setIfInBounds_toArray, List.set_cons_zero, List.set_cons_succ, i64_w, i32_w]
           rfl
          refine pure_ (i := 7) (N := some 33) (v := ?_) (a' := ?_) #[false, true, true, true, true, false, true, true, false, false, false, false, false, false, false, false, false, false, false, false, false, false, false] rfl rfl (any_of HT_.out (by kernel_rfl)) (fun _ _ _ h => h) (Or.inl ⟨by rfl, ?_⟩) ?_ ?_
          rotate_left
          ·
           intro w'
           go_simp
           with_reducible rfl
          rotate_left
          ·
           simp only [Act.put, List.setIfInBounds_toArray, List.set_cons_zero, List.set_cons_succ, i64_w, i32_w]
           rfl
          refine pure_ (i := 8) (N := some 34) (v := ?_) (a' := ?_) #[false, true, true, true, true, false, true, true, true, false, false, false, false, false, false, false, false, false, false, false, false, false, false] rfl rfl (any_of HT_.out (by kernel_rfl)) (fun _ _ _ h => h) (Or.inl ⟨by rfl, ?_⟩) ?_ ?_
          rotate_left
          ·
           intro w'
           go_simp
           with_reducible rfl
          rotate_left
          ·
           simp only [Act.put, List.setIfInBounds_toArray, List.set_cons_zero, List.set_cons_succ, i64_w, i32_w]
           rfl
          refine pure_ (i := 9) (N := some 35) (v := ?_) (a' := ?_) #[false, true, true, true, true, false, true, true, true, true, false, false, false, false, false, false, false, false, false, false, false, false, false] rfl rfl (any_of HT_.out (by kernel_rfl)) (fun _ _ _ h => h) (Or.inl ⟨by rfl, ?_⟩) ?_ ?_
          rotate_left
          ·
           intro w'
           go_simp
           with_reducible rfl
          rotate_left
          ·
           simp only [Act.put, List.setIfInBounds_toArray, List.set_cons_zero, List.set_cons_succ, i64_w, i32_w]
           rfl
          refine pure_ (i := 11) (N := some 37) (v := ?_) (a' := ?_) #[false, true, true, true, true, false, true, true, true, true, false, true, false, false, false, false, false, false, false, false, false, false, false] rfl rfl (any_of HT_.out (by kernel_rfl)) (fun _ _ _ h => h) (Or.inl ⟨by rfl, ?_⟩) ?_ ?_
          rotate_left
          ·
           intro w'
           go_simp
           with_reducible rfl
          rotate_left
          ·
           simp only [Act.put, List.setIfInBounds_toArray, List.set_cons_zero, List.set_cons_succ, i64_w, i32_w]
           rfl
          refine pure_ (i := 12) (N := some 38) (v := ?_) (a' := ?_) #[false, true, true, true, true, false, true, true, true, true, false, true, true, false, false, false, false, false, false, false, false, false, false] rfl rfl (any_of HT_.out (by kernel_rfl)) (fun _ _ _ h => h) (Or.inl ⟨by rfl, ?_⟩) ?_ ?_
          rotate_left
          ·
           intro w'
           go_simp
           with_reducible rfl
          rotate_left
          ·
           simp only [Act.put, List.setIfInBounds_toArray, List.set_cons_zero, List.set_cons_succ, i64_w, i32_w]
           rfl
          refine pure_ (i := 13) (N := some 39) (v := ?_) (a' := ?_) #[false, true, true, true, true, false, true, true, true, true, false, true, true, true, false, false, false, false, false, false, false, false, false] rfl rfl (any_of HT_.out (by kernel_rfl)) (fun _ _ _ h => h) (Or.inl ⟨by rfl, ?_⟩) ?_ ?_
          rotate_left
          ·
           intro w'
           go_simp
           with_reducible rfl
          rotate_left
          ·
           simp only [Act.put, List.setIfInBounds_toArray, List.set_cons_zero, List.set_cons_succ, i64_w, i32_w]
           rfl
          refine pure_ (i := 14) (N := some 40) (v := ?_) (a' := ?_) #[false, true, true, true, true, false, true, true, true, true, false, true, true, true, true, false, false, false, false, false, false, false, false] rfl rfl (any_of HT_.out (by kernel_rfl)) (fun _ _ _ h => h) (Or.inl ⟨by rfl, ?_⟩) ?_ ?_
          rotate_left
          ·
           intro w'
           go_simp
           with_reducible rfl
          rotate_left
          ·
           simp only [Act.put, List.setIfInBounds_toArray, List.set_cons_zero, List.set_cons_succ, i64_w, i32_w]
           rfl
          refine take_ (i := 0) (N := some 26) (v := ?_) (a' := ?_) #[true, true, true, true, true, false, true, true, true, true, false, true, true, true, true, false, false, false, false, false, false, false, false] rfl rfl (take_ofW HT_.out HW_.out (by kernel_rfl)) (fun _ _ _ h => h) (Or.inl ⟨by rfl, ?_⟩) hHeld ?_ ?_
          rotate_left
          ·
           rintro w' ⟨s0, s1, s2, s3, s4, s5, s6, s7, s8, s9, s10, s11⟩
           go_simp
           with_reducible rfl
          rotate_left
          ·
           simp only [Act.put, List.setIfInBounds_toArray, List.set_cons_zero, List.set_cons_succ, i64_w, i32_w]
           rfl
          refine take_ (i := 5) (N := some 31) (v := ?_) (a' := ?_) #[true, true, true, true, true, true, true, true, true, true, false, true, true, true, true, false, false, false, false, false, false, false, false] rfl rfl (take_ofW HT_.out HW_.out (by kernel_rfl)) (fun _ _ _ h => h) (Or.inl ⟨by rfl, ?_⟩) hHeld ?_ ?_
          rotate_left
          ·
           rintro w' ⟨s0, s1, s2, s3, s4, s5, s6, s7, s8, s9, s10, s11⟩
           go_simp
           with_reducible rfl
          rotate_left
          ·
           simp only [Act.put, List.setIfInBounds_toArray, List.set_cons_zero, List.set_cons_succ, i64_w, i32_w]
           rfl
          refine take_ (i := 10) (N := some 36) (v := ?_) (a' := ?_) #[true, true, true, true, true, true, true, true, true, true, true, true, true, true, true, false, false, false, false, false, false, false, false] rfl rfl (take_ofW HT_.out HW_.out (by kernel_rfl)) (fun _ _ _ h => h) (Or.inl ⟨by rfl, ?_⟩) hHeld ?_ ?_
          rotate_left
          ·
           rintro w' ⟨s0, s1, s2, s3, s4, s5, s6, s7, s8, s9, s10, s11⟩
           go_simp
           with_reducible rfl
          rotate_left
          ·
           simp only [Act.put, List.setIfInBounds_toArray, List.set_cons_zero, List.set_cons_succ, i64_w, i32_w]
           rfl
          refine take_ (i := 15) (N := some 41) (v := ?_) (a' := ?_) #[true, true, true, true, true, true, true, true, true, true, true, true, true, true, true, true, false, false, false, false, false, false, false] rfl rfl (take_ofW HT_.out HW_.out (by kernel_rfl)) (fun _ _ _ h => h) (Or.inl ⟨by rfl, ?_⟩) hHeld ?_ ?_
          rotate_left
          ·
           rintro w' ⟨s0, s1, s2, s3, s4, s5, s6, s7, s8, s9, s10, s11⟩
           go_simp
           with_reducible rfl
          rotate_left
          ·
           simp only [Act.put, List.setIfInBounds_toArray, List.set_cons_zero, List.set_cons_succ, i64_w, i32_w]
           rfl
          refine join_ (σ := Value × Nat) 2 #[true, true, true, true, true, true, true, true, true, true, true, true, true, true, true, true, true, true, true, true, true, false, false] (fun s_ => [(42, .tuple #[.agg #[.int .u64 t413, .int .u32 t414, s_.1], .int .i64 t418]), (6, .pointer (some ⟨s_.2, 0, none⟩)), (25, .tuple #[.agg #[.int .u64 t413, .int .u32 t414, s_.1], .int .i64 t418]), (43, .agg #[.int .u64 t413, .int .u32 t414, s_.1]), (44, .int .i64 t418)]) (fun s_ w' => (w'.cell? ⟨gb409, 0, none⟩ = some (.int .u64 x410000_1) ∧ w'.cell? ⟨gb409, 1, none⟩ = some (.int .u32 x410001_1) ∧ w'.cell? ⟨gb409, 2, none⟩ = some (.slice Ao15 x410002_1.length co15) ∧ w'.cell? (ad410.add ((x5_1).toNat * 3)) = some (.int .i64 ((rd_T53 l0 x5_1).f0)) ∧ w'.cell? ⟨(ad410.add ((x5_1).toNat * 3)).block, (ad410.add ((x5_1).toNat * 3)).off + 1, none⟩ = some (.int .i64 ((rd_T53 l0 x5_1).f1)) ∧ w'.cell? ⟨(ad410.add ((x5_1).toNat * 3)).block, (ad410.add ((x5_1).toNat * 3)).off + 2, none⟩ = some (.int .i64 ((rd_T53 l0 x5_1).f2)) ∧ w'.cell? (ad410.add ((x5_1).toNat * 3)) = some (.int .i64 ((rd_T53 l0 x5_1).f0)) ∧ w'.cell? ⟨(ad410.add ((x5_1).toNat * 3)).block, (ad410.add ((x5_1).toNat * 3)).off + 1, none⟩ = some (.int .i64 ((rd_T53 l0 x5_1).f1)) ∧ w'.cell? ⟨(ad410.add ((x5_1).toNat * 3)).block, (ad410.add ((x5_1).toNat * 3)).off + 2, none⟩ = some (.int .i64 ((rd_T53 l0 x5_1).f2)) ∧ w'.cell? (ad410.add ((x5_1).toNat * 3)) = some (.int .i64 ((rd_T53 l0 x5_1).f0)) ∧ w'.cell? ⟨(ad410.add ((x5_1).toNat * 3)).block, (ad410.add ((x5_1).toNat * 3)).off + 1, none⟩ = some (.int .i64 ((rd_T53 l0 x5_1).f1)) ∧ w'.cell? ⟨(ad410.add ((x5_1).toNat * 3)).block, (ad410.add ((x5_1).toNat * 3)).off + 2, none⟩ = some (.int .i64 ((rd_T53 l0 x5_1).f2))) ∧ (Kd.R (Kd.int .u8) 5 w' w.heap.size (fun k_ => some k_ ≠ (.slice Ao15 x410002_1.length co15 : Value).ownBlock) s_.1 t415) ∧ (Kd.R k53 53 w' w.heap.size (fun _ => True) u4 x4_1) ∧ (Kd.R (Kd.int .u8) 5 w' w.heap.size (fun k_ => some k_ ≠ (s_.1 : Value).ownBlock) (.slice Ao15 x410002_1.length co15) x410002_1) ∧ (w'.heap[gb409]? = some (.cells #[.int .u64 x410000_1, .int .u32 x410001_1, .slice Ao15 x410002_1.length co15] 26 (0, 0))) ∧ (w'.heap[s_.2]? = some (.cells #[.int .u64 0, .int .u32 0, .slice none 0 0] 26 (0, 0))) ∧ (w.heap.size ≤ s_.2) ∧ (w.heap.size ≤ s_.2) ∧ (gb409 ≠ s_.2) ∧ (s_.2 ≠ gb409) ∧ (Below w.heap.size w w')) ?_ ?_
          rotate_left
          ·
           intro hCont
           refine two_ (i := 16) (j := 20) (Ni := some 42) (Nj := some 6) #[true, true, true, true, true, true, true, true, true, true, true, true, true, true, true, true, true, false, false, false, false, false, false] #[true, true, true, true, true, true, true, true, true, true, true, true, true, true, true, true, false, false, false, false, true, false, false] rfl rfl rfl rfl (two_of HT_.out (by kernel_rfl)) (by decide) (by decide) (fun K hK => ?_) (fun K hK => ?_)
           ·
            skip
            refine goes_ Try.func18 (by kernel_rfl) rfl #[.agg #[.int .u64 x410000_1, .int .u32 x410001_1, .slice Ao15 x410002_1.length co15], .int .i64 ((rd_T53 l0 x5_1).f0), .int .i64 ((rd_T53 l0 x5_1).f1), .int .i64 ((rd_T53 l0 x5_1).f2)] (by rfl) rfl rfl (by (try simp only [List.map_toArray, List.map_cons, List.map_nil]); first | done | rfl | (simp only [List.length_drop, List.length_take]; rfl)) ?_
            with_reducible refine (coder_Put.calls kj6 x410000_1 x410001_1 _ _ x410002_1 ((rd_T53 l0 x5_1).f0) ((rd_T53 l0 x5_1).f1) ((rd_T53 l0 x5_1).f2) t413 t414 t415 t418 _ ?side1 ?side2 A12.out).mono ?_
            (case side1 => repeat (first | exact (Kd.R_reads' HO_410002.out).2.2 | (with_reducible refine Kd.C_alloc ?_ _) | (with_reducible refine Kd.C_drewN ?_ _) | (with_reducible refine Kd.C_drew ?_)))
            (case side2 => exact (Kd.R_reads' HO_410002.out).2.1)
            rintro e w17 ⟨v416, rfl, ho0, hb⟩
            refine ⟨_, rfl, ?_⟩
            have n0_ := zm (Kd.R_below (by (with_reducible repeat (first | apply zo | apply zp | apply zq)); exact HO_4.out) hb)
            have n1_ := zm (Kd.R_elder' (by (with_reducible repeat (first | apply zo | apply zp | apply zq)); exact HO_410002.out) (Kd.R_base ho0) hb)
            have n2_ := zm (Kd.R_lower (Kd.R_new' ho0 (Kd.R_lt (by (with_reducible repeat (first | apply zo | apply zp | apply zq)); exact HO_410002.out))) (zE (by repeat (first | (with_reducible first | exact HB.out | apply ze | apply zd | apply zf | refine zk ?_ GE409.out) | exact HB.out))))
            have n3_ := zm (zF (g := gb409) (o := .cells #[.int .u64 x410000_1, .int .u32 x410001_1, .slice Ao15 x410002_1.length co15] 26 (0, 0)) (by (with_reducible repeat (first | refine zh ?_ _ | refine zj ?_ | refine zi ?_ _)); exact BK409.out) hb)
            have n4_ := zm (zJ (by repeat (first | (with_reducible first | exact HB.out | apply ze | apply zd | apply zf | refine zk ?_ GE409.out) | exact HB.out)) hb)
            clear HO_4
            clear HO_410002
            clear BK409
            clear HB
            have HO_4 := n0_
            have HO_410002 := n1_
            have HO417 := n2_
            have BK409 := n3_
            have HB := n4_
            clear n0_ n1_ n2_ n3_ n4_
            (try clear hb)
            (try clear hb2)
            (try clear hk)
            (try clear hi)
            (try clear ho0)
            refine hK.out _ _ ⟨(zs BK409.out 0).trans rfl, (zs BK409.out 1).trans rfl, (zs BK409.out 2).trans rfl, ((HB.out.cell (zb w _ hw410_0)).trans hw410_0), ((HB.out.cell (zb w _ hw410_1)).trans hw410_1), ((HB.out.cell (zb w _ hw410_2)).trans hw410_2), ((HB.out.cell (zb w _ hw411_0)).trans hw411_0), ((HB.out.cell (zb w _ hw411_1)).trans hw411_1), ((HB.out.cell (zb w _ hw411_2)).trans hw411_2), ((HB.out.cell (zb w _ hw412_0)).trans hw412_0), ((HB.out.cell (zb w _ hw412_1)).trans hw412_1), ((HB.out.cell (zb w _ hw412_2)).trans hw412_2)⟩ (fun hHeld => ?_)
            clear hK K
            refine norm_ (a' := ?_) ?_ ?_
            rotate_left
            ·
             show Act.put _ (some 42) _ = _
             simp only [Act.put, List.setIfInBounds_toArray, List.set_cons_zero, List.set_cons_succ, i64_w, i32_w]
             rfl
            refine pure_ (i := 17) (N := some 25) (v := ?_) (a' := ?_) #[true, true, true, true, true, true, true, true, true, true, true, true, true, true, true, true, true, true, false, false, false, false, false] rfl rfl (any_of HT_.out (by kernel_rfl)) (fun _ _ _ h => h) (Or.inl ⟨by rfl, ?_⟩) ?_ ?_
            rotate_left
            ·
             intro w'
             go_simp
             with_reducible rfl
            rotate_left
            ·
             simp only [Act.put, List.setIfInBounds_toArray, List.set_cons_zero, List.set_cons_succ, i64_w, i32_w]
             rfl
            refine pure_ (i := 18) (N := some 43) (v := ?_) (a' := ?_) #[true, true, true, true, true, true, true, true, true, true, true, true, true, true, true, true, true, true, true, false, false, false, false] rfl rfl (any_of HT_.out (by kernel_rfl)) (fun _ _ _ h => h) (Or.inl ⟨by rfl, ?_⟩) ?_ ?_
            rotate_left
            ·
             intro w'
             go_simp
             with_reducible rfl
            rotate_left
            ·
             simp only [Act.put, List.setIfInBounds_toArray, List.set_cons_zero, List.set_cons_succ, i64_w, i32_w]
             rfl
            refine pure_ (i := 19) (N := some 44) (v := ?_) (a' := ?_) #[true, true, true, true, true, true, true, true, true, true, true, true, true, true, true, true, true, true, true, true, false, false, false] rfl rfl (any_of HT_.out (by kernel_rfl)) (fun _ _ _ h => h) (Or.inl ⟨by rfl, ?_⟩) ?_ ?_
            rotate_left
            ·
             intro w'
             go_simp
             with_reducible rfl
            rotate_left
            ·
             simp only [Act.put, List.setIfInBounds_toArray, List.set_cons_zero, List.set_cons_succ, i64_w, i32_w]
             rfl
            refine one_ (i := 20) (N := some 6) #[true, true, true, true, true, true, true, true, true, true, true, true, true, true, true, true, true, true, true, true, true, false, false] rfl rfl (one_of HT_.out (by kernel_rfl)) (by decide) (fun K hK => ?_)
            refine box_step ?hg (N := 6) ?hd (cs := #[.int .u64 0, .int .u32 0, .slice none 0 0]) (t := 26) ?hr ?_; (case hd => rfl); (case hg => rfl); (case hr => first | (go_simp; done) | (go_simp; rfl))
            intro gb419 hg w18 hbox hb
            have n0_ := zm (Kd.R_below (by (with_reducible repeat (first | apply zo | apply zp | apply zq)); exact HO_4.out) hb)
            have n1_ := zm (Kd.R_below (by (with_reducible repeat (first | apply zo | apply zp | apply zq)); exact HO_410002.out) hb)
            have n2_ := zm (Kd.R_below (by (with_reducible repeat (first | apply zo | apply zp | apply zq)); exact HO417.out) hb)
            have n3_ := zm (zF (g := gb409) (o := .cells #[.int .u64 x410000_1, .int .u32 x410001_1, .slice Ao15 x410002_1.length co15] 26 (0, 0)) (by (with_reducible repeat (first | refine zh ?_ _ | refine zj ?_ | refine zi ?_ _)); exact BK409.out) hb)
            have n4_ := zm (zJ (by repeat (first | (with_reducible first | exact HB.out | apply ze | apply zd | apply zf | refine zk ?_ GE409.out) | exact HB.out)) hb)
            have n5_ := zm (hbox)
            have n6_ := zm ((by rw [hg]; exact (zE (by repeat (first | (with_reducible first | exact HB.out | apply ze | apply zd | apply zf | refine zk ?_ GE409.out) | exact HB.out))) : w.heap.size ≤ gb419))
            have n7_ := zm ((by rw [hg]; exact (zE (by repeat (first | (with_reducible first | exact HB.out | apply ze | apply zd | apply zf | refine zk ?_ GE409.out) | exact HB.out))) : w.heap.size ≤ gb419))
            have n8_ := zm ((by rw [hg]; exact zn (zD (g := gb409) (o := .cells #[.int .u64 x410000_1, .int .u32 x410001_1, .slice Ao15 x410002_1.length co15] 26 (0, 0)) (by (with_reducible repeat (first | refine zh ?_ _ | refine zj ?_ | refine zi ?_ _)); exact BK409.out)) : gb409 ≠ gb419))
            have n9_ := zm ((by rw [hg]; exact zg (zD (g := gb409) (o := .cells #[.int .u64 x410000_1, .int .u32 x410001_1, .slice Ao15 x410002_1.length co15] 26 (0, 0)) (by (with_reducible repeat (first | refine zh ?_ _ | refine zj ?_ | refine zi ?_ _)); exact BK409.out)) : gb419 ≠ gb409))
            clear HO_4
            clear HO_410002
            clear HO417
            clear BK409
            clear HB
            have HO_4 := n0_
            have HO_410002 := n1_
            have HO417 := n2_
            have BK409 := n3_
            have HB := n4_
            have BK419 := n5_
            have GW419 := n6_
            have GE419 := n7_
            have NB409_419 := n8_
            have NB419_409 := n9_
            clear n0_ n1_ n2_ n3_ n4_ n5_ n6_ n7_ n8_ n9_
            clear hb hbox hg
            refine hK.out _ _ ⟨(zs BK409.out 0).trans rfl, (zs BK409.out 1).trans rfl, (zs BK409.out 2).trans rfl, ((HB.out.cell (zb w _ hw410_0)).trans hw410_0), ((HB.out.cell (zb w _ hw410_1)).trans hw410_1), ((HB.out.cell (zb w _ hw410_2)).trans hw410_2), ((HB.out.cell (zb w _ hw411_0)).trans hw411_0), ((HB.out.cell (zb w _ hw411_1)).trans hw411_1), ((HB.out.cell (zb w _ hw411_2)).trans hw411_2), ((HB.out.cell (zb w _ hw412_0)).trans hw412_0), ((HB.out.cell (zb w _ hw412_1)).trans hw412_1), ((HB.out.cell (zb w _ hw412_2)).trans hw412_2)⟩ (fun hHeld => ?_)
            clear hK K
            refine norm_ (a' := ?_) ?_ ?_
            rotate_left
            ·
             show Act.put _ (some 6) _ = _
             simp only [Act.put, List.setIfInBounds_toArray, List.set_cons_zero, List.set_cons_succ, i64_w, i32_w]
             rfl
            exact norm_ (by simp only [putAll, Act.put, List.setIfInBounds_toArray, List.set_cons_zero, List.set_cons_succ]) (hCont (v416, gb419) _ ⟨hHeld, (by (with_reducible repeat (first | apply zo | apply zp | apply zq)); exact zG HO417.out (fun _ hk => hk.2)), (by (with_reducible repeat (first | apply zo | apply zp | apply zq)); exact HO_4.out), (by (with_reducible repeat (first | apply zo | apply zp | apply zq)); exact zG HO_410002.out (fun _ hk => hk.2)), (by (with_reducible repeat (first | refine zh ?_ _ | refine zj ?_ | refine zi ?_ _)); exact BK409.out), (by (with_reducible repeat (first | refine zh ?_ _ | refine zj ?_ | refine zi ?_ _)); exact BK419.out), GW419.out, GE419.out, NB409_419.out, NB419_409.out, (by repeat (first | (with_reducible first | exact HB.out | apply ze | apply zd | apply zf | refine zk ?_ GE409.out | refine zk ?_ GE419.out) | exact HB.out))⟩)
           ·
            skip
            refine box_step ?hg (N := 6) ?hd (cs := #[.int .u64 0, .int .u32 0, .slice none 0 0]) (t := 26) ?hr ?_; (case hd => rfl); (case hg => rfl); (case hr => first | (go_simp; done) | (go_simp; rfl))
            intro gb419 hg w17 hbox hb
            have n0_ := zm (Kd.R_below (by (with_reducible repeat (first | apply zo | apply zp | apply zq)); exact HO_4.out) hb)
            have n1_ := zm (Kd.R_below (by (with_reducible repeat (first | apply zo | apply zp | apply zq)); exact HO_410002.out) hb)
            have n2_ := zm (zF (g := gb409) (o := .cells #[.int .u64 x410000_1, .int .u32 x410001_1, .slice Ao15 x410002_1.length co15] 26 (0, 0)) (by (with_reducible repeat (first | refine zh ?_ _ | refine zj ?_ | refine zi ?_ _)); exact BK409.out) hb)
            have n3_ := zm (zJ (by repeat (first | (with_reducible first | exact HB.out | apply ze | apply zd | apply zf | refine zk ?_ GE409.out) | exact HB.out)) hb)
            have n4_ := zm (hbox)
            have n5_ := zm ((by rw [hg]; exact (zE (by repeat (first | (with_reducible first | exact HB.out | apply ze | apply zd | apply zf | refine zk ?_ GE409.out) | exact HB.out))) : w.heap.size ≤ gb419))
            have n6_ := zm ((by rw [hg]; exact (zE (by repeat (first | (with_reducible first | exact HB.out | apply ze | apply zd | apply zf | refine zk ?_ GE409.out) | exact HB.out))) : w.heap.size ≤ gb419))
            have n7_ := zm ((by rw [hg]; exact zn (zD (g := gb409) (o := .cells #[.int .u64 x410000_1, .int .u32 x410001_1, .slice Ao15 x410002_1.length co15] 26 (0, 0)) (by (with_reducible repeat (first | refine zh ?_ _ | refine zj ?_ | refine zi ?_ _)); exact BK409.out)) : gb409 ≠ gb419))
            have n8_ := zm ((by rw [hg]; exact zg (zD (g := gb409) (o := .cells #[.int .u64 x410000_1, .int .u32 x410001_1, .slice Ao15 x410002_1.length co15] 26 (0, 0)) (by (with_reducible repeat (first | refine zh ?_ _ | refine zj ?_ | refine zi ?_ _)); exact BK409.out)) : gb419 ≠ gb409))
            clear HO_4
            clear HO_410002
            clear BK409
            clear HB
            have HO_4 := n0_
            have HO_410002 := n1_
            have BK409 := n2_
            have HB := n3_
            have BK419 := n4_
            have GW419 := n5_
            have GE419 := n6_
            have NB409_419 := n7_
            have NB419_409 := n8_
            clear n0_ n1_ n2_ n3_ n4_ n5_ n6_ n7_ n8_
            clear hb hbox hg
            refine hK.out _ _ ⟨(zs BK409.out 0).trans rfl, (zs BK409.out 1).trans rfl, (zs BK409.out 2).trans rfl, ((HB.out.cell (zb w _ hw410_0)).trans hw410_0), ((HB.out.cell (zb w _ hw410_1)).trans hw410_1), ((HB.out.cell (zb w _ hw410_2)).trans hw410_2), ((HB.out.cell (zb w _ hw411_0)).trans hw411_0), ((HB.out.cell (zb w _ hw411_1)).trans hw411_1), ((HB.out.cell (zb w _ hw411_2)).trans hw411_2), ((HB.out.cell (zb w _ hw412_0)).trans hw412_0), ((HB.out.cell (zb w _ hw412_1)).trans hw412_1), ((HB.out.cell (zb w _ hw412_2)).trans hw412_2)⟩ (fun hHeld => ?_)
            clear hK K
            refine norm_ (a' := ?_) ?_ ?_
            rotate_left
            ·
             show Act.put _ (some 6) _ = _
             simp only [Act.put, List.setIfInBounds_toArray, List.set_cons_zero, List.set_cons_succ, i64_w, i32_w]
             rfl
            refine one_ (i := 16) (N := some 42) #[true, true, true, true, true, true, true, true, true, true, true, true, true, true, true, true, true, false, false, false, true, false, false] rfl rfl (one_of HT_.out (by kernel_rfl)) (by decide) (fun K hK => ?_)
            refine goes_ Try.func18 (by kernel_rfl) rfl #[.agg #[.int .u64 x410000_1, .int .u32 x410001_1, .slice Ao15 x410002_1.length co15], .int .i64 ((rd_T53 l0 x5_1).f0), .int .i64 ((rd_T53 l0 x5_1).f1), .int .i64 ((rd_T53 l0 x5_1).f2)] (by rfl) rfl rfl (by (try simp only [List.map_toArray, List.map_cons, List.map_nil]); first | done | rfl | (simp only [List.length_drop, List.length_take]; rfl)) ?_
            with_reducible refine (coder_Put.calls kj6 x410000_1 x410001_1 _ _ x410002_1 ((rd_T53 l0 x5_1).f0) ((rd_T53 l0 x5_1).f1) ((rd_T53 l0 x5_1).f2) t413 t414 t415 t418 _ ?side1 ?side2 A12.out).mono ?_
            (case side1 => repeat (first | exact (Kd.R_reads' HO_410002.out).2.2 | (with_reducible refine Kd.C_alloc ?_ _) | (with_reducible refine Kd.C_drewN ?_ _) | (with_reducible refine Kd.C_drew ?_)))
            (case side2 => exact (Kd.R_reads' HO_410002.out).2.1)
            rintro e w18 ⟨v416, rfl, ho0, hb⟩
            refine ⟨_, rfl, ?_⟩
            have n0_ := zm (Kd.R_below (by (with_reducible repeat (first | apply zo | apply zp | apply zq)); exact HO_4.out) hb)
            have n1_ := zm (Kd.R_elder' (by (with_reducible repeat (first | apply zo | apply zp | apply zq)); exact HO_410002.out) (Kd.R_base ho0) hb)
            have n2_ := zm (Kd.R_lower (Kd.R_new' ho0 (Kd.R_lt (by (with_reducible repeat (first | apply zo | apply zp | apply zq)); exact HO_410002.out))) (zE (by repeat (first | (with_reducible first | exact HB.out | apply ze | apply zd | apply zf | refine zk ?_ GE409.out | refine zk ?_ GE419.out) | exact HB.out))))
            have n3_ := zm (zF (g := gb409) (o := .cells #[.int .u64 x410000_1, .int .u32 x410001_1, .slice Ao15 x410002_1.length co15] 26 (0, 0)) (by (with_reducible repeat (first | refine zh ?_ _ | refine zj ?_ | refine zi ?_ _)); exact BK409.out) hb)
            have n4_ := zm (zF (g := gb419) (o := .cells #[.int .u64 0, .int .u32 0, .slice none 0 0] 26 (0, 0)) (by (with_reducible repeat (first | refine zh ?_ _ | refine zj ?_ | refine zi ?_ _)); exact BK419.out) hb)
            have n5_ := zm (zJ (by repeat (first | (with_reducible first | exact HB.out | apply ze | apply zd | apply zf | refine zk ?_ GE409.out | refine zk ?_ GE419.out) | exact HB.out)) hb)
            clear HO_4
            clear HO_410002
            clear BK409
            clear BK419
            clear HB
            have HO_4 := n0_
            have HO_410002 := n1_
            have HO417 := n2_
            have BK409 := n3_
            have BK419 := n4_
            have HB := n5_
            clear n0_ n1_ n2_ n3_ n4_ n5_
            (try clear hb)
            (try clear hb2)
            (try clear hk)
            (try clear hi)
            (try clear ho0)
            refine hK.out _ _ ⟨(zs BK409.out 0).trans rfl, (zs BK409.out 1).trans rfl, (zs BK409.out 2).trans rfl, ((HB.out.cell (zb w _ hw410_0)).trans hw410_0), ((HB.out.cell (zb w _ hw410_1)).trans hw410_1), ((HB.out.cell (zb w _ hw410_2)).trans hw410_2), ((HB.out.cell (zb w _ hw411_0)).trans hw411_0), ((HB.out.cell (zb w _ hw411_1)).trans hw411_1), ((HB.out.cell (zb w _ hw411_2)).trans hw411_2), ((HB.out.cell (zb w _ hw412_0)).trans hw412_0), ((HB.out.cell (zb w _ hw412_1)).trans hw412_1), ((HB.out.cell (zb w _ hw412_2)).trans hw412_2)⟩ (fun hHeld => ?_)
            clear hK K
            refine norm_ (a' := ?_) ?_ ?_
            rotate_left
            ·
             show Act.put _ (some 42) _ = _
             simp only [Act.put, List.setIfInBounds_toArray, List.set_cons_zero, List.set_cons_succ, i64_w, i32_w]
             rfl
            refine pure_ (i := 17) (N := some 25) (v := ?_) (a' := ?_) #[true, true, true, true, true, true, true, true, true, true, true, true, true, true, true, true, true, true, false, false, true, false, false] rfl rfl (any_of HT_.out (by kernel_rfl)) (fun _ _ _ h => h) (Or.inl ⟨by rfl, ?_⟩) ?_ ?_
            rotate_left
            ·
             intro w'
             go_simp
             with_reducible rfl
            rotate_left
            ·
             simp only [Act.put, List.setIfInBounds_toArray, List.set_cons_zero, List.set_cons_succ, i64_w, i32_w]
             rfl
            refine pure_ (i := 18) (N := some 43) (v := ?_) (a' := ?_) #[true, true, true, true, true, true, true, true, true, true, true, true, true, true, true, true, true, true, true, false, true, false, false] rfl rfl (any_of HT_.out (by kernel_rfl)) (fun _ _ _ h => h) (Or.inl ⟨by rfl, ?_⟩) ?_ ?_
            rotate_left
            ·
             intro w'
             go_simp
             with_reducible rfl
            rotate_left
            ·
             simp only [Act.put, List.setIfInBounds_toArray, List.set_cons_zero, List.set_cons_succ, i64_w, i32_w]
             rfl
            refine pure_ (i := 19) (N := some 44) (v := ?_) (a' := ?_) #[true, true, true, true, true, true, true, true, true, true, true, true, true, true, true, true, true, true, true, true, true, false, false] rfl rfl (any_of HT_.out (by kernel_rfl)) (fun _ _ _ h => h) (Or.inl ⟨by rfl, ?_⟩) ?_ ?_
            rotate_left
            ·
             intro w'
             go_simp
             with_reducible rfl
            rotate_left
            ·
             simp only [Act.put, List.setIfInBounds_toArray, List.set_cons_zero, List.set_cons_succ, i64_w, i32_w]
             rfl
            exact norm_ (by simp only [putAll, Act.put, List.setIfInBounds_toArray, List.set_cons_zero, List.set_cons_succ]) (hCont (v416, gb419) _ ⟨hHeld, (by (with_reducible repeat (first | apply zo | apply zp | apply zq)); exact zG HO417.out (fun _ hk => hk.2)), (by (with_reducible repeat (first | apply zo | apply zp | apply zq)); exact HO_4.out), (by (with_reducible repeat (first | apply zo | apply zp | apply zq)); exact zG HO_410002.out (fun _ hk => hk.2)), (by (with_reducible repeat (first | refine zh ?_ _ | refine zj ?_ | refine zi ?_ _)); exact BK409.out), (by (with_reducible repeat (first | refine zh ?_ _ | refine zj ?_ | refine zi ?_ _)); exact BK419.out), GW419.out, GE419.out, NB409_419.out, NB419_409.out, (by repeat (first | (with_reducible first | exact HB.out | apply ze | apply zd | apply zf | refine zk ?_ GE409.out | refine zk ?_ GE419.out) | exact HB.out))⟩)
          rintro ⟨v416, gb419⟩ w19 ⟨hS_, h0_, h1_, h2_, h3_, h4_, h5_, h6_, h7_, h8_, h9_⟩
          have n0_ : Aside0 (Kd.R (Kd.int .u8) 5 w19 w.heap.size (fun k_ => some k_ ≠ (.slice Ao15 x410002_1.length co15 : Value).ownBlock) v416 t415) := ⟨h0_⟩
          have n1_ : Aside0 (Kd.R k53 53 w19 w.heap.size (fun _ => True) u4 x4_1) := ⟨h1_⟩
          have n2_ : Aside0 (Kd.R (Kd.int .u8) 5 w19 w.heap.size (fun k_ => some k_ ≠ (v416 : Value).ownBlock) (.slice Ao15 x410002_1.length co15) x410002_1) := ⟨h2_⟩
          have n3_ : Aside0 (w19.heap[gb409]? = some (.cells #[.int .u64 x410000_1, .int .u32 x410001_1, .slice Ao15 x410002_1.length co15] 26 (0, 0))) := ⟨h3_⟩
          have n4_ : Aside0 (w19.heap[gb419]? = some (.cells #[.int .u64 0, .int .u32 0, .slice none 0 0] 26 (0, 0))) := ⟨h4_⟩
          have n5_ : Aside0 (w.heap.size ≤ gb419) := ⟨h5_⟩
          have n6_ : Aside0 (w.heap.size ≤ gb419) := ⟨h6_⟩
          have n7_ : Aside0 (gb409 ≠ gb419) := ⟨h7_⟩
          have n8_ : Aside0 (gb419 ≠ gb409) := ⟨h8_⟩
          have n9_ : Aside0 (Below w.heap.size w w19) := ⟨h9_⟩
          clear HO_4
          clear HO_410002
          clear BK409
          clear HB
          clear h0_ h1_ h2_ h3_ h4_ h5_ h6_ h7_ h8_ h9_
          have HO417 := n0_
          have HO_4 := n1_
          have HO_410002 := n2_
          have BK409 := n3_
          have BK419 := n4_
          have GW419 := n5_
          have GE419 := n6_
          have NB409_419 := n7_
          have NB419_409 := n8_
          have HB := n9_
          clear n0_ n1_ n2_ n3_ n4_ n5_ n6_ n7_ n8_ n9_
          have hHeld : w19.cell? ⟨gb409, 0, none⟩ = some (.int .u64 x410000_1) ∧ w19.cell? ⟨gb409, 1, none⟩ = some (.int .u32 x410001_1) ∧ w19.cell? ⟨gb409, 2, none⟩ = some (.slice Ao15 x410002_1.length co15) ∧ w19.cell? (ad410.add ((x5_1).toNat * 3)) = some (.int .i64 ((rd_T53 l0 x5_1).f0)) ∧ w19.cell? ⟨(ad410.add ((x5_1).toNat * 3)).block, (ad410.add ((x5_1).toNat * 3)).off + 1, none⟩ = some (.int .i64 ((rd_T53 l0 x5_1).f1)) ∧ w19.cell? ⟨(ad410.add ((x5_1).toNat * 3)).block, (ad410.add ((x5_1).toNat * 3)).off + 2, none⟩ = some (.int .i64 ((rd_T53 l0 x5_1).f2)) ∧ w19.cell? (ad410.add ((x5_1).toNat * 3)) = some (.int .i64 ((rd_T53 l0 x5_1).f0)) ∧ w19.cell? ⟨(ad410.add ((x5_1).toNat * 3)).block, (ad410.add ((x5_1).toNat * 3)).off + 1, none⟩ = some (.int .i64 ((rd_T53 l0 x5_1).f1)) ∧ w19.cell? ⟨(ad410.add ((x5_1).toNat * 3)).block, (ad410.add ((x5_1).toNat * 3)).off + 2, none⟩ = some (.int .i64 ((rd_T53 l0 x5_1).f2)) ∧ w19.cell? (ad410.add ((x5_1).toNat * 3)) = some (.int .i64 ((rd_T53 l0 x5_1).f0)) ∧ w19.cell? ⟨(ad410.add ((x5_1).toNat * 3)).block, (ad410.add ((x5_1).toNat * 3)).off + 1, none⟩ = some (.int .i64 ((rd_T53 l0 x5_1).f1)) ∧ w19.cell? ⟨(ad410.add ((x5_1).toNat * 3)).block, (ad410.add ((x5_1).toNat * 3)).off + 2, none⟩ = some (.int .i64 ((rd_T53 l0 x5_1).f2)) := hS_
          obtain ⟨Ao22, co22, eo22⟩ := Kd.R_slice HO417.out
          (first | subst eo22 | (injection eo22 with f1_ f2_ f3_; have f4_ := f1_.symm; have f5_ := f3_.symm; clear f1_ f2_ f3_; subst f4_; subst f5_))
          refine norm_ (a' := ?_) ?_ ?_
          rotate_left
          ·
           simp only [putAll, Act.put, List.setIfInBounds_toArray, List.set_cons_zero, List.set_cons_succ]
           rfl
          refine one_ (i := 21) (N := none) #[true, true, true, true, true, true, true, true, true, true, true, true, true, true, true, true, true, true, true, true, true, true, false] rfl rfl (one_of HT_.out (by kernel_rfl)) (by decide) (fun K hK => ?_)
          have hs20 : w19.cell? ⟨gb419, 0, none⟩ = some (.int .u64 0) := (zs BK419.out 0).trans rfl
          have hfs20 := zx BK419.out 0
          have hns20_0 := NB409_419.out
          have hms20_0 := NB419_409.out
          have hs21 : w19.cell? ⟨gb419, 1, none⟩ = some (.int .u32 0) := (zs BK419.out 1).trans rfl
          have hfs21 := zx BK419.out 1
          have hns21_0 := NB409_419.out
          have hms21_0 := NB419_409.out
          have hs23 : w19.cell? ⟨gb419, 2, none⟩ = some (.slice none 0 0) := (zs BK419.out 2).trans rfl
          have hfs23 := zx BK419.out 2
          have hns23_0 := NB409_419.out
          have hms23_0 := NB419_409.out
          refine skip_ (w1 := ?_) (by rfl) rfl ?_ ?_
          rotate_left
          ·
           go_simp
           rfl
          refine hK.out _ _ ⟨((zr (p := ⟨gb419, _, none⟩) NB409_419.out _).trans (((zr (p := ⟨gb419, _, none⟩) NB409_419.out _).trans (((zr (p := ⟨gb419, _, none⟩) NB409_419.out _).trans (hHeld.1)))))), ((zr (p := ⟨gb419, _, none⟩) NB409_419.out _).trans (((zr (p := ⟨gb419, _, none⟩) NB409_419.out _).trans (((zr (p := ⟨gb419, _, none⟩) NB409_419.out _).trans (hHeld.2.1)))))), ((zr (p := ⟨gb419, _, none⟩) NB409_419.out _).trans (((zr (p := ⟨gb419, _, none⟩) NB409_419.out _).trans (((zr (p := ⟨gb419, _, none⟩) NB409_419.out _).trans (hHeld.2.2.1)))))), ((zr (p := ⟨gb419, _, none⟩) (by first | exact zn (zl (by have := zb _ _ hw410_0; first | rwa [za] at this | exact this) GW419.out) | (rw [za]; exact zn (zl (by have := zb _ _ hw410_0; first | rwa [za] at this | exact this) GW419.out)) | (show (Addr.add _ _).block ≠ _; rw [za]; exact zn (zl (by have := zb _ _ hw410_0; first | rwa [za] at this | exact this) GW419.out)) | (dsimp only; exact zn (zl (by have := zb _ _ hw410_0; first | rwa [za] at this | exact this) GW419.out))) _).trans (((zr (p := ⟨gb419, _, none⟩) (by first | exact zn (zl (by have := zb _ _ hw410_0; first | rwa [za] at this | exact this) GW419.out) | (rw [za]; exact zn (zl (by have := zb _ _ hw410_0; first | rwa [za] at this | exact this) GW419.out)) | (show (Addr.add _ _).block ≠ _; rw [za]; exact zn (zl (by have := zb _ _ hw410_0; first | rwa [za] at this | exact this) GW419.out)) | (dsimp only; exact zn (zl (by have := zb _ _ hw410_0; first | rwa [za] at this | exact this) GW419.out))) _).trans (((zr (p := ⟨gb419, _, none⟩) (by first | exact zn (zl (by have := zb _ _ hw410_0; first | rwa [za] at this | exact this) GW419.out) | (rw [za]; exact zn (zl (by have := zb _ _ hw410_0; first | rwa [za] at this | exact this) GW419.out)) | (show (Addr.add _ _).block ≠ _; rw [za]; exact zn (zl (by have := zb _ _ hw410_0; first | rwa [za] at this | exact this) GW419.out)) | (dsimp only; exact zn (zl (by have := zb _ _ hw410_0; first | rwa [za] at this | exact this) GW419.out))) _).trans (hHeld.2.2.2.1)))))), ((zr (p := ⟨gb419, _, none⟩) (by first | exact zn (zl (by have := zb _ _ hw410_1; first | rwa [za] at this | exact this) GW419.out) | (rw [za]; exact zn (zl (by have := zb _ _ hw410_1; first | rwa [za] at this | exact this) GW419.out)) | (show (Addr.add _ _).block ≠ _; rw [za]; exact zn (zl (by have := zb _ _ hw410_1; first | rwa [za] at this | exact this) GW419.out)) | (dsimp only; exact zn (zl (by have := zb _ _ hw410_1; first | rwa [za] at this | exact this) GW419.out))) _).trans (((zr (p := ⟨gb419, _, none⟩) (by first | exact zn (zl (by have := zb _ _ hw410_1; first | rwa [za] at this | exact this) GW419.out) | (rw [za]; exact zn (zl (by have := zb _ _ hw410_1; first | rwa [za] at this | exact this) GW419.out)) | (show (Addr.add _ _).block ≠ _; rw [za]; exact zn (zl (by have := zb _ _ hw410_1; first | rwa [za] at this | exact this) GW419.out)) | (dsimp only; exact zn (zl (by have := zb _ _ hw410_1; first | rwa [za] at this | exact this) GW419.out))) _).trans (((zr (p := ⟨gb419, _, none⟩) (by first | exact zn (zl (by have := zb _ _ hw410_1; first | rwa [za] at this | exact this) GW419.out) | (rw [za]; exact zn (zl (by have := zb _ _ hw410_1; first | rwa [za] at this | exact this) GW419.out)) | (show (Addr.add _ _).block ≠ _; rw [za]; exact zn (zl (by have := zb _ _ hw410_1; first | rwa [za] at this | exact this) GW419.out)) | (dsimp only; exact zn (zl (by have := zb _ _ hw410_1; first | rwa [za] at this | exact this) GW419.out))) _).trans (hHeld.2.2.2.2.1)))))), ((zr (p := ⟨gb419, _, none⟩) (by first | exact zn (zl (by have := zb _ _ hw410_2; first | rwa [za] at this | exact this) GW419.out) | (rw [za]; exact zn (zl (by have := zb _ _ hw410_2; first | rwa [za] at this | exact this) GW419.out)) | (show (Addr.add _ _).block ≠ _; rw [za]; exact zn (zl (by have := zb _ _ hw410_2; first | rwa [za] at this | exact this) GW419.out)) | (dsimp only; exact zn (zl (by have := zb _ _ hw410_2; first | rwa [za] at this | exact this) GW419.out))) _).trans (((zr (p := ⟨gb419, _, none⟩) (by first | exact zn (zl (by have := zb _ _ hw410_2; first | rwa [za] at this | exact this) GW419.out) | (rw [za]; exact zn (zl (by have := zb _ _ hw410_2; first | rwa [za] at this | exact this) GW419.out)) | (show (Addr.add _ _).block ≠ _; rw [za]; exact zn (zl (by have := zb _ _ hw410_2; first | rwa [za] at this | exact this) GW419.out)) | (dsimp only; exact zn (zl (by have := zb _ _ hw410_2; first | rwa [za] at this | exact this) GW419.out))) _).trans (((zr (p := ⟨gb419, _, none⟩) (by first | exact zn (zl (by have := zb _ _ hw410_2; first | rwa [za] at this | exact this) GW419.out) | (rw [za]; exact zn (zl (by have := zb _ _ hw410_2; first | rwa [za] at this | exact this) GW419.out)) | (show (Addr.add _ _).block ≠ _; rw [za]; exact zn (zl (by have := zb _ _ hw410_2; first | rwa [za] at this | exact this) GW419.out)) | (dsimp only; exact zn (zl (by have := zb _ _ hw410_2; first | rwa [za] at this | exact this) GW419.out))) _).trans (hHeld.2.2.2.2.2.1)))))), ((zr (p := ⟨gb419, _, none⟩) (by first | exact zn (zl (by have := zb _ _ hw411_0; first | rwa [za] at this | exact this) GW419.out) | (rw [za]; exact zn (zl (by have := zb _ _ hw411_0; first | rwa [za] at this | exact this) GW419.out)) | (show (Addr.add _ _).block ≠ _; rw [za]; exact zn (zl (by have := zb _ _ hw411_0; first | rwa [za] at this | exact this) GW419.out)) | (dsimp only; exact zn (zl (by have := zb _ _ hw411_0; first | rwa [za] at this | exact this) GW419.out))) _).trans (((zr (p := ⟨gb419, _, none⟩) (by first | exact zn (zl (by have := zb _ _ hw411_0; first | rwa [za] at this | exact this) GW419.out) | (rw [za]; exact zn (zl (by have := zb _ _ hw411_0; first | rwa [za] at this | exact this) GW419.out)) | (show (Addr.add _ _).block ≠ _; rw [za]; exact zn (zl (by have := zb _ _ hw411_0; first | rwa [za] at this | exact this) GW419.out)) | (dsimp only; exact zn (zl (by have := zb _ _ hw411_0; first | rwa [za] at this | exact this) GW419.out))) _).trans (((zr (p := ⟨gb419, _, none⟩) (by first | exact zn (zl (by have := zb _ _ hw411_0; first | rwa [za] at this | exact this) GW419.out) | (rw [za]; exact zn (zl (by have := zb _ _ hw411_0; first | rwa [za] at this | exact this) GW419.out)) | (show (Addr.add _ _).block ≠ _; rw [za]; exact zn (zl (by have := zb _ _ hw411_0; first | rwa [za] at this | exact this) GW419.out)) | (dsimp only; exact zn (zl (by have := zb _ _ hw411_0; first | rwa [za] at this | exact this) GW419.out))) _).trans (hHeld.2.2.2.2.2.2.1)))))), ((zr (p := ⟨gb419, _, none⟩) (by first | exact zn (zl (by have := zb _ _ hw411_1; first | rwa [za] at this | exact this) GW419.out) | (rw [za]; exact zn (zl (by have := zb _ _ hw411_1; first | rwa [za] at this | exact this) GW419.out)) | (show (Addr.add _ _).block ≠ _; rw [za]; exact zn (zl (by have := zb _ _ hw411_1; first | rwa [za] at this | exact this) GW419.out)) | (dsimp only; exact zn (zl (by have := zb _ _ hw411_1; first | rwa [za] at this | exact this) GW419.out))) _).trans (((zr (p := ⟨gb419, _, none⟩) (by first | exact zn (zl (by have := zb _ _ hw411_1; first | rwa [za] at this | exact this) GW419.out) | (rw [za]; exact zn (zl (by have := zb _ _ hw411_1; first | rwa [za] at this | exact this) GW419.out)) | (show (Addr.add _ _).block ≠ _; rw [za]; exact zn (zl (by have := zb _ _ hw411_1; first | rwa [za] at this | exact this) GW419.out)) | (dsimp only; exact zn (zl (by have := zb _ _ hw411_1; first | rwa [za] at this | exact this) GW419.out))) _).trans (((zr (p := ⟨gb419, _, none⟩) (by first | exact zn (zl (by have := zb _ _ hw411_1; first | rwa [za] at this | exact this) GW419.out) | (rw [za]; exact zn (zl (by have := zb _ _ hw411_1; first | rwa [za] at this | exact this) GW419.out)) | (show (Addr.add _ _).block ≠ _; rw [za]; exact zn (zl (by have := zb _ _ hw411_1; first | rwa [za] at this | exact this) GW419.out)) | (dsimp only; exact zn (zl (by have := zb _ _ hw411_1; first | rwa [za] at this | exact this) GW419.out))) _).trans (hHeld.2.2.2.2.2.2.2.1)))))), ((zr (p := ⟨gb419, _, none⟩) (by first | exact zn (zl (by have := zb _ _ hw411_2; first | rwa [za] at this | exact this) GW419.out) | (rw [za]; exact zn (zl (by have := zb _ _ hw411_2; first | rwa [za] at this | exact this) GW419.out)) | (show (Addr.add _ _).block ≠ _; rw [za]; exact zn (zl (by have := zb _ _ hw411_2; first | rwa [za] at this | exact this) GW419.out)) | (dsimp only; exact zn (zl (by have := zb _ _ hw411_2; first | rwa [za] at this | exact this) GW419.out))) _).trans (((zr (p := ⟨gb419, _, none⟩) (by first | exact zn (zl (by have := zb _ _ hw411_2; first | rwa [za] at this | exact this) GW419.out) | (rw [za]; exact zn (zl (by have := zb _ _ hw411_2; first | rwa [za] at this | exact this) GW419.out)) | (show (Addr.add _ _).block ≠ _; rw [za]; exact zn (zl (by have := zb _ _ hw411_2; first | rwa [za] at this | exact this) GW419.out)) | (dsimp only; exact zn (zl (by have := zb _ _ hw411_2; first | rwa [za] at this | exact this) GW419.out))) _).trans (((zr (p := ⟨gb419, _, none⟩) (by first | exact zn (zl (by have := zb _ _ hw411_2; first | rwa [za] at this | exact this) GW419.out) | (rw [za]; exact zn (zl (by have := zb _ _ hw411_2; first | rwa [za] at this | exact this) GW419.out)) | (show (Addr.add _ _).block ≠ _; rw [za]; exact zn (zl (by have := zb _ _ hw411_2; first | rwa [za] at this | exact this) GW419.out)) | (dsimp only; exact zn (zl (by have := zb _ _ hw411_2; first | rwa [za] at this | exact this) GW419.out))) _).trans (hHeld.2.2.2.2.2.2.2.2.1)))))), ((zr (p := ⟨gb419, _, none⟩) (by first | exact zn (zl (by have := zb _ _ hw412_0; first | rwa [za] at this | exact this) GW419.out) | (rw [za]; exact zn (zl (by have := zb _ _ hw412_0; first | rwa [za] at this | exact this) GW419.out)) | (show (Addr.add _ _).block ≠ _; rw [za]; exact zn (zl (by have := zb _ _ hw412_0; first | rwa [za] at this | exact this) GW419.out)) | (dsimp only; exact zn (zl (by have := zb _ _ hw412_0; first | rwa [za] at this | exact this) GW419.out))) _).trans (((zr (p := ⟨gb419, _, none⟩) (by first | exact zn (zl (by have := zb _ _ hw412_0; first | rwa [za] at this | exact this) GW419.out) | (rw [za]; exact zn (zl (by have := zb _ _ hw412_0; first | rwa [za] at this | exact this) GW419.out)) | (show (Addr.add _ _).block ≠ _; rw [za]; exact zn (zl (by have := zb _ _ hw412_0; first | rwa [za] at this | exact this) GW419.out)) | (dsimp only; exact zn (zl (by have := zb _ _ hw412_0; first | rwa [za] at this | exact this) GW419.out))) _).trans (((zr (p := ⟨gb419, _, none⟩) (by first | exact zn (zl (by have := zb _ _ hw412_0; first | rwa [za] at this | exact this) GW419.out) | (rw [za]; exact zn (zl (by have := zb _ _ hw412_0; first | rwa [za] at this | exact this) GW419.out)) | (show (Addr.add _ _).block ≠ _; rw [za]; exact zn (zl (by have := zb _ _ hw412_0; first | rwa [za] at this | exact this) GW419.out)) | (dsimp only; exact zn (zl (by have := zb _ _ hw412_0; first | rwa [za] at this | exact this) GW419.out))) _).trans (hHeld.2.2.2.2.2.2.2.2.2.1)))))), ((zr (p := ⟨gb419, _, none⟩) (by first | exact zn (zl (by have := zb _ _ hw412_1; first | rwa [za] at this | exact this) GW419.out) | (rw [za]; exact zn (zl (by have := zb _ _ hw412_1; first | rwa [za] at this | exact this) GW419.out)) | (show (Addr.add _ _).block ≠ _; rw [za]; exact zn (zl (by have := zb _ _ hw412_1; first | rwa [za] at this | exact this) GW419.out)) | (dsimp only; exact zn (zl (by have := zb _ _ hw412_1; first | rwa [za] at this | exact this) GW419.out))) _).trans (((zr (p := ⟨gb419, _, none⟩) (by first | exact zn (zl (by have := zb _ _ hw412_1; first | rwa [za] at this | exact this) GW419.out) | (rw [za]; exact zn (zl (by have := zb _ _ hw412_1; first | rwa [za] at this | exact this) GW419.out)) | (show (Addr.add _ _).block ≠ _; rw [za]; exact zn (zl (by have := zb _ _ hw412_1; first | rwa [za] at this | exact this) GW419.out)) | (dsimp only; exact zn (zl (by have := zb _ _ hw412_1; first | rwa [za] at this | exact this) GW419.out))) _).trans (((zr (p := ⟨gb419, _, none⟩) (by first | exact zn (zl (by have := zb _ _ hw412_1; first | rwa [za] at this | exact this) GW419.out) | (rw [za]; exact zn (zl (by have := zb _ _ hw412_1; first | rwa [za] at this | exact this) GW419.out)) | (show (Addr.add _ _).block ≠ _; rw [za]; exact zn (zl (by have := zb _ _ hw412_1; first | rwa [za] at this | exact this) GW419.out)) | (dsimp only; exact zn (zl (by have := zb _ _ hw412_1; first | rwa [za] at this | exact this) GW419.out))) _).trans (hHeld.2.2.2.2.2.2.2.2.2.2.1)))))), ((zr (p := ⟨gb419, _, none⟩) (by first | exact zn (zl (by have := zb _ _ hw412_2; first | rwa [za] at this | exact this) GW419.out) | (rw [za]; exact zn (zl (by have := zb _ _ hw412_2; first | rwa [za] at this | exact this) GW419.out)) | (show (Addr.add _ _).block ≠ _; rw [za]; exact zn (zl (by have := zb _ _ hw412_2; first | rwa [za] at this | exact this) GW419.out)) | (dsimp only; exact zn (zl (by have := zb _ _ hw412_2; first | rwa [za] at this | exact this) GW419.out))) _).trans (((zr (p := ⟨gb419, _, none⟩) (by first | exact zn (zl (by have := zb _ _ hw412_2; first | rwa [za] at this | exact this) GW419.out) | (rw [za]; exact zn (zl (by have := zb _ _ hw412_2; first | rwa [za] at this | exact this) GW419.out)) | (show (Addr.add _ _).block ≠ _; rw [za]; exact zn (zl (by have := zb _ _ hw412_2; first | rwa [za] at this | exact this) GW419.out)) | (dsimp only; exact zn (zl (by have := zb _ _ hw412_2; first | rwa [za] at this | exact this) GW419.out))) _).trans (((zr (p := ⟨gb419, _, none⟩) (by first | exact zn (zl (by have := zb _ _ hw412_2; first | rwa [za] at this | exact this) GW419.out) | (rw [za]; exact zn (zl (by have := zb _ _ hw412_2; first | rwa [za] at this | exact this) GW419.out)) | (show (Addr.add _ _).block ≠ _; rw [za]; exact zn (zl (by have := zb _ _ hw412_2; first | rwa [za] at this | exact this) GW419.out)) | (dsimp only; exact zn (zl (by have := zb _ _ hw412_2; first | rwa [za] at this | exact this) GW419.out))) _).trans (hHeld.2.2.2.2.2.2.2.2.2.2.2))))))⟩ (fun hHeld => ?_)
          clear hK K
          refine pure_ (i := 22) (N := some 7) (v := ?_) (a' := ?_) #[true, true, true, true, true, true, true, true, true, true, true, true, true, true, true, true, true, true, true, true, true, true, true] rfl rfl (any_of HT_.out (by kernel_rfl)) (fun _ _ _ h => h) (Or.inl ⟨by rfl, ?_⟩) ?_ ?_
          rotate_left
          ·
           intro w'
           go_simp
           with_reducible rfl
          rotate_left
          ·
           simp only [Act.put, List.setIfInBounds_toArray, List.set_cons_zero, List.set_cons_succ, i64_w, i32_w]
           rfl
          refine done_ (done_of HT_.out (by kernel_rfl)) ?_
          have p420 : 0 ≤ (x5_1 : Int) := of_decide_eq_true (by first | (with_reducible assumption) | assumption)
          have q420 : x5_1 < (l0.length : Int) := of_decide_eq_true (by first | (with_reducible assumption) | assumption)
          obtain ⟨ad420, e420, hx420_0, hx420_1, hx420_2⟩ := at_T53 HR0.out x5_1 p420 q420
          obtain rfl : ad410 = ad420 := (by injection e420)
          have hn420_0 : ad410.block ≠ gb419 := zn (zl (by have := zb _ _ hx420_0; first | rwa [za] at this | exact this) GW419.out)
          have hn420_1 : ad410.block ≠ gb419 := zn (zl (by have := zb _ _ hx420_0; first | rwa [za] at this | exact this) GW419.out)
          have hn420_2 : ad410.block ≠ gb419 := zn (zl (by have := zb _ _ hx420_0; first | rwa [za] at this | exact this) GW419.out)
          replace hx420_0 := (HB.out.cell (zb w _ hx420_0)).trans hx420_0
          replace hx420_1 := (HB.out.cell (zb w _ hx420_1)).trans hx420_1
          replace hx420_2 := (HB.out.cell (zb w _ hx420_2)).trans hx420_2
          replace hx420_0 := (zr (p := ⟨gb419, 0, none⟩) (by first | (rw [za]; exact hn420_0) | (show (Addr.add _ _).block ≠ _; rw [za]; exact hn420_0) | exact hn420_0) (.int .u64 t413)).trans hx420_0
          replace hx420_1 := (zr (p := ⟨gb419, 0, none⟩) (by first | (rw [za]; exact hn420_0) | (show (Addr.add _ _).block ≠ _; rw [za]; exact hn420_0) | exact hn420_0) (.int .u64 t413)).trans hx420_1
          replace hx420_2 := (zr (p := ⟨gb419, 0, none⟩) (by first | (rw [za]; exact hn420_0) | (show (Addr.add _ _).block ≠ _; rw [za]; exact hn420_0) | exact hn420_0) (.int .u64 t413)).trans hx420_2
          replace hx420_0 := (zr (p := ⟨gb419, 1, none⟩) (by first | (rw [za]; exact hn420_1) | (show (Addr.add _ _).block ≠ _; rw [za]; exact hn420_1) | exact hn420_1) (.int .u32 t414)).trans hx420_0
          replace hx420_1 := (zr (p := ⟨gb419, 1, none⟩) (by first | (rw [za]; exact hn420_1) | (show (Addr.add _ _).block ≠ _; rw [za]; exact hn420_1) | exact hn420_1) (.int .u32 t414)).trans hx420_1
          replace hx420_2 := (zr (p := ⟨gb419, 1, none⟩) (by first | (rw [za]; exact hn420_1) | (show (Addr.add _ _).block ≠ _; rw [za]; exact hn420_1) | exact hn420_1) (.int .u32 t414)).trans hx420_2
          replace hx420_0 := (zr (p := ⟨gb419, 2, none⟩) (by first | (rw [za]; exact hn420_2) | (show (Addr.add _ _).block ≠ _; rw [za]; exact hn420_2) | exact hn420_2) (.slice Ao22 t415.length co22)).trans hx420_0
          replace hx420_1 := (zr (p := ⟨gb419, 2, none⟩) (by first | (rw [za]; exact hn420_2) | (show (Addr.add _ _).block ≠ _; rw [za]; exact hn420_2) | exact hn420_2) (.slice Ao22 t415.length co22)).trans hx420_1
          replace hx420_2 := (zr (p := ⟨gb419, 2, none⟩) (by first | (rw [za]; exact hn420_2) | (show (Addr.add _ _).block ≠ _; rw [za]; exact hn420_2) | exact hn420_2) (.slice Ao22 t415.length co22)).trans hx420_2
          clear hn420_0
          clear hn420_1
          clear hn420_2
          replace p420 := eq_true p420
          replace q420 := eq_true q420
          try go_wp2_with (first | ((with_reducible refine gate_builtin (b := .append) (xs := #[.tmp 47, .tmp 52]) rfl ?_); at_builtin; refine Kd.R_append k53 (w0 := w) w.heap.size rfl (.tmp 47) (.tmp 52) 50 53 (.agg #[(.int .i64 0), (.int .i64 0), (.int .i64 0)]) 24 rfl Try.underlying50 info53 rfl (by decide) (by omega) u4 x4_1 (⟨(rd_T53 l0 x5_1).f0, (rd_T53 l0 x5_1).f1, (rd_T53 l0 x5_1).f2⟩ : S53) [.int .i64 ((rd_T53 l0 x5_1).f0), .int .i64 ((rd_T53 l0 x5_1).f1), .int .i64 ((rd_T53 l0 x5_1).f2)] (fun _ => True) (fun _ => False) rfl (by first | (go_simp; done) | (go_simp; rfl)) ?aP (fun _ hk => hk.elim) ?aF ?aO ?aB ?aS ?aL ?_; (case aP => exact k53_mkM _ _ _ (⟨(rd_T53 l0 x5_1).f0, (rd_T53 l0 x5_1).f1, (rd_T53 l0 x5_1).f2⟩ : S53)); (case aB => exact (by repeat (first | (with_reducible first | exact HB.out | apply ze | apply zd | apply zf | refine zk ?_ GE409.out | refine zk ?_ GE419.out) | exact HB.out))); (case aF => exact (fun _ _ => trivial)); (case aO => exact (by (with_reducible repeat (first | apply zo | apply zp | apply zq)); exact zG (zH (p := ⟨gb419, 2, none⟩) (zH (p := ⟨gb419, 1, none⟩) (zH (p := ⟨gb419, 0, none⟩) (Kd.R_types HO_4.out BK419.out (by decide)) (fun _ hk => hk.2) (.int .u64 t413)) (fun _ hk => hk.2) (.int .u32 t414)) (fun _ hk => hk.2) (.slice Ao22 t415.length co22)) (fun _ hk => trivial))); (case aS => exact (zE (by repeat (first | (with_reducible first | exact HB.out | apply ze | apply zd | apply zf | refine zk ?_ GE409.out | refine zk ?_ GE419.out) | exact HB.out)))); (case aL => have := LMc14.out; omega); intro v422 w24 ho hb hg hat; rw [← Ny421.out] at ho; have n0_ := zm (Kd.R_over' (by (with_reducible repeat (first | apply zo | apply zp | apply zq)); exact (zG (zH (p := ⟨gb419, 2, none⟩) (zH (p := ⟨gb419, 1, none⟩) (zH (p := ⟨gb419, 0, none⟩) (Kd.R_types HO_410002.out BK419.out (by decide)) (fun _ hk => hk.2) (.int .u64 t413)) (fun _ hk => hk.2) (.int .u32 t414)) (fun _ hk => hk.2) (.slice Ao22 t415.length co22)) (fun _ h_ => h_.1))) (Kd.R_typed (by (with_reducible repeat (first | apply zo | apply zp | apply zq)); exact (zG (zH (p := ⟨gb419, 2, none⟩) (zH (p := ⟨gb419, 1, none⟩) (zH (p := ⟨gb419, 0, none⟩) (Kd.R_types HO_4.out BK419.out (by decide)) (fun _ hk => hk.2) (.int .u64 t413)) (fun _ hk => hk.2) (.int .u32 t414)) (fun _ hk => hk.2) (.slice Ao22 t415.length co22)) (fun _ h_ => h_.1)))) (by decide) hg); have n1_ := zm (blk_grown (g := gb409) (o := .cells #[.int .u64 x410000_1, .int .u32 x410001_1, .slice Ao15 x410002_1.length co15] 26 (0, 0)) (by (with_reducible repeat (first | refine zh ?_ _ | refine zj ?_ | refine zi ?_ _)); refine zv ?_ NB409_419.out _; (with_reducible repeat (first | refine zh ?_ _ | refine zj ?_ | refine zi ?_ _)); refine zv ?_ NB409_419.out _; (with_reducible repeat (first | refine zh ?_ _ | refine zj ?_ | refine zi ?_ _)); refine zv ?_ NB409_419.out _; (with_reducible repeat (first | refine zh ?_ _ | refine zj ?_ | refine zi ?_ _)); exact BK409.out) hg (zu HO_4.out BK409.out (by decide))); have n2_ := zm (Kd.R_over' (by (with_reducible repeat (first | apply zo | apply zp | apply zq)); exact (zG (zH (p := ⟨gb419, 2, none⟩) (zH (p := ⟨gb419, 1, none⟩) (zH (p := ⟨gb419, 0, none⟩) (Kd.R_types HO417.out BK419.out (by decide)) (fun _ hk => hk.2) (.int .u64 t413)) (fun _ hk => hk.2) (.int .u32 t414)) (fun _ hk => hk.2) (.slice Ao22 t415.length co22)) (fun _ h_ => h_.1))) (Kd.R_typed (by (with_reducible repeat (first | apply zo | apply zp | apply zq)); exact (zG (zH (p := ⟨gb419, 2, none⟩) (zH (p := ⟨gb419, 1, none⟩) (zH (p := ⟨gb419, 0, none⟩) (Kd.R_types HO_4.out BK419.out (by decide)) (fun _ hk => hk.2) (.int .u64 t413)) (fun _ hk => hk.2) (.int .u32 t414)) (fun _ hk => hk.2) (.slice Ao22 t415.length co22)) (fun _ h_ => h_.1)))) (by decide) hg); have n3_ := zm (blk_grown (g := gb419) (o := .cells #[.int .u64 t413, .int .u32 t414, .slice Ao22 t415.length co22] 26 (0, 0)) (by (with_reducible repeat (first | refine zh ?_ _ | refine zj ?_ | refine zi ?_ _)); refine zw (cs := #[.int .u64 t413, .int .u32 t414, .slice none 0 0]) ?_ 2 _ rfl; (with_reducible repeat (first | refine zh ?_ _ | refine zj ?_ | refine zi ?_ _)); refine zw (cs := #[.int .u64 t413, .int .u32 0, .slice none 0 0]) ?_ 1 _ rfl; (with_reducible repeat (first | refine zh ?_ _ | refine zj ?_ | refine zi ?_ _)); refine zw (cs := #[.int .u64 0, .int .u32 0, .slice none 0 0]) ?_ 0 _ rfl; (with_reducible repeat (first | refine zh ?_ _ | refine zj ?_ | refine zi ?_ _)); exact BK419.out) hg (zu HO_4.out BK419.out (by decide))); have n4_ := zm (hb); have n5_ := zm (ho); clear HO_410002; clear BK409; clear HO417; clear BK419; clear HB; clear HO_4; have HO_410002 := n0_; have BK409 := n1_; have HO417 := n2_; have BK419 := n3_; have HB := n4_; have HO423 := n5_; clear n0_ n1_ n2_ n3_ n4_ n5_; clear ho hb hg hat; have hnb25 := NB419_409.out; have hnc25 := NB409_419.out; have hcz26_0 : w24.cell? ⟨gb419, 0, none⟩ = some (.int .u64 t413) := (zs BK419.out 0).trans rfl; have hcz26_1 : w24.cell? ⟨gb419, 1, none⟩ = some (.int .u32 t414) := (zs BK419.out 1).trans rfl; have hcz26_2 : w24.cell? ⟨gb419, 2, none⟩ = some (.slice Ao22 t415.length co22) := (zs BK419.out 2).trans rfl; have hfz26_0 := zx BK419.out 0; have hfz26_1 := zx BK419.out 1; have hfz26_2 := zx BK419.out 2; have hcz27_0 : w24.cell? ⟨gb409, 0, none⟩ = some (.int .u64 x410000_1) := (zs BK409.out 0).trans rfl; have hcz27_1 : w24.cell? ⟨gb409, 1, none⟩ = some (.int .u32 x410001_1) := (zs BK409.out 1).trans rfl; have hcz27_2 : w24.cell? ⟨gb409, 2, none⟩ = some (.slice Ao15 x410002_1.length co15) := (zs BK409.out 2).trans rfl; have hfz27_0 := zx BK409.out 0; have hfz27_1 := zx BK409.out 1; have hfz27_2 := zx BK409.out 2))
          go_roundg kj6
          case measure => have := HK1.out; have := HJ6.out; omega
          case rel => exact ⟨(y421), (wrap64 (x5_1 + 1)), (t413), (t414), (t415), (.slice Ao22 t415.length co22), (by first | rfl | (simp; done) | (simp [*]; done)), H', ⟨by have := HK1.out; have := HJ6.out; omega⟩, ⟨by (with_reducible repeat (first | apply zo | apply zp | apply zq)); exact zG (zH (p := ⟨gb409, 2, none⟩) (zH (p := ⟨gb409, 1, none⟩) (zH (p := ⟨gb409, 0, none⟩) (Kd.R_types HO423.out BK409.out (by decide)) (fun _ hk => hk.2) (.int .u64 t413)) (fun _ hk => hk.2) (.int .u32 t414)) (fun _ hk => hk.2) (.slice Ao22 t415.length co22)) (fun _ hk => trivial)⟩, ⟨by (with_reducible repeat (first | apply zo | apply zp | apply zq)); exact zG (zH (p := ⟨gb409, 2, none⟩) (zH (p := ⟨gb409, 1, none⟩) (zH (p := ⟨gb409, 0, none⟩) (Kd.R_types HO417.out BK409.out (by decide)) (fun _ hk => hk.2) (.int .u64 t413)) (fun _ hk => hk.2) (.int .u32 t414)) (fun _ hk => hk.2) (.slice Ao22 t415.length co22)) (fun _ hk => trivial)⟩, ⟨by (with_reducible repeat (first | refine zh ?_ _ | refine zj ?_ | refine zi ?_ _)); refine zw (cs := #[.int .u64 t413, .int .u32 t414, .slice Ao15 x410002_1.length co15]) ?_ 2 _ rfl; (with_reducible repeat (first | refine zh ?_ _ | refine zj ?_ | refine zi ?_ _)); refine zw (cs := #[.int .u64 t413, .int .u32 x410001_1, .slice Ao15 x410002_1.length co15]) ?_ 1 _ rfl; (with_reducible repeat (first | refine zh ?_ _ | refine zj ?_ | refine zi ?_ _)); refine zw (cs := #[.int .u64 x410000_1, .int .u32 x410001_1, .slice Ao15 x410002_1.length co15]) ?_ 0 _ rfl; (with_reducible repeat (first | refine zh ?_ _ | refine zj ?_ | refine zi ?_ _)); exact BK409.out⟩, ⟨by repeat (first | (with_reducible first | exact HB.out | apply ze | apply zd | apply zf | refine zk ?_ GE409.out | refine zk ?_ GE419.out) | exact HB.out)⟩⟩
         ·
          rw [if_neg c14] at H
          exact absurd H (by simp)
        ·
         rw [if_neg c13] at H
         have c13b0 : (t418 == 0) = false := beq_eq_false_iff_ne.mpr c13
         have c13b1 : (t418 != 0) = true := bne_iff_ne.mpr c13
         have H' := zm H
         clear H
         obtain ⟨Ao28, co28, eo28⟩ := Kd.R_slice HO_410002.out
         subst eo28
         try go_wp2
         have n0_ := zm (zq HO_4.out)
         have n1_ := zm (zq HO_410002.out)
         have n2_ := zm (zj BK409.out)
         have n3_ := zm (zf HB.out)
         clear HO_4
         clear HO_410002
         clear BK409
         clear HB
         have HO_4 := n0_
         have HO_410002 := n1_
         have BK409 := n2_
         have HB := n3_
         clear n0_ n1_ n2_ n3_
         have p410 : 0 ≤ (x5_1 : Int) := of_decide_eq_true (by first | (with_reducible assumption) | assumption)
         have q410 : x5_1 < (l0.length : Int) := of_decide_eq_true (by first | (with_reducible assumption) | assumption)
         obtain ⟨ad410, e410, hx410_0, hx410_1, hx410_2⟩ := at_T53 HR0.out x5_1 p410 q410
         have hw410_2 := hx410_2
         have hw410_1 := hx410_1
         have hw410_0 := hx410_0
         cases e410
         replace hx410_0 := (HB.out.cell (zb w _ hx410_0)).trans hx410_0
         replace hx410_1 := (HB.out.cell (zb w _ hx410_1)).trans hx410_1
         replace hx410_2 := (HB.out.cell (zb w _ hx410_2)).trans hx410_2
         replace p410 := eq_true p410
         replace q410 := eq_true q410
         have p411 : 0 ≤ (x5_1 : Int) := of_decide_eq_true (by first | (with_reducible assumption) | assumption)
         have q411 : x5_1 < (l0.length : Int) := of_decide_eq_true (by first | (with_reducible assumption) | assumption)
         obtain ⟨ad411, e411, hx411_0, hx411_1, hx411_2⟩ := at_T53 HR0.out x5_1 p411 q411
         have hw411_2 := hx411_2
         have hw411_1 := hx411_1
         have hw411_0 := hx411_0
         obtain rfl : ad410 = ad411 := (by injection e411)
         replace hx411_0 := (HB.out.cell (zb w _ hx411_0)).trans hx411_0
         replace hx411_1 := (HB.out.cell (zb w _ hx411_1)).trans hx411_1
         replace hx411_2 := (HB.out.cell (zb w _ hx411_2)).trans hx411_2
         replace p411 := eq_true p411
         replace q411 := eq_true q411
         have p412 : 0 ≤ (x5_1 : Int) := of_decide_eq_true (by first | (with_reducible assumption) | assumption)
         have q412 : x5_1 < (l0.length : Int) := of_decide_eq_true (by first | (with_reducible assumption) | assumption)
         obtain ⟨ad412, e412, hx412_0, hx412_1, hx412_2⟩ := at_T53 HR0.out x5_1 p412 q412
         have hw412_2 := hx412_2
         have hw412_1 := hx412_1
         have hw412_0 := hx412_0
         obtain rfl : ad410 = ad412 := (by injection e412)
         replace hx412_0 := (HB.out.cell (zb w _ hx412_0)).trans hx412_0
         replace hx412_1 := (HB.out.cell (zb w _ hx412_1)).trans hx412_1
         replace hx412_2 := (HB.out.cell (zb w _ hx412_2)).trans hx412_2
         replace p412 := eq_true p412
         replace q412 := eq_true q412
         refine start_ (n := 23) (S := fun w' => w'.cell? ⟨gb409, 0, none⟩ = some (.int .u64 x410000_1) ∧ w'.cell? ⟨gb409, 1, none⟩ = some (.int .u32 x410001_1) ∧ w'.cell? ⟨gb409, 2, none⟩ = some (.slice Ao28 x410002_1.length co28) ∧ w'.cell? (ad410.add ((x5_1).toNat * 3)) = some (.int .i64 ((rd_T53 l0 x5_1).f0)) ∧ w'.cell? ⟨(ad410.add ((x5_1).toNat * 3)).block, (ad410.add ((x5_1).toNat * 3)).off + 1, none⟩ = some (.int .i64 ((rd_T53 l0 x5_1).f1)) ∧ w'.cell? ⟨(ad410.add ((x5_1).toNat * 3)).block, (ad410.add ((x5_1).toNat * 3)).off + 2, none⟩ = some (.int .i64 ((rd_T53 l0 x5_1).f2)) ∧ w'.cell? (ad410.add ((x5_1).toNat * 3)) = some (.int .i64 ((rd_T53 l0 x5_1).f0)) ∧ w'.cell? ⟨(ad410.add ((x5_1).toNat * 3)).block, (ad410.add ((x5_1).toNat * 3)).off + 1, none⟩ = some (.int .i64 ((rd_T53 l0 x5_1).f1)) ∧ w'.cell? ⟨(ad410.add ((x5_1).toNat * 3)).block, (ad410.add ((x5_1).toNat * 3)).off + 2, none⟩ = some (.int .i64 ((rd_T53 l0 x5_1).f2)) ∧ w'.cell? (ad410.add ((x5_1).toNat * 3)) = some (.int .i64 ((rd_T53 l0 x5_1).f0)) ∧ w'.cell? ⟨(ad410.add ((x5_1).toNat * 3)).block, (ad410.add ((x5_1).toNat * 3)).off + 1, none⟩ = some (.int .i64 ((rd_T53 l0 x5_1).f1)) ∧ w'.cell? ⟨(ad410.add ((x5_1).toNat * 3)).block, (ad410.add ((x5_1).toNat * 3)).off + 2, none⟩ = some (.int .i64 ((rd_T53 l0 x5_1).f2))) (ds := []) #[false, false, false, false, false, false, false, false, false, false, false, false, false, false, false, false, false, false, false, false, false, false, false] (by kernel_rfl) rfl rfl ⟨(zs BK409.out 0).trans rfl, (zs BK409.out 1).trans rfl, (zs BK409.out 2).trans rfl, ((HB.out.cell (zb w _ hw410_0)).trans hw410_0), ((HB.out.cell (zb w _ hw410_1)).trans hw410_1), ((HB.out.cell (zb w _ hw410_2)).trans hw410_2), ((HB.out.cell (zb w _ hw411_0)).trans hw411_0), ((HB.out.cell (zb w _ hw411_1)).trans hw411_1), ((HB.out.cell (zb w _ hw411_2)).trans hw411_2), ((HB.out.cell (zb w _ hw412_0)).trans hw412_0), ((HB.out.cell (zb w _ hw412_1)).trans hw412_1), ((HB.out.cell (zb w _ hw412_2)).trans hw412_2)⟩ (fun hHeld => ?_); refine with_tabW psalterylaw05_CoderBack.tab6 psalterylaw05_CoderBack.bits6 (fun HT_ HW_ => ?_)
         generalize wc.drew = w29 at HO_4 HO_410002 BK409 HB hx410_0 hx410_1 hx410_2 hx411_0 hx411_1 hx411_2 hx412_0 hx412_1 hx412_2 hHeld ⊢
         refine pure_ (i := 1) (N := some 27) (v := ?_) (a' := ?_) #[false, true, false, false, false, false, false, false, false, false, false, false, false, false, false, false, false, false, false, false, false, false, false] rfl rfl (any_of HT_.out (by kernel_rfl)) (fun _ _ _ h => h) (Or.inl ⟨by rfl, ?_⟩) ?_ ?_
         rotate_left
         ·
          intro w'
          go_simp
          with_reducible rfl
         rotate_left
         ·
          simp only [Act.put, List.setIfInBounds_toArray, List.set_cons_zero, List.set_cons_succ, i64_w, i32_w]
          rfl
         refine pure_ (i := 2) (N := some 28) (v := ?_) (a' := ?_) #[false, true, true, false, false, false, false, false, false, false, false, false, false, false, false, false, false, false, false, false, false, false, false] rfl rfl (any_of HT_.out (by kernel_rfl)) (fun _ _ _ h => h) (Or.inl ⟨by rfl, ?_⟩) ?_ ?_
         rotate_left
         ·
          intro w'
          go_simp
          with_reducible rfl
         rotate_left
         ·
          simp only [Act.put, List.setIfInBounds_toArray, List.set_cons_zero, List.set_cons_succ, i64_w, i32_w]
          rfl
         refine pure_ (i := 3) (N := some 29) (v := ?_) (a' := ?_) #[false, true, true, true, false, false, false, false, false, false, false, false, false, false, false, false, false, false, false, false, false, false, false] rfl rfl (any_of HT_.out (by kernel_rfl)) (fun _ _ _ h => h) (Or.inl ⟨by rfl, ?_⟩) ?_ ?_
         rotate_left
         ·
          intro w'
          go_simp
          with_reducible rfl
         rotate_left
         ·
          simp only [Act.put, List.setIfInBounds_toArray, List.set_cons_zero, List.set_cons_succ, i64_w, i32_w]
          rfl
         refine pure_ (i := 4) (N := some 30) (v := ?_) (a' := ?_) #[false, true, true, true, true, false, false, false, false, false, false, false, false, false, false, false, false, false, false, false, false, false, false] rfl rfl (any_of HT_.out (by kernel_rfl)) (fun _ _ _ h => h) (Or.inl ⟨by rfl, ?_⟩) ?_ ?_
         rotate_left
         ·
          intro w'
          go_simp
          with_reducible rfl
         rotate_left
         ·
          simp only [Act.put, List.setIfInBounds_toArray, List.set_cons_zero, List.set_cons_succ, i64_w, i32_w]
          rfl
         refine pure_ (i := 6) (N := some 32) (v := ?_) (a' := ?_) #[false, true, true, true, true, false, true, false, false, false, false, false, false, false, false, false, false, false, false, false, false, false, false] rfl rfl (any_of HT_.out (by kernel_rfl)) (fun _ _ _ h => h) (Or.inl ⟨by rfl, ?_⟩) ?_ ?_
         rotate_left
         ·
          intro w'
          go_simp
          with_reducible rfl
         rotate_left
         ·
          simp only [Act.put, List.setIfInBounds_toArray, List.set_cons_zero, List.set_cons_succ, i64_w, i32_w]
          rfl
         refine pure_ (i := 7) (N := some 33) (v := ?_) (a' := ?_) #[false, true, true, true, true, false, true, true, false, false, false, false, false, false, false, false, false, false, false, false, false, false, false] rfl rfl (any_of HT_.out (by kernel_rfl)) (fun _ _ _ h => h) (Or.inl ⟨by rfl, ?_⟩) ?_ ?_
         rotate_left
         ·
          intro w'
          go_simp
          with_reducible rfl
         rotate_left
         ·
          simp only [Act.put, List.setIfInBounds_toArray, List.set_cons_zero, List.set_cons_succ, i64_w, i32_w]
          rfl
         refine pure_ (i := 8) (N := some 34) (v := ?_) (a' := ?_) #[false, true, true, true, true, false, true, true, true, false, false, false, false, false, false, false, false, false, false, false, false, false, false] rfl rfl (any_of HT_.out (by kernel_rfl)) (fun _ _ _ h => h) (Or.inl ⟨by rfl, ?_⟩) ?_ ?_
         rotate_left
         ·
          intro w'
          go_simp
          with_reducible rfl
         rotate_left
         ·
          simp only [Act.put, List.setIfInBounds_toArray, List.set_cons_zero, List.set_cons_succ, i64_w, i32_w]
          rfl
         refine pure_ (i := 9) (N := some 35) (v := ?_) (a' := ?_) #[false, true, true, true, true, false, true, true, true, true, false, false, false, false, false, false, false, false, false, false, false, false, false] rfl rfl (any_of HT_.out (by kernel_rfl)) (fun _ _ _ h => h) (Or.inl ⟨by rfl, ?_⟩) ?_ ?_
         rotate_left
         ·
          intro w'
          go_simp
          with_reducible rfl
         rotate_left
         ·
          simp only [Act.put, List.setIfInBounds_toArray, List.set_cons_zero, List.set_cons_succ, i64_w, i32_w]
          rfl
         refine pure_ (i := 11) (N := some 37) (v := ?_) (a' := ?_) #[false, true, true, true, true, false, true, true, true, true, false, true, false, false, false, false, false, false, false, false, false, false, false] rfl rfl (any_of HT_.out (by kernel_rfl)) (fun _ _ _ h => h) (Or.inl ⟨by rfl, ?_⟩) ?_ ?_
         rotate_left
         ·
          intro w'
          go_simp
          with_reducible rfl
         rotate_left
         ·
          simp only [Act.put, List.setIfInBounds_toArray, List.set_cons_zero, List.set_cons_succ, i64_w, i32_w]
          rfl
         refine pure_ (i := 12) (N := some 38) (v := ?_) (a' := ?_) #[false, true, true, true, true, false, true, true, true, true, false, true, true, false, false, false, false, false, false, false, false, false, false] rfl rfl (any_of HT_.out (by kernel_rfl)) (fun _ _ _ h => h) (Or.inl ⟨by rfl, ?_⟩) ?_ ?_
         rotate_left
         ·
          intro w'
          go_simp
          with_reducible rfl
         rotate_left
         ·
          simp only [Act.put, List.setIfInBounds_toArray, List.set_cons_zero, List.set_cons_succ, i64_w, i32_w]
          rfl
         refine pure_ (i := 13) (N := some 39) (v := ?_) (a' := ?_) #[false, true, true, true, true, false, true, true, true, true, false, true, true, true, false, false, false, false, false, false, false, false, false] rfl rfl (any_of HT_.out (by kernel_rfl)) (fun _ _ _ h => h) (Or.inl ⟨by rfl, ?_⟩) ?_ ?_
         rotate_left
         ·
          intro w'
          go_simp
          with_reducible rfl
         rotate_left
         ·
          simp only [Act.put, List.setIfInBounds_toArray, List.set_cons_zero, List.set_cons_succ, i64_w, i32_w]
          rfl
         refine pure_ (i := 14) (N := some 40) (v := ?_) (a' := ?_) #[false, true, true, true, true, false, true, true, true, true, false, true, true, true, true, false, false, false, false, false, false, false, false] rfl rfl (any_of HT_.out (by kernel_rfl)) (fun _ _ _ h => h) (Or.inl ⟨by rfl, ?_⟩) ?_ ?_
         rotate_left
         ·
          intro w'
          go_simp
          with_reducible rfl
         rotate_left
         ·
          simp only [Act.put, List.setIfInBounds_toArray, List.set_cons_zero, List.set_cons_succ, i64_w, i32_w]
          rfl
         refine take_ (i := 0) (N := some 26) (v := ?_) (a' := ?_) #[true, true, true, true, true, false, true, true, true, true, false, true, true, true, true, false, false, false, false, false, false, false, false] rfl rfl (take_ofW HT_.out HW_.out (by kernel_rfl)) (fun _ _ _ h => h) (Or.inl ⟨by rfl, ?_⟩) hHeld ?_ ?_
         rotate_left
         ·
          rintro w' ⟨s0, s1, s2, s3, s4, s5, s6, s7, s8, s9, s10, s11⟩
          go_simp
          with_reducible rfl
         rotate_left
         ·
          simp only [Act.put, List.setIfInBounds_toArray, List.set_cons_zero, List.set_cons_succ, i64_w, i32_w]
          rfl
         refine take_ (i := 5) (N := some 31) (v := ?_) (a' := ?_) #[true, true, true, true, true, true, true, true, true, true, false, true, true, true, true, false, false, false, false, false, false, false, false] rfl rfl (take_ofW HT_.out HW_.out (by kernel_rfl)) (fun _ _ _ h => h) (Or.inl ⟨by rfl, ?_⟩) hHeld ?_ ?_
         rotate_left
         ·
          rintro w' ⟨s0, s1, s2, s3, s4, s5, s6, s7, s8, s9, s10, s11⟩
          go_simp
          with_reducible rfl
         rotate_left
         ·
          simp only [Act.put, List.setIfInBounds_toArray, List.set_cons_zero, List.set_cons_succ, i64_w, i32_w]
          rfl
         refine take_ (i := 10) (N := some 36) (v := ?_) (a' := ?_) #[true, true, true, true, true, true, true, true, true, true, true, true, true, true, true, false, false, false, false, false, false, false, false] rfl rfl (take_ofW HT_.out HW_.out (by kernel_rfl)) (fun _ _ _ h => h) (Or.inl ⟨by rfl, ?_⟩) hHeld ?_ ?_
         rotate_left
         ·
          rintro w' ⟨s0, s1, s2, s3, s4, s5, s6, s7, s8, s9, s10, s11⟩
          go_simp
          with_reducible rfl
         rotate_left
         ·
          simp only [Act.put, List.setIfInBounds_toArray, List.set_cons_zero, List.set_cons_succ, i64_w, i32_w]
          rfl
         refine take_ (i := 15) (N := some 41) (v := ?_) (a' := ?_) #[true, true, true, true, true, true, true, true, true, true, true, true, true, true, true, true, false, false, false, false, false, false, false] rfl rfl (take_ofW HT_.out HW_.out (by kernel_rfl)) (fun _ _ _ h => h) (Or.inl ⟨by rfl, ?_⟩) hHeld ?_ ?_
         rotate_left
         ·
          rintro w' ⟨s0, s1, s2, s3, s4, s5, s6, s7, s8, s9, s10, s11⟩
          go_simp
          with_reducible rfl
         rotate_left
         ·
          simp only [Act.put, List.setIfInBounds_toArray, List.set_cons_zero, List.set_cons_succ, i64_w, i32_w]
          rfl
         refine join_ (σ := Value × Nat) 2 #[true, true, true, true, true, true, true, true, true, true, true, true, true, true, true, true, true, true, true, true, true, false, false] (fun s_ => [(42, .tuple #[.agg #[.int .u64 t413, .int .u32 t414, s_.1], .int .i64 t418]), (6, .pointer (some ⟨s_.2, 0, none⟩)), (25, .tuple #[.agg #[.int .u64 t413, .int .u32 t414, s_.1], .int .i64 t418]), (43, .agg #[.int .u64 t413, .int .u32 t414, s_.1]), (44, .int .i64 t418)]) (fun s_ w' => (w'.cell? ⟨gb409, 0, none⟩ = some (.int .u64 x410000_1) ∧ w'.cell? ⟨gb409, 1, none⟩ = some (.int .u32 x410001_1) ∧ w'.cell? ⟨gb409, 2, none⟩ = some (.slice Ao28 x410002_1.length co28) ∧ w'.cell? (ad410.add ((x5_1).toNat * 3)) = some (.int .i64 ((rd_T53 l0 x5_1).f0)) ∧ w'.cell? ⟨(ad410.add ((x5_1).toNat * 3)).block, (ad410.add ((x5_1).toNat * 3)).off + 1, none⟩ = some (.int .i64 ((rd_T53 l0 x5_1).f1)) ∧ w'.cell? ⟨(ad410.add ((x5_1).toNat * 3)).block, (ad410.add ((x5_1).toNat * 3)).off + 2, none⟩ = some (.int .i64 ((rd_T53 l0 x5_1).f2)) ∧ w'.cell? (ad410.add ((x5_1).toNat * 3)) = some (.int .i64 ((rd_T53 l0 x5_1).f0)) ∧ w'.cell? ⟨(ad410.add ((x5_1).toNat * 3)).block, (ad410.add ((x5_1).toNat * 3)).off + 1, none⟩ = some (.int .i64 ((rd_T53 l0 x5_1).f1)) ∧ w'.cell? ⟨(ad410.add ((x5_1).toNat * 3)).block, (ad410.add ((x5_1).toNat * 3)).off + 2, none⟩ = some (.int .i64 ((rd_T53 l0 x5_1).f2)) ∧ w'.cell? (ad410.add ((x5_1).toNat * 3)) = some (.int .i64 ((rd_T53 l0 x5_1).f0)) ∧ w'.cell? ⟨(ad410.add ((x5_1).toNat * 3)).block, (ad410.add ((x5_1).toNat * 3)).off + 1, none⟩ = some (.int .i64 ((rd_T53 l0 x5_1).f1)) ∧ w'.cell? ⟨(ad410.add ((x5_1).toNat * 3)).block, (ad410.add ((x5_1).toNat * 3)).off + 2, none⟩ = some (.int .i64 ((rd_T53 l0 x5_1).f2))) ∧ (Kd.R (Kd.int .u8) 5 w' w.heap.size (fun k_ => some k_ ≠ (.slice Ao28 x410002_1.length co28 : Value).ownBlock) s_.1 t415) ∧ (Kd.R k53 53 w' w.heap.size (fun _ => True) u4 x4_1) ∧ (Kd.R (Kd.int .u8) 5 w' w.heap.size (fun k_ => some k_ ≠ (s_.1 : Value).ownBlock) (.slice Ao28 x410002_1.length co28) x410002_1) ∧ (w'.heap[gb409]? = some (.cells #[.int .u64 x410000_1, .int .u32 x410001_1, .slice Ao28 x410002_1.length co28] 26 (0, 0))) ∧ (w'.heap[s_.2]? = some (.cells #[.int .u64 0, .int .u32 0, .slice none 0 0] 26 (0, 0))) ∧ (w.heap.size ≤ s_.2) ∧ (w.heap.size ≤ s_.2) ∧ (gb409 ≠ s_.2) ∧ (s_.2 ≠ gb409) ∧ (Below w.heap.size w w')) ?_ ?_
         rotate_left
         ·
          intro hCont
          refine two_ (i := 16) (j := 20) (Ni := some 42) (Nj := some 6) #[true, true, true, true, true, true, true, true, true, true, true, true, true, true, true, true, true, false, false, false, false, false, false] #[true, true, true, true, true, true, true, true, true, true, true, true, true, true, true, true, false, false, false, false, true, false, false] rfl rfl rfl rfl (two_of HT_.out (by kernel_rfl)) (by decide) (by decide) (fun K hK => ?_) (fun K hK => ?_)
          ·
           skip
           refine goes_ Try.func18 (by kernel_rfl) rfl #[.agg #[.int .u64 x410000_1, .int .u32 x410001_1, .slice Ao28 x410002_1.length co28], .int .i64 ((rd_T53 l0 x5_1).f0), .int .i64 ((rd_T53 l0 x5_1).f1), .int .i64 ((rd_T53 l0 x5_1).f2)] (by rfl) rfl rfl (by (try simp only [List.map_toArray, List.map_cons, List.map_nil]); first | done | rfl | (simp only [List.length_drop, List.length_take]; rfl)) ?_
           with_reducible refine (coder_Put.calls kj6 x410000_1 x410001_1 _ _ x410002_1 ((rd_T53 l0 x5_1).f0) ((rd_T53 l0 x5_1).f1) ((rd_T53 l0 x5_1).f2) t413 t414 t415 t418 _ ?side1 ?side2 A12.out).mono ?_
           (case side1 => repeat (first | exact (Kd.R_reads' HO_410002.out).2.2 | (with_reducible refine Kd.C_alloc ?_ _) | (with_reducible refine Kd.C_drewN ?_ _) | (with_reducible refine Kd.C_drew ?_)))
           (case side2 => exact (Kd.R_reads' HO_410002.out).2.1)
           rintro e w30 ⟨v416, rfl, ho0, hb⟩
           refine ⟨_, rfl, ?_⟩
           have n0_ := zm (Kd.R_below (by (with_reducible repeat (first | apply zo | apply zp | apply zq)); exact HO_4.out) hb)
           have n1_ := zm (Kd.R_elder' (by (with_reducible repeat (first | apply zo | apply zp | apply zq)); exact HO_410002.out) (Kd.R_base ho0) hb)
           have n2_ := zm (Kd.R_lower (Kd.R_new' ho0 (Kd.R_lt (by (with_reducible repeat (first | apply zo | apply zp | apply zq)); exact HO_410002.out))) (zE (by repeat (first | (with_reducible first | exact HB.out | apply ze | apply zd | apply zf | refine zk ?_ GE409.out) | exact HB.out))))
           have n3_ := zm (zF (g := gb409) (o := .cells #[.int .u64 x410000_1, .int .u32 x410001_1, .slice Ao28 x410002_1.length co28] 26 (0, 0)) (by (with_reducible repeat (first | refine zh ?_ _ | refine zj ?_ | refine zi ?_ _)); exact BK409.out) hb)
           have n4_ := zm (zJ (by repeat (first | (with_reducible first | exact HB.out | apply ze | apply zd | apply zf | refine zk ?_ GE409.out) | exact HB.out)) hb)
           clear HO_4
           clear HO_410002
           clear BK409
           clear HB
           have HO_4 := n0_
           have HO_410002 := n1_
           have HO417 := n2_
           have BK409 := n3_
           have HB := n4_
           clear n0_ n1_ n2_ n3_ n4_
           (try clear hb)
           (try clear hb2)
           (try clear hk)
           (try clear hi)
           (try clear ho0)
           refine hK.out _ _ ⟨(zs BK409.out 0).trans rfl, (zs BK409.out 1).trans rfl, (zs BK409.out 2).trans rfl, ((HB.out.cell (zb w _ hw410_0)).trans hw410_0), ((HB.out.cell (zb w _ hw410_1)).trans hw410_1), ((HB.out.cell (zb w _ hw410_2)).trans hw410_2), ((HB.out.cell (zb w _ hw411_0)).trans hw411_0), ((HB.out.cell (zb w _ hw411_1)).trans hw411_1), ((HB.out.cell (zb w _ hw411_2)).trans hw411_2), ((HB.out.cell (zb w _ hw412_0)).trans hw412_0), ((HB.out.cell (zb w _ hw412_1)).trans hw412_1), ((HB.out.cell (zb w _ hw412_2)).trans hw412_2)⟩ (fun hHeld => ?_)
           clear hK K
           refine norm_ (a' := ?_) ?_ ?_
           rotate_left
           ·
            show Act.put _ (some 42) _ = _
            simp only [Act.put, List.setIfInBounds_toArray, List.set_cons_zero, List.set_cons_succ, i64_w, i32_w]
            rfl
           refine pure_ (i := 17) (N := some 25) (v := ?_) (a' := ?_) #[true, true, true, true, true, true, true, true, true, true, true, true, true, true, true, true, true, true, false, false, false, false, false] rfl rfl (any_of HT_.out (by kernel_rfl)) (fun _ _ _ h => h) (Or.inl ⟨by rfl, ?_⟩) ?_ ?_
           rotate_left
           ·
            intro w'
            go_simp
            with_reducible rfl
           rotate_left
           ·
            simp only [Act.put, List.setIfInBounds_toArray, List.set_cons_zero, List.set_cons_succ, i64_w, i32_w]
            rfl
           refine pure_ (i := 18) (N := some 43) (v := ?_) (a' := ?_) #[true, true, true, true, true, true, true, true, true, true, true, true, true, true, true, true, true, true, true, false, false, false, false] rfl rfl (any_of HT_.out (by kernel_rfl)) (fun _ _ _ h => h) (Or.inl ⟨by rfl, ?_⟩) ?_ ?_
           rotate_left
           ·
            intro w'
            go_simp
            with_reducible rfl
           rotate_left
           ·
            simp only [Act.put, List.setIfInBounds_toArray, List.set_cons_zero, List.set_cons_succ, i64_w, i32_w]
            rfl
           refine pure_ (i := 19) (N := some 44) (v := ?_) (a' := ?_) #[true, true, true, true, true, true, true, true, true, true, true, true, true, true, true, true, true, true, true, true, false, false, false] rfl rfl (any_of HT_.out (by kernel_rfl)) (fun _ _ _ h => h) (Or.inl ⟨by rfl, ?_⟩) ?_ ?_
           rotate_left
           ·
            intro w'
            go_simp
            with_reducible rfl
           rotate_left
           ·
            simp only [Act.put, List.setIfInBounds_toArray, List.set_cons_zero, List.set_cons_succ, i64_w, i32_w]
            rfl
           refine one_ (i := 20) (N := some 6) #[true, true, true, true, true, true, true, true, true, true, true, true, true, true, true, true, true, true, true, true, true, false, false] rfl rfl (one_of HT_.out (by kernel_rfl)) (by decide) (fun K hK => ?_)
           refine box_step ?hg (N := 6) ?hd (cs := #[.int .u64 0, .int .u32 0, .slice none 0 0]) (t := 26) ?hr ?_; (case hd => rfl); (case hg => rfl); (case hr => first | (go_simp; done) | (go_simp; rfl))
           intro gb419 hg w31 hbox hb
           have n0_ := zm (Kd.R_below (by (with_reducible repeat (first | apply zo | apply zp | apply zq)); exact HO_4.out) hb)
           have n1_ := zm (Kd.R_below (by (with_reducible repeat (first | apply zo | apply zp | apply zq)); exact HO_410002.out) hb)
           have n2_ := zm (Kd.R_below (by (with_reducible repeat (first | apply zo | apply zp | apply zq)); exact HO417.out) hb)
           have n3_ := zm (zF (g := gb409) (o := .cells #[.int .u64 x410000_1, .int .u32 x410001_1, .slice Ao28 x410002_1.length co28] 26 (0, 0)) (by (with_reducible repeat (first | refine zh ?_ _ | refine zj ?_ | refine zi ?_ _)); exact BK409.out) hb)
           have n4_ := zm (zJ (by repeat (first | (with_reducible first | exact HB.out | apply ze | apply zd | apply zf | refine zk ?_ GE409.out) | exact HB.out)) hb)
           have n5_ := zm (hbox)
           have n6_ := zm ((by rw [hg]; exact (zE (by repeat (first | (with_reducible first | exact HB.out | apply ze | apply zd | apply zf | refine zk ?_ GE409.out) | exact HB.out))) : w.heap.size ≤ gb419))
           have n7_ := zm ((by rw [hg]; exact (zE (by repeat (first | (with_reducible first | exact HB.out | apply ze | apply zd | apply zf | refine zk ?_ GE409.out) | exact HB.out))) : w.heap.size ≤ gb419))
           have n8_ := zm ((by rw [hg]; exact zn (zD (g := gb409) (o := .cells #[.int .u64 x410000_1, .int .u32 x410001_1, .slice Ao28 x410002_1.length co28] 26 (0, 0)) (by (with_reducible repeat (first | refine zh ?_ _ | refine zj ?_ | refine zi ?_ _)); exact BK409.out)) : gb409 ≠ gb419))
           have n9_ := zm ((by rw [hg]; exact zg (zD (g := gb409) (o := .cells #[.int .u64 x410000_1, .int .u32 x410001_1, .slice Ao28 x410002_1.length co28] 26 (0, 0)) (by (with_reducible repeat (first | refine zh ?_ _ | refine zj ?_ | refine zi ?_ _)); exact BK409.out)) : gb419 ≠ gb409))
           clear HO_4
           clear HO_410002
           clear HO417
           clear BK409
           clear HB
           have HO_4 := n0_
           have HO_410002 := n1_
           have HO417 := n2_
           have BK409 := n3_
           have HB := n4_
           have BK419 := n5_
           have GW419 := n6_
           have GE419 := n7_
           have NB409_419 := n8_
           have NB419_409 := n9_
           clear n0_ n1_ n2_ n3_ n4_ n5_ n6_ n7_ n8_ n9_
           clear hb hbox hg
           refine hK.out _ _ ⟨(zs BK409.out 0).trans rfl, (zs BK409.out 1).trans rfl, (zs BK409.out 2).trans rfl, ((HB.out.cell (zb w _ hw410_0)).trans hw410_0), ((HB.out.cell (zb w _ hw410_1)).trans hw410_1), ((HB.out.cell (zb w _ hw410_2)).trans hw410_2), ((HB.out.cell (zb w _ hw411_0)).trans hw411_0), ((HB.out.cell (zb w _ hw411_1)).trans hw411_1), ((HB.out.cell (zb w _ hw411_2)).trans hw411_2), ((HB.out.cell (zb w _ hw412_0)).trans hw412_0), ((HB.out.cell (zb w _ hw412_1)).trans hw412_1), ((HB.out.cell (zb w _ hw412_2)).trans hw412_2)⟩ (fun hHeld => ?_)
           clear hK K
           refine norm_ (a' := ?_) ?_ ?_
           rotate_left
           ·
            show Act.put _ (some 6) _ = _
            simp only [Act.put, List.setIfInBounds_toArray, List.set_cons_zero, List.set_cons_succ, i64_w, i32_w]
            rfl
           exact norm_ (by simp only [putAll, Act.put, List.setIfInBounds_toArray, List.set_cons_zero, List.set_cons_succ]) (hCont (v416, gb419) _ ⟨hHeld, (by (with_reducible repeat (first | apply zo | apply zp | apply zq)); exact zG HO417.out (fun _ hk => hk.2)), (by (with_reducible repeat (first | apply zo | apply zp | apply zq)); exact HO_4.out), (by (with_reducible repeat (first | apply zo | apply zp | apply zq)); exact zG HO_410002.out (fun _ hk => hk.2)), (by (with_reducible repeat (first | refine zh ?_ _ | refine zj ?_ | refine zi ?_ _)); exact BK409.out), (by (with_reducible repeat (first | refine zh ?_ _ | refine zj ?_ | refine zi ?_ _)); exact BK419.out), GW419.out, GE419.out, NB409_419.out, NB419_409.out, (by repeat (first | (with_reducible first | exact HB.out | apply ze | apply zd | apply zf | refine zk ?_ GE409.out | refine zk ?_ GE419.out) | exact HB.out))⟩)
          ·
           skip
           refine box_step ?hg (N := 6) ?hd (cs := #[.int .u64 0, .int .u32 0, .slice none 0 0]) (t := 26) ?hr ?_; (case hd => rfl); (case hg => rfl); (case hr => first | (go_simp; done) | (go_simp; rfl))
           intro gb419 hg w30 hbox hb
           have n0_ := zm (Kd.R_below (by (with_reducible repeat (first | apply zo | apply zp | apply zq)); exact HO_4.out) hb)
           have n1_ := zm (Kd.R_below (by (with_reducible repeat (first | apply zo | apply zp | apply zq)); exact HO_410002.out) hb)
           have n2_ := zm (zF (g := gb409) (o := .cells #[.int .u64 x410000_1, .int .u32 x410001_1, .slice Ao28 x410002_1.length co28] 26 (0, 0)) (by (with_reducible repeat (first | refine zh ?_ _ | refine zj ?_ | refine zi ?_ _)); exact BK409.out) hb)
           have n3_ := zm (zJ (by repeat (first | (with_reducible first | exact HB.out | apply ze | apply zd | apply zf | refine zk ?_ GE409.out) | exact HB.out)) hb)
           have n4_ := zm (hbox)
           have n5_ := zm ((by rw [hg]; exact (zE (by repeat (first | (with_reducible first | exact HB.out | apply ze | apply zd | apply zf | refine zk ?_ GE409.out) | exact HB.out))) : w.heap.size ≤ gb419))
           have n6_ := zm ((by rw [hg]; exact (zE (by repeat (first | (with_reducible first | exact HB.out | apply ze | apply zd | apply zf | refine zk ?_ GE409.out) | exact HB.out))) : w.heap.size ≤ gb419))
           have n7_ := zm ((by rw [hg]; exact zn (zD (g := gb409) (o := .cells #[.int .u64 x410000_1, .int .u32 x410001_1, .slice Ao28 x410002_1.length co28] 26 (0, 0)) (by (with_reducible repeat (first | refine zh ?_ _ | refine zj ?_ | refine zi ?_ _)); exact BK409.out)) : gb409 ≠ gb419))
           have n8_ := zm ((by rw [hg]; exact zg (zD (g := gb409) (o := .cells #[.int .u64 x410000_1, .int .u32 x410001_1, .slice Ao28 x410002_1.length co28] 26 (0, 0)) (by (with_reducible repeat (first | refine zh ?_ _ | refine zj ?_ | refine zi ?_ _)); exact BK409.out)) : gb419 ≠ gb409))
           clear HO_4
           clear HO_410002
           clear BK409
           clear HB
           have HO_4 := n0_
           have HO_410002 := n1_
           have BK409 := n2_
           have HB := n3_
           have BK419 := n4_
           have GW419 := n5_
           have GE419 := n6_
           have NB409_419 := n7_
           have NB419_409 := n8_
           clear n0_ n1_ n2_ n3_ n4_ n5_ n6_ n7_ n8_
           clear hb hbox hg
           refine hK.out _ _ ⟨(zs BK409.out 0).trans rfl, (zs BK409.out 1).trans rfl, (zs BK409.out 2).trans rfl, ((HB.out.cell (zb w _ hw410_0)).trans hw410_0), ((HB.out.cell (zb w _ hw410_1)).trans hw410_1), ((HB.out.cell (zb w _ hw410_2)).trans hw410_2), ((HB.out.cell (zb w _ hw411_0)).trans hw411_0), ((HB.out.cell (zb w _ hw411_1)).trans hw411_1), ((HB.out.cell (zb w _ hw411_2)).trans hw411_2), ((HB.out.cell (zb w _ hw412_0)).trans hw412_0), ((HB.out.cell (zb w _ hw412_1)).trans hw412_1), ((HB.out.cell (zb w _ hw412_2)).trans hw412_2)⟩ (fun hHeld => ?_)
           clear hK K
           refine norm_ (a' := ?_) ?_ ?_
           rotate_left
           ·
            show Act.put _ (some 6) _ = _
            simp only [Act.put, List.setIfInBounds_toArray, List.set_cons_zero, List.set_cons_succ, i64_w, i32_w]
            rfl
           refine one_ (i := 16) (N := some 42) #[true, true, true, true, true, true, true, true, true, true, true, true, true, true, true, true, true, false, false, false, true, false, false] rfl rfl (one_of HT_.out (by kernel_rfl)) (by decide) (fun K hK => ?_)
           refine goes_ Try.func18 (by kernel_rfl) rfl #[.agg #[.int .u64 x410000_1, .int .u32 x410001_1, .slice Ao28 x410002_1.length co28], .int .i64 ((rd_T53 l0 x5_1).f0), .int .i64 ((rd_T53 l0 x5_1).f1), .int .i64 ((rd_T53 l0 x5_1).f2)] (by rfl) rfl rfl (by (try simp only [List.map_toArray, List.map_cons, List.map_nil]); first | done | rfl | (simp only [List.length_drop, List.length_take]; rfl)) ?_
           with_reducible refine (coder_Put.calls kj6 x410000_1 x410001_1 _ _ x410002_1 ((rd_T53 l0 x5_1).f0) ((rd_T53 l0 x5_1).f1) ((rd_T53 l0 x5_1).f2) t413 t414 t415 t418 _ ?side1 ?side2 A12.out).mono ?_
           (case side1 => repeat (first | exact (Kd.R_reads' HO_410002.out).2.2 | (with_reducible refine Kd.C_alloc ?_ _) | (with_reducible refine Kd.C_drewN ?_ _) | (with_reducible refine Kd.C_drew ?_)))
           (case side2 => exact (Kd.R_reads' HO_410002.out).2.1)
           rintro e w31 ⟨v416, rfl, ho0, hb⟩
           refine ⟨_, rfl, ?_⟩
           have n0_ := zm (Kd.R_below (by (with_reducible repeat (first | apply zo | apply zp | apply zq)); exact HO_4.out) hb)
           have n1_ := zm (Kd.R_elder' (by (with_reducible repeat (first | apply zo | apply zp | apply zq)); exact HO_410002.out) (Kd.R_base ho0) hb)
           have n2_ := zm (Kd.R_lower (Kd.R_new' ho0 (Kd.R_lt (by (with_reducible repeat (first | apply zo | apply zp | apply zq)); exact HO_410002.out))) (zE (by repeat (first | (with_reducible first | exact HB.out | apply ze | apply zd | apply zf | refine zk ?_ GE409.out | refine zk ?_ GE419.out) | exact HB.out))))
           have n3_ := zm (zF (g := gb409) (o := .cells #[.int .u64 x410000_1, .int .u32 x410001_1, .slice Ao28 x410002_1.length co28] 26 (0, 0)) (by (with_reducible repeat (first | refine zh ?_ _ | refine zj ?_ | refine zi ?_ _)); exact BK409.out) hb)
           have n4_ := zm (zF (g := gb419) (o := .cells #[.int .u64 0, .int .u32 0, .slice none 0 0] 26 (0, 0)) (by (with_reducible repeat (first | refine zh ?_ _ | refine zj ?_ | refine zi ?_ _)); exact BK419.out) hb)
           have n5_ := zm (zJ (by repeat (first | (with_reducible first | exact HB.out | apply ze | apply zd | apply zf | refine zk ?_ GE409.out | refine zk ?_ GE419.out) | exact HB.out)) hb)
           clear HO_4
           clear HO_410002
           clear BK409
           clear BK419
           clear HB
           have HO_4 := n0_
           have HO_410002 := n1_
           have HO417 := n2_
           have BK409 := n3_
           have BK419 := n4_
           have HB := n5_
           clear n0_ n1_ n2_ n3_ n4_ n5_
           (try clear hb)
           (try clear hb2)
           (try clear hk)
           (try clear hi)
           (try clear ho0)
           refine hK.out _ _ ⟨(zs BK409.out 0).trans rfl, (zs BK409.out 1).trans rfl, (zs BK409.out 2).trans rfl, ((HB.out.cell (zb w _ hw410_0)).trans hw410_0), ((HB.out.cell (zb w _ hw410_1)).trans hw410_1), ((HB.out.cell (zb w _ hw410_2)).trans hw410_2), ((HB.out.cell (zb w _ hw411_0)).trans hw411_0), ((HB.out.cell (zb w _ hw411_1)).trans hw411_1), ((HB.out.cell (zb w _ hw411_2)).trans hw411_2), ((HB.out.cell (zb w _ hw412_0)).trans hw412_0), ((HB.out.cell (zb w _ hw412_1)).trans hw412_1), ((HB.out.cell (zb w _ hw412_2)).trans hw412_2)⟩ (fun hHeld => ?_)
           clear hK K
           refine norm_ (a' := ?_) ?_ ?_
           rotate_left
           ·
            show Act.put _ (some 42) _ = _
            simp only [Act.put, List.setIfInBounds_toArray, List.set_cons_zero, List.set_cons_succ, i64_w, i32_w]
            rfl
           refine pure_ (i := 17) (N := some 25) (v := ?_) (a' := ?_) #[true, true, true, true, true, true, true, true, true, true, true, true, true, true, true, true, true, true, false, false, true, false, false] rfl rfl (any_of HT_.out (by kernel_rfl)) (fun _ _ _ h => h) (Or.inl ⟨by rfl, ?_⟩) ?_ ?_
           rotate_left
           ·
            intro w'
            go_simp
            with_reducible rfl
           rotate_left
           ·
            simp only [Act.put, List.setIfInBounds_toArray, List.set_cons_zero, List.set_cons_succ, i64_w, i32_w]
            rfl
           refine pure_ (i := 18) (N := some 43) (v := ?_) (a' := ?_) #[true, true, true, true, true, true, true, true, true, true, true, true, true, true, true, true, true, true, true, false, true, false, false] rfl rfl (any_of HT_.out (by kernel_rfl)) (fun _ _ _ h => h) (Or.inl ⟨by rfl, ?_⟩) ?_ ?_
           rotate_left
           ·
            intro w'
            go_simp
            with_reducible rfl
           rotate_left
           ·
            simp only [Act.put, List.setIfInBounds_toArray, List.set_cons_zero, List.set_cons_succ, i64_w, i32_w]
            rfl
           refine pure_ (i := 19) (N := some 44) (v := ?_) (a' := ?_) #[true, true, true, true, true, true, true, true, true, true, true, true, true, true, true, true, true, true, true, true, true, false, false] rfl rfl (any_of HT_.out (by kernel_rfl)) (fun _ _ _ h => h) (Or.inl ⟨by rfl, ?_⟩) ?_ ?_
           rotate_left
           ·
            intro w'
            go_simp
            with_reducible rfl
           rotate_left
           ·
            simp only [Act.put, List.setIfInBounds_toArray, List.set_cons_zero, List.set_cons_succ, i64_w, i32_w]
            rfl
           exact norm_ (by simp only [putAll, Act.put, List.setIfInBounds_toArray, List.set_cons_zero, List.set_cons_succ]) (hCont (v416, gb419) _ ⟨hHeld, (by (with_reducible repeat (first | apply zo | apply zp | apply zq)); exact zG HO417.out (fun _ hk => hk.2)), (by (with_reducible repeat (first | apply zo | apply zp | apply zq)); exact HO_4.out), (by (with_reducible repeat (first | apply zo | apply zp | apply zq)); exact zG HO_410002.out (fun _ hk => hk.2)), (by (with_reducible repeat (first | refine zh ?_ _ | refine zj ?_ | refine zi ?_ _)); exact BK409.out), (by (with_reducible repeat (first | refine zh ?_ _ | refine zj ?_ | refine zi ?_ _)); exact BK419.out), GW419.out, GE419.out, NB409_419.out, NB419_409.out, (by repeat (first | (with_reducible first | exact HB.out | apply ze | apply zd | apply zf | refine zk ?_ GE409.out | refine zk ?_ GE419.out) | exact HB.out))⟩)
         rintro ⟨v416, gb419⟩ w32 ⟨hS_, h0_, h1_, h2_, h3_, h4_, h5_, h6_, h7_, h8_, h9_⟩
         have n0_ : Aside0 (Kd.R (Kd.int .u8) 5 w32 w.heap.size (fun k_ => some k_ ≠ (.slice Ao28 x410002_1.length co28 : Value).ownBlock) v416 t415) := ⟨h0_⟩
         have n1_ : Aside0 (Kd.R k53 53 w32 w.heap.size (fun _ => True) u4 x4_1) := ⟨h1_⟩
         have n2_ : Aside0 (Kd.R (Kd.int .u8) 5 w32 w.heap.size (fun k_ => some k_ ≠ (v416 : Value).ownBlock) (.slice Ao28 x410002_1.length co28) x410002_1) := ⟨h2_⟩
         have n3_ : Aside0 (w32.heap[gb409]? = some (.cells #[.int .u64 x410000_1, .int .u32 x410001_1, .slice Ao28 x410002_1.length co28] 26 (0, 0))) := ⟨h3_⟩
         have n4_ : Aside0 (w32.heap[gb419]? = some (.cells #[.int .u64 0, .int .u32 0, .slice none 0 0] 26 (0, 0))) := ⟨h4_⟩
         have n5_ : Aside0 (w.heap.size ≤ gb419) := ⟨h5_⟩
         have n6_ : Aside0 (w.heap.size ≤ gb419) := ⟨h6_⟩
         have n7_ : Aside0 (gb409 ≠ gb419) := ⟨h7_⟩
         have n8_ : Aside0 (gb419 ≠ gb409) := ⟨h8_⟩
         have n9_ : Aside0 (Below w.heap.size w w32) := ⟨h9_⟩
         clear HO_4
         clear HO_410002
         clear BK409
         clear HB
         clear h0_ h1_ h2_ h3_ h4_ h5_ h6_ h7_ h8_ h9_
         have HO417 := n0_
         have HO_4 := n1_
         have HO_410002 := n2_
         have BK409 := n3_
         have BK419 := n4_
         have GW419 := n5_
         have GE419 := n6_
         have NB409_419 := n7_
         have NB419_409 := n8_
         have HB := n9_
         clear n0_ n1_ n2_ n3_ n4_ n5_ n6_ n7_ n8_ n9_
         have hHeld : w32.cell? ⟨gb409, 0, none⟩ = some (.int .u64 x410000_1) ∧ w32.cell? ⟨gb409, 1, none⟩ = some (.int .u32 x410001_1) ∧ w32.cell? ⟨gb409, 2, none⟩ = some (.slice Ao28 x410002_1.length co28) ∧ w32.cell? (ad410.add ((x5_1).toNat * 3)) = some (.int .i64 ((rd_T53 l0 x5_1).f0)) ∧ w32.cell? ⟨(ad410.add ((x5_1).toNat * 3)).block, (ad410.add ((x5_1).toNat * 3)).off + 1, none⟩ = some (.int .i64 ((rd_T53 l0 x5_1).f1)) ∧ w32.cell? ⟨(ad410.add ((x5_1).toNat * 3)).block, (ad410.add ((x5_1).toNat * 3)).off + 2, none⟩ = some (.int .i64 ((rd_T53 l0 x5_1).f2)) ∧ w32.cell? (ad410.add ((x5_1).toNat * 3)) = some (.int .i64 ((rd_T53 l0 x5_1).f0)) ∧ w32.cell? ⟨(ad410.add ((x5_1).toNat * 3)).block, (ad410.add ((x5_1).toNat * 3)).off + 1, none⟩ = some (.int .i64 ((rd_T53 l0 x5_1).f1)) ∧ w32.cell? ⟨(ad410.add ((x5_1).toNat * 3)).block, (ad410.add ((x5_1).toNat * 3)).off + 2, none⟩ = some (.int .i64 ((rd_T53 l0 x5_1).f2)) ∧ w32.cell? (ad410.add ((x5_1).toNat * 3)) = some (.int .i64 ((rd_T53 l0 x5_1).f0)) ∧ w32.cell? ⟨(ad410.add ((x5_1).toNat * 3)).block, (ad410.add ((x5_1).toNat * 3)).off + 1, none⟩ = some (.int .i64 ((rd_T53 l0 x5_1).f1)) ∧ w32.cell? ⟨(ad410.add ((x5_1).toNat * 3)).block, (ad410.add ((x5_1).toNat * 3)).off + 2, none⟩ = some (.int .i64 ((rd_T53 l0 x5_1).f2)) := hS_
         obtain ⟨Ao35, co35, eo35⟩ := Kd.R_slice HO417.out
         (first | subst eo35 | (injection eo35 with f1_ f2_ f3_; have f4_ := f1_.symm; have f5_ := f3_.symm; clear f1_ f2_ f3_; subst f4_; subst f5_))
         refine norm_ (a' := ?_) ?_ ?_
         rotate_left
         ·
          simp only [putAll, Act.put, List.setIfInBounds_toArray, List.set_cons_zero, List.set_cons_succ]
          rfl
         refine one_ (i := 21) (N := none) #[true, true, true, true, true, true, true, true, true, true, true, true, true, true, true, true, true, true, true, true, true, true, false] rfl rfl (one_of HT_.out (by kernel_rfl)) (by decide) (fun K hK => ?_)
         have hs33 : w32.cell? ⟨gb419, 0, none⟩ = some (.int .u64 0) := (zs BK419.out 0).trans rfl
         have hfs33 := zx BK419.out 0
         have hns33_0 := NB409_419.out
         have hms33_0 := NB419_409.out
         have hs34 : w32.cell? ⟨gb419, 1, none⟩ = some (.int .u32 0) := (zs BK419.out 1).trans rfl
         have hfs34 := zx BK419.out 1
         have hns34_0 := NB409_419.out
         have hms34_0 := NB419_409.out
         have hs36 : w32.cell? ⟨gb419, 2, none⟩ = some (.slice none 0 0) := (zs BK419.out 2).trans rfl
         have hfs36 := zx BK419.out 2
         have hns36_0 := NB409_419.out
         have hms36_0 := NB419_409.out
         refine skip_ (w1 := ?_) (by rfl) rfl ?_ ?_
         rotate_left
         ·
          go_simp
          rfl
         refine hK.out _ _ ⟨((zr (p := ⟨gb419, _, none⟩) NB409_419.out _).trans (((zr (p := ⟨gb419, _, none⟩) NB409_419.out _).trans (((zr (p := ⟨gb419, _, none⟩) NB409_419.out _).trans (hHeld.1)))))), ((zr (p := ⟨gb419, _, none⟩) NB409_419.out _).trans (((zr (p := ⟨gb419, _, none⟩) NB409_419.out _).trans (((zr (p := ⟨gb419, _, none⟩) NB409_419.out _).trans (hHeld.2.1)))))), ((zr (p := ⟨gb419, _, none⟩) NB409_419.out _).trans (((zr (p := ⟨gb419, _, none⟩) NB409_419.out _).trans (((zr (p := ⟨gb419, _, none⟩) NB409_419.out _).trans (hHeld.2.2.1)))))), ((zr (p := ⟨gb419, _, none⟩) (by first | exact zn (zl (by have := zb _ _ hw410_0; first | rwa [za] at this | exact this) GW419.out) | (rw [za]; exact zn (zl (by have := zb _ _ hw410_0; first | rwa [za] at this | exact this) GW419.out)) | (show (Addr.add _ _).block ≠ _; rw [za]; exact zn (zl (by have := zb _ _ hw410_0; first | rwa [za] at this | exact this) GW419.out)) | (dsimp only; exact zn (zl (by have := zb _ _ hw410_0; first | rwa [za] at this | exact this) GW419.out))) _).trans (((zr (p := ⟨gb419, _, none⟩) (by first | exact zn (zl (by have := zb _ _ hw410_0; first | rwa [za] at this | exact this) GW419.out) | (rw [za]; exact zn (zl (by have := zb _ _ hw410_0; first | rwa [za] at this | exact this) GW419.out)) | (show (Addr.add _ _).block ≠ _; rw [za]; exact zn (zl (by have := zb _ _ hw410_0; first | rwa [za] at this | exact this) GW419.out)) | (dsimp only; exact zn (zl (by have := zb _ _ hw410_0; first | rwa [za] at this | exact this) GW419.out))) _).trans (((zr (p := ⟨gb419, _, none⟩) (by first | exact zn (zl (by have := zb _ _ hw410_0; first | rwa [za] at this | exact this) GW419.out) | (rw [za]; exact zn (zl (by have := zb _ _ hw410_0; first | rwa [za] at this | exact this) GW419.out)) | (show (Addr.add _ _).block ≠ _; rw [za]; exact zn (zl (by have := zb _ _ hw410_0; first | rwa [za] at this | exact this) GW419.out)) | (dsimp only; exact zn (zl (by have := zb _ _ hw410_0; first | rwa [za] at this | exact this) GW419.out))) _).trans (hHeld.2.2.2.1)))))), ((zr (p := ⟨gb419, _, none⟩) (by first | exact zn (zl (by have := zb _ _ hw410_1; first | rwa [za] at this | exact this) GW419.out) | (rw [za]; exact zn (zl (by have := zb _ _ hw410_1; first | rwa [za] at this | exact this) GW419.out)) | (show (Addr.add _ _).block ≠ _; rw [za]; exact zn (zl (by have := zb _ _ hw410_1; first | rwa [za] at this | exact this) GW419.out)) | (dsimp only; exact zn (zl (by have := zb _ _ hw410_1; first | rwa [za] at this | exact this) GW419.out))) _).trans (((zr (p := ⟨gb419, _, none⟩) (by first | exact zn (zl (by have := zb _ _ hw410_1; first | rwa [za] at this | exact this) GW419.out) | (rw [za]; exact zn (zl (by have := zb _ _ hw410_1; first | rwa [za] at this | exact this) GW419.out)) | (show (Addr.add _ _).block ≠ _; rw [za]; exact zn (zl (by have := zb _ _ hw410_1; first | rwa [za] at this | exact this) GW419.out)) | (dsimp only; exact zn (zl (by have := zb _ _ hw410_1; first | rwa [za] at this | exact this) GW419.out))) _).trans (((zr (p := ⟨gb419, _, none⟩) (by first | exact zn (zl (by have := zb _ _ hw410_1; first | rwa [za] at this | exact this) GW419.out) | (rw [za]; exact zn (zl (by have := zb _ _ hw410_1; first | rwa [za] at this | exact this) GW419.out)) | (show (Addr.add _ _).block ≠ _; rw [za]; exact zn (zl (by have := zb _ _ hw410_1; first | rwa [za] at this | exact this) GW419.out)) | (dsimp only; exact zn (zl (by have := zb _ _ hw410_1; first | rwa [za] at this | exact this) GW419.out))) _).trans (hHeld.2.2.2.2.1)))))), ((zr (p := ⟨gb419, _, none⟩) (by first | exact zn (zl (by have := zb _ _ hw410_2; first | rwa [za] at this | exact this) GW419.out) | (rw [za]; exact zn (zl (by have := zb _ _ hw410_2; first | rwa [za] at this | exact this) GW419.out)) | (show (Addr.add _ _).block ≠ _; rw [za]; exact zn (zl (by have := zb _ _ hw410_2; first | rwa [za] at this | exact this) GW419.out)) | (dsimp only; exact zn (zl (by have := zb _ _ hw410_2; first | rwa [za] at this | exact this) GW419.out))) _).trans (((zr (p := ⟨gb419, _, none⟩) (by first | exact zn (zl (by have := zb _ _ hw410_2; first | rwa [za] at this | exact this) GW419.out) | (rw [za]; exact zn (zl (by have := zb _ _ hw410_2; first | rwa [za] at this | exact this) GW419.out)) | (show (Addr.add _ _).block ≠ _; rw [za]; exact zn (zl (by have := zb _ _ hw410_2; first | rwa [za] at this | exact this) GW419.out)) | (dsimp only; exact zn (zl (by have := zb _ _ hw410_2; first | rwa [za] at this | exact this) GW419.out))) _).trans (((zr (p := ⟨gb419, _, none⟩) (by first | exact zn (zl (by have := zb _ _ hw410_2; first | rwa [za] at this | exact this) GW419.out) | (rw [za]; exact zn (zl (by have := zb _ _ hw410_2; first | rwa [za] at this | exact this) GW419.out)) | (show (Addr.add _ _).block ≠ _; rw [za]; exact zn (zl (by have := zb _ _ hw410_2; first | rwa [za] at this | exact this) GW419.out)) | (dsimp only; exact zn (zl (by have := zb _ _ hw410_2; first | rwa [za] at this | exact this) GW419.out))) _).trans (hHeld.2.2.2.2.2.1)))))), ((zr (p := ⟨gb419, _, none⟩) (by first | exact zn (zl (by have := zb _ _ hw411_0; first | rwa [za] at this | exact this) GW419.out) | (rw [za]; exact zn (zl (by have := zb _ _ hw411_0; first | rwa [za] at this | exact this) GW419.out)) | (show (Addr.add _ _).block ≠ _; rw [za]; exact zn (zl (by have := zb _ _ hw411_0; first | rwa [za] at this | exact this) GW419.out)) | (dsimp only; exact zn (zl (by have := zb _ _ hw411_0; first | rwa [za] at this | exact this) GW419.out))) _).trans (((zr (p := ⟨gb419, _, none⟩) (by first | exact zn (zl (by have := zb _ _ hw411_0; first | rwa [za] at this | exact this) GW419.out) | (rw [za]; exact zn (zl (by have := zb _ _ hw411_0; first | rwa [za] at this | exact this) GW419.out)) | (show (Addr.add _ _).block ≠ _; rw [za]; exact zn (zl (by have := zb _ _ hw411_0; first | rwa [za] at this | exact this) GW419.out)) | (dsimp only; exact zn (zl (by have := zb _ _ hw411_0; first | rwa [za] at this | exact this) GW419.out))) _).trans (((zr (p := ⟨gb419, _, none⟩) (by first | exact zn (zl (by have := zb _ _ hw411_0; first | rwa [za] at this | exact this) GW419.out) | (rw [za]; exact zn (zl (by have := zb _ _ hw411_0; first | rwa [za] at this | exact this) GW419.out)) | (show (Addr.add _ _).block ≠ _; rw [za]; exact zn (zl (by have := zb _ _ hw411_0; first | rwa [za] at this | exact this) GW419.out)) | (dsimp only; exact zn (zl (by have := zb _ _ hw411_0; first | rwa [za] at this | exact this) GW419.out))) _).trans (hHeld.2.2.2.2.2.2.1)))))), ((zr (p := ⟨gb419, _, none⟩) (by first | exact zn (zl (by have := zb _ _ hw411_1; first | rwa [za] at this | exact this) GW419.out) | (rw [za]; exact zn (zl (by have := zb _ _ hw411_1; first | rwa [za] at this | exact this) GW419.out)) | (show (Addr.add _ _).block ≠ _; rw [za]; exact zn (zl (by have := zb _ _ hw411_1; first | rwa [za] at this | exact this) GW419.out)) | (dsimp only; exact zn (zl (by have := zb _ _ hw411_1; first | rwa [za] at this | exact this) GW419.out))) _).trans (((zr (p := ⟨gb419, _, none⟩) (by first | exact zn (zl (by have := zb _ _ hw411_1; first | rwa [za] at this | exact this) GW419.out) | (rw [za]; exact zn (zl (by have := zb _ _ hw411_1; first | rwa [za] at this | exact this) GW419.out)) | (show (Addr.add _ _).block ≠ _; rw [za]; exact zn (zl (by have := zb _ _ hw411_1; first | rwa [za] at this | exact this) GW419.out)) | (dsimp only; exact zn (zl (by have := zb _ _ hw411_1; first | rwa [za] at this | exact this) GW419.out))) _).trans (((zr (p := ⟨gb419, _, none⟩) (by first | exact zn (zl (by have := zb _ _ hw411_1; first | rwa [za] at this | exact this) GW419.out) | (rw [za]; exact zn (zl (by have := zb _ _ hw411_1; first | rwa [za] at this | exact this) GW419.out)) | (show (Addr.add _ _).block ≠ _; rw [za]; exact zn (zl (by have := zb _ _ hw411_1; first | rwa [za] at this | exact this) GW419.out)) | (dsimp only; exact zn (zl (by have := zb _ _ hw411_1; first | rwa [za] at this | exact this) GW419.out))) _).trans (hHeld.2.2.2.2.2.2.2.1)))))), ((zr (p := ⟨gb419, _, none⟩) (by first | exact zn (zl (by have := zb _ _ hw411_2; first | rwa [za] at this | exact this) GW419.out) | (rw [za]; exact zn (zl (by have := zb _ _ hw411_2; first | rwa [za] at this | exact this) GW419.out)) | (show (Addr.add _ _).block ≠ _; rw [za]; exact zn (zl (by have := zb _ _ hw411_2; first | rwa [za] at this | exact this) GW419.out)) | (dsimp only; exact zn (zl (by have := zb _ _ hw411_2; first | rwa [za] at this | exact this) GW419.out))) _).trans (((zr (p := ⟨gb419, _, none⟩) (by first | exact zn (zl (by have := zb _ _ hw411_2; first | rwa [za] at this | exact this) GW419.out) | (rw [za]; exact zn (zl (by have := zb _ _ hw411_2; first | rwa [za] at this | exact this) GW419.out)) | (show (Addr.add _ _).block ≠ _; rw [za]; exact zn (zl (by have := zb _ _ hw411_2; first | rwa [za] at this | exact this) GW419.out)) | (dsimp only; exact zn (zl (by have := zb _ _ hw411_2; first | rwa [za] at this | exact this) GW419.out))) _).trans (((zr (p := ⟨gb419, _, none⟩) (by first | exact zn (zl (by have := zb _ _ hw411_2; first | rwa [za] at this | exact this) GW419.out) | (rw [za]; exact zn (zl (by have := zb _ _ hw411_2; first | rwa [za] at this | exact this) GW419.out)) | (show (Addr.add _ _).block ≠ _; rw [za]; exact zn (zl (by have := zb _ _ hw411_2; first | rwa [za] at this | exact this) GW419.out)) | (dsimp only; exact zn (zl (by have := zb _ _ hw411_2; first | rwa [za] at this | exact this) GW419.out))) _).trans (hHeld.2.2.2.2.2.2.2.2.1)))))), ((zr (p := ⟨gb419, _, none⟩) (by first | exact zn (zl (by have := zb _ _ hw412_0; first | rwa [za] at this | exact this) GW419.out) | (rw [za]; exact zn (zl (by have := zb _ _ hw412_0; first | rwa [za] at this | exact this) GW419.out)) | (show (Addr.add _ _).block ≠ _; rw [za]; exact zn (zl (by have := zb _ _ hw412_0; first | rwa [za] at this | exact this) GW419.out)) | (dsimp only; exact zn (zl (by have := zb _ _ hw412_0; first | rwa [za] at this | exact this) GW419.out))) _).trans (((zr (p := ⟨gb419, _, none⟩) (by first | exact zn (zl (by have := zb _ _ hw412_0; first | rwa [za] at this | exact this) GW419.out) | (rw [za]; exact zn (zl (by have := zb _ _ hw412_0; first | rwa [za] at this | exact this) GW419.out)) | (show (Addr.add _ _).block ≠ _; rw [za]; exact zn (zl (by have := zb _ _ hw412_0; first | rwa [za] at this | exact this) GW419.out)) | (dsimp only; exact zn (zl (by have := zb _ _ hw412_0; first | rwa [za] at this | exact this) GW419.out))) _).trans (((zr (p := ⟨gb419, _, none⟩) (by first | exact zn (zl (by have := zb _ _ hw412_0; first | rwa [za] at this | exact this) GW419.out) | (rw [za]; exact zn (zl (by have := zb _ _ hw412_0; first | rwa [za] at this | exact this) GW419.out)) | (show (Addr.add _ _).block ≠ _; rw [za]; exact zn (zl (by have := zb _ _ hw412_0; first | rwa [za] at this | exact this) GW419.out)) | (dsimp only; exact zn (zl (by have := zb _ _ hw412_0; first | rwa [za] at this | exact this) GW419.out))) _).trans (hHeld.2.2.2.2.2.2.2.2.2.1)))))), ((zr (p := ⟨gb419, _, none⟩) (by first | exact zn (zl (by have := zb _ _ hw412_1; first | rwa [za] at this | exact this) GW419.out) | (rw [za]; exact zn (zl (by have := zb _ _ hw412_1; first | rwa [za] at this | exact this) GW419.out)) | (show (Addr.add _ _).block ≠ _; rw [za]; exact zn (zl (by have := zb _ _ hw412_1; first | rwa [za] at this | exact this) GW419.out)) | (dsimp only; exact zn (zl (by have := zb _ _ hw412_1; first | rwa [za] at this | exact this) GW419.out))) _).trans (((zr (p := ⟨gb419, _, none⟩) (by first | exact zn (zl (by have := zb _ _ hw412_1; first | rwa [za] at this | exact this) GW419.out) | (rw [za]; exact zn (zl (by have := zb _ _ hw412_1; first | rwa [za] at this | exact this) GW419.out)) | (show (Addr.add _ _).block ≠ _; rw [za]; exact zn (zl (by have := zb _ _ hw412_1; first | rwa [za] at this | exact this) GW419.out)) | (dsimp only; exact zn (zl (by have := zb _ _ hw412_1; first | rwa [za] at this | exact this) GW419.out))) _).trans (((zr (p := ⟨gb419, _, none⟩) (by first | exact zn (zl (by have := zb _ _ hw412_1; first | rwa [za] at this | exact this) GW419.out) | (rw [za]; exact zn (zl (by have := zb _ _ hw412_1; first | rwa [za] at this | exact this) GW419.out)) | (show (Addr.add _ _).block ≠ _; rw [za]; exact zn (zl (by have := zb _ _ hw412_1; first | rwa [za] at this | exact this) GW419.out)) | (dsimp only; exact zn (zl (by have := zb _ _ hw412_1; first | rwa [za] at this | exact this) GW419.out))) _).trans (hHeld.2.2.2.2.2.2.2.2.2.2.1)))))), ((zr (p := ⟨gb419, _, none⟩) (by first | exact zn (zl (by have := zb _ _ hw412_2; first | rwa [za] at this | exact this) GW419.out) | (rw [za]; exact zn (zl (by have := zb _ _ hw412_2; first | rwa [za] at this | exact this) GW419.out)) | (show (Addr.add _ _).block ≠ _; rw [za]; exact zn (zl (by have := zb _ _ hw412_2; first | rwa [za] at this | exact this) GW419.out)) | (dsimp only; exact zn (zl (by have := zb _ _ hw412_2; first | rwa [za] at this | exact this) GW419.out))) _).trans (((zr (p := ⟨gb419, _, none⟩) (by first | exact zn (zl (by have := zb _ _ hw412_2; first | rwa [za] at this | exact this) GW419.out) | (rw [za]; exact zn (zl (by have := zb _ _ hw412_2; first | rwa [za] at this | exact this) GW419.out)) | (show (Addr.add _ _).block ≠ _; rw [za]; exact zn (zl (by have := zb _ _ hw412_2; first | rwa [za] at this | exact this) GW419.out)) | (dsimp only; exact zn (zl (by have := zb _ _ hw412_2; first | rwa [za] at this | exact this) GW419.out))) _).trans (((zr (p := ⟨gb419, _, none⟩) (by first | exact zn (zl (by have := zb _ _ hw412_2; first | rwa [za] at this | exact this) GW419.out) | (rw [za]; exact zn (zl (by have := zb _ _ hw412_2; first | rwa [za] at this | exact this) GW419.out)) | (show (Addr.add _ _).block ≠ _; rw [za]; exact zn (zl (by have := zb _ _ hw412_2; first | rwa [za] at this | exact this) GW419.out)) | (dsimp only; exact zn (zl (by have := zb _ _ hw412_2; first | rwa [za] at this | exact this) GW419.out))) _).trans (hHeld.2.2.2.2.2.2.2.2.2.2.2))))))⟩ (fun hHeld => ?_)
         clear hK K
         refine pure_ (i := 22) (N := some 7) (v := ?_) (a' := ?_) #[true, true, true, true, true, true, true, true, true, true, true, true, true, true, true, true, true, true, true, true, true, true, true] rfl rfl (any_of HT_.out (by kernel_rfl)) (fun _ _ _ h => h) (Or.inl ⟨by rfl, ?_⟩) ?_ ?_
         rotate_left
         ·
          intro w'
          go_simp
          with_reducible rfl
         rotate_left
         ·
          simp only [Act.put, List.setIfInBounds_toArray, List.set_cons_zero, List.set_cons_succ, i64_w, i32_w]
          rfl
         refine done_ (done_of HT_.out (by kernel_rfl)) ?_
         have hnb37 := NB419_409.out
         have hnc37 := NB409_419.out
         have hcz38_0 : w32.cell? ⟨gb419, 0, none⟩ = some (.int .u64 0) := (zs BK419.out 0).trans rfl
         have hcz38_1 : w32.cell? ⟨gb419, 1, none⟩ = some (.int .u32 0) := (zs BK419.out 1).trans rfl
         have hcz38_2 : w32.cell? ⟨gb419, 2, none⟩ = some (.slice none 0 0) := (zs BK419.out 2).trans rfl
         have hfz38_0 := zx BK419.out 0
         have hfz38_1 := zx BK419.out 1
         have hfz38_2 := zx BK419.out 2
         have hcz39_0 : w32.cell? ⟨gb409, 0, none⟩ = some (.int .u64 x410000_1) := (zs BK409.out 0).trans rfl
         have hcz39_1 : w32.cell? ⟨gb409, 1, none⟩ = some (.int .u32 x410001_1) := (zs BK409.out 1).trans rfl
         have hcz39_2 : w32.cell? ⟨gb409, 2, none⟩ = some (.slice Ao28 x410002_1.length co28) := (zs BK409.out 2).trans rfl
         have hfz39_0 := zx BK409.out 0
         have hfz39_1 := zx BK409.out 1
         have hfz39_2 := zx BK409.out 2
         try go_wp2
         go_roundg kj6
         case measure => have := HK1.out; have := HJ6.out; omega
         case rel => exact ⟨(x4_1), (wrap64 (x5_1 + 1)), (t413), (t414), (t415), (.slice Ao35 t415.length co35), (by first | rfl | (simp; done) | (simp [*]; done)), H', ⟨by have := HK1.out; have := HJ6.out; omega⟩, ⟨by (with_reducible repeat (first | apply zo | apply zp | apply zq)); exact zG (zH (p := ⟨gb409, 2, none⟩) (zH (p := ⟨gb409, 1, none⟩) (zH (p := ⟨gb409, 0, none⟩) (zH (p := ⟨gb419, 2, none⟩) (zH (p := ⟨gb419, 1, none⟩) (zH (p := ⟨gb419, 0, none⟩) (Kd.R_types (Kd.R_types HO_4.out BK419.out (by decide)) BK409.out (by decide)) (fun _ hk => hk.1.2) (.int .u64 t413)) (fun _ hk => hk.1.2) (.int .u32 t414)) (fun _ hk => hk.1.2) (.slice Ao35 t415.length co35)) (fun _ hk => hk.2) (.int .u64 t413)) (fun _ hk => hk.2) (.int .u32 t414)) (fun _ hk => hk.2) (.slice Ao35 t415.length co35)) (fun _ hk => trivial)⟩, ⟨by (with_reducible repeat (first | apply zo | apply zp | apply zq)); exact zG (zH (p := ⟨gb409, 2, none⟩) (zH (p := ⟨gb409, 1, none⟩) (zH (p := ⟨gb409, 0, none⟩) (zH (p := ⟨gb419, 2, none⟩) (zH (p := ⟨gb419, 1, none⟩) (zH (p := ⟨gb419, 0, none⟩) (Kd.R_types (Kd.R_types HO417.out BK419.out (by decide)) BK409.out (by decide)) (fun _ hk => hk.1.2) (.int .u64 t413)) (fun _ hk => hk.1.2) (.int .u32 t414)) (fun _ hk => hk.1.2) (.slice Ao35 t415.length co35)) (fun _ hk => hk.2) (.int .u64 t413)) (fun _ hk => hk.2) (.int .u32 t414)) (fun _ hk => hk.2) (.slice Ao35 t415.length co35)) (fun _ hk => trivial)⟩, ⟨by (with_reducible repeat (first | refine zh ?_ _ | refine zj ?_ | refine zi ?_ _)); refine zw (cs := #[.int .u64 t413, .int .u32 t414, .slice Ao28 x410002_1.length co28]) ?_ 2 _ rfl; (with_reducible repeat (first | refine zh ?_ _ | refine zj ?_ | refine zi ?_ _)); refine zw (cs := #[.int .u64 t413, .int .u32 x410001_1, .slice Ao28 x410002_1.length co28]) ?_ 1 _ rfl; (with_reducible repeat (first | refine zh ?_ _ | refine zj ?_ | refine zi ?_ _)); refine zw (cs := #[.int .u64 x410000_1, .int .u32 x410001_1, .slice Ao28 x410002_1.length co28]) ?_ 0 _ rfl; (with_reducible repeat (first | refine zh ?_ _ | refine zj ?_ | refine zi ?_ _)); refine zv ?_ NB409_419.out _; (with_reducible repeat (first | refine zh ?_ _ | refine zj ?_ | refine zi ?_ _)); refine zv ?_ NB409_419.out _; (with_reducible repeat (first | refine zh ?_ _ | refine zj ?_ | refine zi ?_ _)); refine zv ?_ NB409_419.out _; (with_reducible repeat (first | refine zh ?_ _ | refine zj ?_ | refine zi ?_ _)); exact BK409.out⟩, ⟨by repeat (first | (with_reducible first | exact HB.out | apply ze | apply zd | apply zf | refine zk ?_ GE409.out | refine zk ?_ GE419.out) | exact HB.out)⟩⟩
       ·
        rw [if_neg c11] at H
        exact absurd H (by simp)
      ·
       rw [if_neg c10] at H
       exact absurd H (by simp)
     ·
      replace c9 := Bool.eq_false_iff.mpr c9
      subst c9
      have H1 : ((coder_Finish.f x410000_1 x410001_1 x410002_1).bind fun t424 => ((coder_Open.f t424).bind fun bt427 => (psalterylaw05_CoderBack.l1 kj6 x4_1 0 bt427.1 bt427.2.1 bt427.2.2.1 bt427.2.2.2))) = some r := by rw [if_neg (show ¬ (false = true) by decide)] at H; exact H
      clear H
      have H := H1
      clear H1
      replace H := Option.bind_eq_some_iff.mp H
      obtain ⟨t424, A400, H⟩ := H
      replace H : ((coder_Open.f t424).bind fun bt427 => (psalterylaw05_CoderBack.l1 kj6 x4_1 0 bt427.1 bt427.2.1 bt427.2.2.1 bt427.2.2.2)) = some r := H
      have A40 := zm A400
      clear A400
      replace H := Option.bind_eq_some_iff.mp H
      obtain ⟨⟨t427, t428, t429, t432⟩, A410, H⟩ := H
      replace H : (psalterylaw05_CoderBack.l1 kj6 x4_1 0 t427 t428 t429 t432) = some r := H
      have A41 := zm A410
      clear A410
      have H' := zm H
      clear H
      have hcz42_0 : wc.cell? ⟨gb409, 0, none⟩ = some (.int .u64 x410000_1) := (zs BK409.out 0).trans rfl
      have hcz42_1 : wc.cell? ⟨gb409, 1, none⟩ = some (.int .u32 x410001_1) := (zs BK409.out 1).trans rfl
      have hcz42_2 : wc.cell? ⟨gb409, 2, none⟩ = some (u410002) := (zs BK409.out 2).trans rfl
      have hfz42_0 := zx BK409.out 0
      have hfz42_1 := zx BK409.out 1
      have hfz42_2 := zx BK409.out 2
      obtain ⟨Ao43, co43, eo43⟩ := Kd.R_slice HO_410002.out
      subst eo43
      go_wp2_with (first | ((with_reducible refine gate_callee (f := 24) rfl ?_); refine goesL_ (some 56) rfl rfl Try.func24 (by kernel_rfl) rfl #[.agg #[.int .u64 x410000_1, .int .u32 x410001_1, .slice Ao43 x410002_1.length co43]] rfl (by (try simp only [List.map_toArray, List.map_cons, List.map_nil]); first | done | rfl | (simp only [List.length_drop, List.length_take]; rfl)) ?_; (with_reducible refine (coder_Finish.calls x410000_1 x410001_1 _ _ x410002_1 t424 _ ?side1 ?side2 A40.out).mono ?_); (case side1 => repeat (first | exact (Kd.R_reads' HO_410002.out).2.2 | (with_reducible refine Kd.C_alloc ?_ _) | (with_reducible refine Kd.C_drewN ?_ _) | (with_reducible refine Kd.C_drew ?_))); (case side2 => exact (Kd.R_reads' HO_410002.out).2.1); rintro e w44 ⟨v425, rfl, ho0, hb⟩; refine ⟨_, rfl, ?_⟩; have n0_ := zm (Kd.R_below (by (with_reducible repeat (first | apply zo | apply zp | apply zq)); exact HO_4.out) hb); have n1_ := zm (Kd.R_elder' (by (with_reducible repeat (first | apply zo | apply zp | apply zq)); exact HO_410002.out) (Kd.R_base ho0) hb); have n2_ := zm (Kd.R_lower (Kd.R_new' ho0 (Kd.R_lt (by (with_reducible repeat (first | apply zo | apply zp | apply zq)); exact HO_410002.out))) (zE (by repeat (first | (with_reducible first | exact HB.out | apply ze | apply zd | apply zf | refine zk ?_ GE409.out) | exact HB.out)))); have n3_ := zm (zF (g := gb409) (o := .cells #[.int .u64 x410000_1, .int .u32 x410001_1, .slice Ao43 x410002_1.length co43] 26 (0, 0)) (by (with_reducible repeat (first | refine zh ?_ _ | refine zj ?_ | refine zi ?_ _)); exact BK409.out) hb); have n4_ := zm (zJ (by repeat (first | (with_reducible first | exact HB.out | apply ze | apply zd | apply zf | refine zk ?_ GE409.out) | exact HB.out)) hb); clear HO_4; clear HO_410002; clear BK409; clear HB; have HO_4 := n0_; have HO_410002 := n1_; have HO426 := n2_; have BK409 := n3_; have HB := n4_; clear n0_ n1_ n2_ n3_ n4_; (try clear hb); (try clear hb2); (try clear hk); (try clear hi); (try clear ho0); obtain ⟨Ao45, co45, eo45⟩ := Kd.R_slice HO426.out; subst eo45) | ((with_reducible refine gate_callee (f := 26) rfl ?_); refine goesL_ (some 57) rfl rfl Try.func26 (by kernel_rfl) rfl #[.slice Ao45 t424.length co45] rfl (by (try simp only [List.map_toArray, List.map_cons, List.map_nil]); first | done | rfl | (simp only [List.length_drop, List.length_take]; rfl)) ?_; (with_reducible refine (coder_Open.calls (fun k_ => some k_ = (.slice Ao45 t424.length co45 : Value).ownBlock) _ _ t424 t427 t428 t429 t432 _ ?side1 A41.out).mono ?_); (case side1 => exact Kd.R_V (Kd.R_tight rfl (Kd.R_types (Kd.R_apart' (HO426.out) (Kd.R_typed HO_4.out) (by decide)) BK409.out (by decide)))); rintro e w46 ⟨v430, rfl, ho0, hb⟩; refine ⟨_, rfl, ?_⟩; have n0_ := zm (Kd.R_below (by (with_reducible repeat (first | apply zo | apply zp | apply zq)); exact HO_4.out) hb); have n1_ := zm (Kd.R_below (by (with_reducible repeat (first | apply zo | apply zp | apply zq)); exact HO_410002.out) hb); have n2_ := zm (Kd.R_below (by (with_reducible repeat (first | apply zo | apply zp | apply zq)); exact HO426.out) hb); have n3_ := zm (Kd.V_lower (zy (ok' := fun k_ => some k_ ≠ (u4 : Value).ownBlock ∧ some k_ ≠ (.slice Ao43 x410002_1.length co43 : Value).ownBlock ∧ k_ ≠ gb409) ho0 (fun k_ hk_ => ⟨Or.elim hk_ (fun hs_ => ((Kd.R_types (Kd.R_apart' (HO426.out) (Kd.R_typed HO_4.out) (by decide)) BK409.out (by decide)).1 k_ hs_.symm).1.2) (fun hn_ => (Kd.fresh' (Kd.R_lt (by (with_reducible repeat (first | apply zo | apply zp | apply zq)); exact HO_4.out)) k_ hn_)), Or.elim hk_ (fun hs_ => ((Kd.R_types (Kd.R_apart' (HO426.out) (Kd.R_typed HO_4.out) (by decide)) BK409.out (by decide)).1 k_ hs_.symm).1.1.2) (fun hn_ => (Kd.fresh' (Kd.R_lt (by (with_reducible repeat (first | apply zo | apply zp | apply zq)); exact HO_410002.out)) k_ hn_)), Or.elim hk_ (fun hs_ => ((Kd.R_types (Kd.R_apart' (HO426.out) (Kd.R_typed HO_4.out) (by decide)) BK409.out (by decide)).1 k_ hs_.symm).2) (fun hn_ => (Kd.freshB (g := gb409) (o := .cells #[.int .u64 x410000_1, .int .u32 x410001_1, .slice Ao43 x410002_1.length co43] 26 (0, 0)) (by (with_reducible repeat (first | refine zh ?_ _ | refine zj ?_ | refine zi ?_ _)); exact BK409.out) k_ hn_))⟩)) (zE (by repeat (first | (with_reducible first | exact HB.out | apply ze | apply zd | apply zf | refine zk ?_ GE409.out) | exact HB.out)))); have n4_ := zm (zF (g := gb409) (o := .cells #[.int .u64 x410000_1, .int .u32 x410001_1, .slice Ao43 x410002_1.length co43] 26 (0, 0)) (by (with_reducible repeat (first | refine zh ?_ _ | refine zj ?_ | refine zi ?_ _)); exact BK409.out) hb); have n5_ := zm (zJ (by repeat (first | (with_reducible first | exact HB.out | apply ze | apply zd | apply zf | refine zk ?_ GE409.out) | exact HB.out)) hb); clear HO_4; clear HO_410002; clear HO426; clear BK409; clear HB; have HO_4 := n0_; have HO_410002 := n1_; have HO426 := n2_; have HO431 := n3_; have BK409 := n4_; have HB := n5_; clear n0_ n1_ n2_ n3_ n4_ n5_; (try clear hb); (try clear hb2); (try clear hk); (try clear hi); (try clear ho0)) | ((with_reducible refine gate_dst (N := 8) rfl ?_); refine box_event ?hg (N := 8) ?hd (cs := #[.int .u64 0, .int .u32 0, .slice none 0 0, .int .i64 0]) (t := 43) ?hr ?_; (case hd => rfl); (case hg => rfl); (case hr => first | (go_simp; done) | (go_simp; rfl)); intro gb433 hg w47 hbox hb; have n0_ := zm (Kd.R_below (by (with_reducible repeat (first | apply zo | apply zp | apply zq)); exact HO_4.out) hb); have n1_ := zm (Kd.R_below (by (with_reducible repeat (first | apply zo | apply zp | apply zq)); exact HO_410002.out) hb); have n2_ := zm (Kd.R_below (by (with_reducible repeat (first | apply zo | apply zp | apply zq)); exact HO426.out) hb); have n3_ := zm (Kd.V_below (Kd.V_elderB (by (with_reducible repeat (first | apply zA | apply zB | apply zC)); exact HO431.out) gb433 (Nat.le_of_eq hg.symm)) hb); have n4_ := zm (zF (g := gb409) (o := .cells #[.int .u64 x410000_1, .int .u32 x410001_1, .slice Ao43 x410002_1.length co43] 26 (0, 0)) (by (with_reducible repeat (first | refine zh ?_ _ | refine zj ?_ | refine zi ?_ _)); exact BK409.out) hb); have n5_ := zm (zJ (by repeat (first | (with_reducible first | exact HB.out | apply ze | apply zd | apply zf | refine zk ?_ GE409.out) | exact HB.out)) hb); have n6_ := zm (hbox); have n7_ := zm ((by rw [hg]; exact (zE (by repeat (first | (with_reducible first | exact HB.out | apply ze | apply zd | apply zf | refine zk ?_ GE409.out) | exact HB.out))) : w.heap.size ≤ gb433)); have n8_ := zm ((by rw [hg]; exact (zE (by repeat (first | (with_reducible first | exact HB.out | apply ze | apply zd | apply zf | refine zk ?_ GE409.out) | exact HB.out))) : w.heap.size ≤ gb433)); have n9_ := zm ((by rw [hg]; exact zn (zD (g := gb409) (o := .cells #[.int .u64 x410000_1, .int .u32 x410001_1, .slice Ao43 x410002_1.length co43] 26 (0, 0)) (by (with_reducible repeat (first | refine zh ?_ _ | refine zj ?_ | refine zi ?_ _)); exact BK409.out)) : gb409 ≠ gb433)); have n10_ := zm ((by rw [hg]; exact zg (zD (g := gb409) (o := .cells #[.int .u64 x410000_1, .int .u32 x410001_1, .slice Ao43 x410002_1.length co43] 26 (0, 0)) (by (with_reducible repeat (first | refine zh ?_ _ | refine zj ?_ | refine zi ?_ _)); exact BK409.out)) : gb433 ≠ gb409)); clear HO_4; clear HO_410002; clear HO426; clear HO431; clear BK409; clear HB; have HO_4 := n0_; have HO_410002 := n1_; have HO426 := n2_; have HO431 := n3_; have BK409 := n4_; have HB := n5_; have BK433 := n6_; have GW433 := n7_; have GE433 := n8_; have NB409_433 := n9_; have NB433_409 := n10_; clear n0_ n1_ n2_ n3_ n4_ n5_ n6_ n7_ n8_ n9_ n10_; clear hb hbox hg; have hnb48 := NB433_409.out; have hnc48 := NB409_433.out; have hcz49_0 : w47.cell? ⟨gb433, 0, none⟩ = some (.int .u64 0) := (zs BK433.out 0).trans rfl; have hcz49_1 : w47.cell? ⟨gb433, 1, none⟩ = some (.int .u32 0) := (zs BK433.out 1).trans rfl; have hcz49_2 : w47.cell? ⟨gb433, 2, none⟩ = some (.slice none 0 0) := (zs BK433.out 2).trans rfl; have hcz49_3 : w47.cell? ⟨gb433, 3, none⟩ = some (.int .i64 0) := (zs BK433.out 3).trans rfl; have hfz49_0 := zx BK433.out 0; have hfz49_1 := zx BK433.out 1; have hfz49_2 := zx BK433.out 2; have hfz49_3 := zx BK433.out 3; obtain ⟨Ao50, co50, eo50⟩ := Kd.V_slice HO431.out; subst eo50))
      go_loopg [9] kj6 (fun kq v9 w' => ∃ (x9_3 : Int) (x434000_3 : Int) (x434001_3 : Int) (x434002_3 : List Int) (x434003_3 : Int) (u434002 : Value), v9 = .int .i64 x9_3 ∧ Aside0 (psalterylaw05_CoderBack.l1 kq x4_1 x9_3 x434000_3 x434001_3 x434002_3 x434003_3 = some r) ∧ Aside0 (kq ≤ kj6) ∧ Aside0 (Kd.R k53 53 w' w.heap.size (fun _ => True) u4 x4_1) ∧ Aside0 (Kd.R (Kd.int .u8) 5 w' w.heap.size (fun _ => True) (.slice Ao43 x410002_1.length co43) x410002_1) ∧ Aside0 (Kd.V (Kd.int .u8) 5 w' w.heap.size (fun k_ => some k_ ≠ (u4 : Value).ownBlock ∧ some k_ ≠ ((.slice Ao43 x410002_1.length co43) : Value).ownBlock ∧ k_ ≠ gb409 ∧ k_ ≠ gb433) u434002 x434002_3) ∧ Aside0 (w'.heap[gb409]? = some (.cells #[.int .u64 x410000_1, .int .u32 x410001_1, (.slice Ao43 x410002_1.length co43)] 26 (0, 0))) ∧ Aside0 (w'.heap[gb433]? = some (.cells #[.int .u64 x434000_3, .int .u32 x434001_3, u434002, .int .i64 x434003_3] 43 (0, 0))) ∧ Aside0 (Below w.heap.size w w'))
      case atStart => exact ⟨(0), (t427), (t428), (t429), (t432), (.slice Ao50 t429.length co50), (by first | rfl | (simp; done) | (simp [*]; done)), H', ⟨Nat.le_refl _⟩, ⟨by (with_reducible repeat (first | apply zo | apply zp | apply zq)); exact zG (zH (p := ⟨gb433, 3, none⟩) (zH (p := ⟨gb433, 2, none⟩) (zH (p := ⟨gb433, 1, none⟩) (zH (p := ⟨gb433, 0, none⟩) (Kd.R_types HO_4.out BK433.out (by decide)) (fun _ hk => hk.2) (.int .u64 t427)) (fun _ hk => hk.2) (.int .u32 t428)) (fun _ hk => hk.2) (.slice Ao50 t429.length co50)) (fun _ hk => hk.2) (.int .i64 t432)) (fun _ hk => trivial)⟩, ⟨by (with_reducible repeat (first | apply zo | apply zp | apply zq)); exact zG (zH (p := ⟨gb433, 3, none⟩) (zH (p := ⟨gb433, 2, none⟩) (zH (p := ⟨gb433, 1, none⟩) (zH (p := ⟨gb433, 0, none⟩) (Kd.R_types HO_410002.out BK433.out (by decide)) (fun _ hk => hk.2) (.int .u64 t427)) (fun _ hk => hk.2) (.int .u32 t428)) (fun _ hk => hk.2) (.slice Ao50 t429.length co50)) (fun _ hk => hk.2) (.int .i64 t432)) (fun _ hk => trivial)⟩, ⟨by (with_reducible repeat (first | apply zA | apply zB | apply zC)); exact zy (zI (p := ⟨gb433, 3, none⟩) (zI (p := ⟨gb433, 2, none⟩) (zI (p := ⟨gb433, 1, none⟩) (zI (p := ⟨gb433, 0, none⟩) (zy HO431.out (fun k_ hk => (⟨hk, hk.2⟩ : _ ∧ k_ ≠ gb433))) (fun _ hk => hk.2) (.int .u64 t427)) (fun _ hk => hk.2) (.int .u32 t428)) (fun _ hk => hk.2) (.slice Ao50 t429.length co50)) (fun _ hk => hk.2) (.int .i64 t432)) (fun _ hk => ⟨hk.1.1.1, ⟨hk.1.1.2.1, ⟨hk.1.1.2.2, hk.1.2⟩⟩⟩)⟩, ⟨by (with_reducible repeat (first | refine zh ?_ _ | refine zj ?_ | refine zi ?_ _)); refine zv ?_ NB409_433.out _; (with_reducible repeat (first | refine zh ?_ _ | refine zj ?_ | refine zi ?_ _)); refine zv ?_ NB409_433.out _; (with_reducible repeat (first | refine zh ?_ _ | refine zj ?_ | refine zi ?_ _)); refine zv ?_ NB409_433.out _; (with_reducible repeat (first | refine zh ?_ _ | refine zj ?_ | refine zi ?_ _)); refine zv ?_ NB409_433.out _; (with_reducible repeat (first | refine zh ?_ _ | refine zj ?_ | refine zi ?_ _)); exact BK409.out⟩, ⟨by (with_reducible repeat (first | refine zh ?_ _ | refine zj ?_ | refine zi ?_ _)); refine zw (cs := #[.int .u64 t427, .int .u32 t428, .slice Ao50 t429.length co50, .int .i64 0]) ?_ 3 _ rfl; (with_reducible repeat (first | refine zh ?_ _ | refine zj ?_ | refine zi ?_ _)); refine zw (cs := #[.int .u64 t427, .int .u32 t428, .slice none 0 0, .int .i64 0]) ?_ 2 _ rfl; (with_reducible repeat (first | refine zh ?_ _ | refine zj ?_ | refine zi ?_ _)); refine zw (cs := #[.int .u64 t427, .int .u32 0, .slice none 0 0, .int .i64 0]) ?_ 1 _ rfl; (with_reducible repeat (first | refine zh ?_ _ | refine zj ?_ | refine zi ?_ _)); refine zw (cs := #[.int .u64 0, .int .u32 0, .slice none 0 0, .int .i64 0]) ?_ 0 _ rfl; (with_reducible repeat (first | refine zh ?_ _ | refine zj ?_ | refine zi ?_ _)); exact BK433.out⟩, ⟨by repeat (first | (with_reducible first | exact HB.out | apply ze | apply zd | apply zf | refine zk ?_ GE409.out | refine zk ?_ GE433.out) | exact HB.out)⟩⟩
      case round =>
       clear H'
       try clear c1
       try clear c2
       try clear p2
       try clear c3
       try clear c4
       try clear p4
       try clear q4
       try clear hx4
       try clear p6
       try clear c9
       try clear c10
       try clear c11
       try clear c13
       try clear c13b0
       try clear c13b1
       try clear c14
       try clear c18
       try clear c24
       try clear c25
       try clear c26
       try clear c37
       try clear p41
       try clear q41
       try clear hx41
       try clear p42
       try clear q42
       try clear hx42
       try clear c48
       try clear hcz26_0
       try clear hcz26_1
       try clear hcz26_2
       try clear hcz27_0
       try clear hcz27_1
       try clear hcz27_2
       try clear hcz38_0
       try clear hcz38_1
       try clear hcz38_2
       try clear hcz39_0
       try clear hcz39_1
       try clear hcz39_2
       try clear hcz42_0
       try clear hcz42_1
       try clear hcz42_2
       try clear hcz49_0
       try clear hcz49_1
       try clear hcz49_2
       try clear hcz49_3
       try clear hfz26_0
       try clear hfz26_1
       try clear hfz26_2
       try clear hfz27_0
       try clear hfz27_1
       try clear hfz27_2
       try clear hfz38_0
       try clear hfz38_1
       try clear hfz38_2
       try clear hfz39_0
       try clear hfz39_1
       try clear hfz39_2
       try clear hfz42_0
       try clear hfz42_1
       try clear hfz42_2
       try clear hfz49_0
       try clear hfz49_1
       try clear hfz49_2
       try clear hfz49_3
       try clear hx410_0
       try clear hx410_1
       try clear hx410_2
       try clear hx411_0
       try clear hx411_1
       try clear hx411_2
       try clear hx412_0
       try clear hx412_1
       try clear hx412_2
       try clear hx420_0
       try clear hx420_1
       try clear hx420_2
       try clear p410
       try clear p411
       try clear p412
       try clear p420
       try clear q410
       try clear q411
       try clear q412
       try clear q420
       obtain ⟨x9_3, x434000_3, x434001_3, x434002_3, x434003_3, u434002, rfl, HA, HK3, HO_4, HO_410002, HO_434002, BK409, BK433, HB⟩ := hrel
       cases gk with
       | zero => exact absurd HA.out (by simp [psalterylaw05_CoderBack.l1])
       | succ k3 =>
        have H := HA.out
        clear HA
        simp only [psalterylaw05_CoderBack.l1] at H
        by_cases c51 : x9_3 < (x4_1.length : Int)
        ·
         rw [if_pos c51] at H
         have c51b0 : decide (x9_3 < (x4_1.length : Int)) = true := decide_eq_true c51
         clear c51
         by_cases c52 : 0 ≤ x9_3
         ·
          rw [if_pos c52] at H
          have c52b0 : decide (0 ≤ x9_3) = true := decide_eq_true c52
          clear c52
          replace H := Option.bind_eq_some_iff.mp H
          obtain ⟨⟨t436, t437⟩, A530, H⟩ := H
          replace H : ((coder_Take.f k3 x434000_3 x434001_3 x434002_3 x434003_3 ((rd_T53 x4_1 x9_3).f0) ((rd_T53 x4_1 x9_3).f1) ((rd_T53 x4_1 x9_3).f2)).bind fun bt441 => (if t437 = 0 then (if bt441.2.2.2.2 = 0 then (if t436 < ((rd_T53 x4_1 x9_3).f0) then (psalterylaw05_CoderBack.j3 k3 x4_1 x9_3 true bt441.1 bt441.2.1 bt441.2.2.1 bt441.2.2.2.1) else (psalterylaw05_CoderBack.j3 k3 x4_1 x9_3 (decide (t436 ≥ ((rd_T53 x4_1 x9_3).f1))) bt441.1 bt441.2.1 bt441.2.2.1 bt441.2.2.2.1)) else (psalterylaw05_CoderBack.j3 k3 x4_1 x9_3 true bt441.1 bt441.2.1 bt441.2.2.1 bt441.2.2.2.1)) else (psalterylaw05_CoderBack.j3 k3 x4_1 x9_3 true bt441.1 bt441.2.1 bt441.2.2.1 bt441.2.2.2.1))) = some r := H
          have A53 := zm A530
          clear A530
          replace H := Option.bind_eq_some_iff.mp H
          obtain ⟨⟨t441, t442, t443, t446, t447⟩, A540, H⟩ := H
          replace H : (if t437 = 0 then (if t447 = 0 then (if t436 < ((rd_T53 x4_1 x9_3).f0) then (psalterylaw05_CoderBack.j3 k3 x4_1 x9_3 true t441 t442 t443 t446) else (psalterylaw05_CoderBack.j3 k3 x4_1 x9_3 (decide (t436 ≥ ((rd_T53 x4_1 x9_3).f1))) t441 t442 t443 t446)) else (psalterylaw05_CoderBack.j3 k3 x4_1 x9_3 true t441 t442 t443 t446)) else (psalterylaw05_CoderBack.j3 k3 x4_1 x9_3 true t441 t442 t443 t446)) = some r := H
          have A54 := zm A540
          clear A540
          have HC55 := zm H
          clear H
          obtain ⟨Ao56, co56, eo56⟩ := Kd.R_slice HO_4.out
          subst eo56
          try go_wp2
          have n0_ := zm (zq HO_4.out)
          have n1_ := zm (zq HO_410002.out)
          have n2_ := zm (zC HO_434002.out)
          have n3_ := zm (zj BK409.out)
          have n4_ := zm (zj BK433.out)
          have n5_ := zm (zf HB.out)
          clear HO_4
          clear HO_410002
          clear HO_434002
          clear BK409
          clear BK433
          clear HB
          have HO_4 := n0_
          have HO_410002 := n1_
          have HO_434002 := n2_
          have BK409 := n3_
          have BK433 := n4_
          have HB := n5_
          clear n0_ n1_ n2_ n3_ n4_ n5_
          have p435 : 0 ≤ (x9_3 : Int) := of_decide_eq_true (by first | (with_reducible assumption) | assumption)
          have q435 : x9_3 < (x4_1.length : Int) := of_decide_eq_true (by first | (with_reducible assumption) | assumption)
          obtain ⟨ad435, e435, hx435_0, hx435_1, hx435_2⟩ := at_T53 (Kd.R_reads' HO_4.out).2.2 x9_3 p435 q435
          cases e435
          replace p435 := eq_true p435
          replace q435 := eq_true q435
          obtain ⟨Ao58, co58, eo58⟩ := Kd.V_slice HO_434002.out
          (first | subst eo58 | (injection eo58 with f1_ f2_ f3_; have f4_ := f1_.symm; have f5_ := f3_.symm; clear f1_ f2_ f3_; subst f4_; subst f5_))
          refine start_ (n := 12) (S := fun w' => w'.cell? ⟨gb433, 0, none⟩ = some (.int .u64 x434000_3) ∧ w'.cell? ⟨gb433, 1, none⟩ = some (.int .u32 x434001_3) ∧ w'.cell? ⟨gb433, 2, none⟩ = some (.slice Ao58 x434002_3.length co58) ∧ w'.cell? ⟨gb433, 3, none⟩ = some (.int .i64 x434003_3) ∧ w'.cell? (ad435.add ((x9_3).toNat * 3)) = some (.int .i64 ((rd_T53 x4_1 x9_3).f0)) ∧ w'.cell? ⟨(ad435.add ((x9_3).toNat * 3)).block, (ad435.add ((x9_3).toNat * 3)).off + 1, none⟩ = some (.int .i64 ((rd_T53 x4_1 x9_3).f1)) ∧ w'.cell? ⟨(ad435.add ((x9_3).toNat * 3)).block, (ad435.add ((x9_3).toNat * 3)).off + 2, none⟩ = some (.int .i64 ((rd_T53 x4_1 x9_3).f2))) (ds := []) #[false, false, false, false, false, false, false, false, false, false, false, false] (by kernel_rfl) rfl rfl ⟨(zs BK433.out 0).trans rfl, (zs BK433.out 1).trans rfl, (zs BK433.out 2).trans rfl, (zs BK433.out 3).trans rfl, hx435_0, hx435_1, hx435_2⟩ (fun hHeld => ?_); refine with_tabW psalterylaw05_CoderBack.tab14 psalterylaw05_CoderBack.bits14 (fun HT_ HW_ => ?_)
          generalize wr.drew = w57 at HO_4 HO_410002 HO_434002 BK409 BK433 HB hx435_0 hx435_1 hx435_2 hHeld ⊢
          refine pure_ (i := 1) (N := some 66) (v := ?_) (a' := ?_) #[false, true, false, false, false, false, false, false, false, false, false, false] rfl rfl (any_of HT_.out (by kernel_rfl)) (fun _ _ _ h => h) (Or.inl ⟨by rfl, ?_⟩) ?_ ?_
          rotate_left
          ·
           intro w'
           go_simp
           with_reducible rfl
          rotate_left
          ·
           simp only [Act.put, List.setIfInBounds_toArray, List.set_cons_zero, List.set_cons_succ, i64_w, i32_w]
           rfl
          refine pure_ (i := 2) (N := some 67) (v := ?_) (a' := ?_) #[false, true, true, false, false, false, false, false, false, false, false, false] rfl rfl (any_of HT_.out (by kernel_rfl)) (fun _ _ _ h => h) (Or.inl ⟨by rfl, ?_⟩) ?_ ?_
          rotate_left
          ·
           intro w'
           go_simp
           with_reducible rfl
          rotate_left
          ·
           simp only [Act.put, List.setIfInBounds_toArray, List.set_cons_zero, List.set_cons_succ, i64_w, i32_w]
           rfl
          refine pure_ (i := 3) (N := some 68) (v := ?_) (a' := ?_) #[false, true, true, true, false, false, false, false, false, false, false, false] rfl rfl (any_of HT_.out (by kernel_rfl)) (fun _ _ _ h => h) (Or.inl ⟨by rfl, ?_⟩) ?_ ?_
          rotate_left
          ·
           intro w'
           go_simp
           with_reducible rfl
          rotate_left
          ·
           simp only [Act.put, List.setIfInBounds_toArray, List.set_cons_zero, List.set_cons_succ, i64_w, i32_w]
           rfl
          refine pure_ (i := 4) (N := some 69) (v := ?_) (a' := ?_) #[false, true, true, true, true, false, false, false, false, false, false, false] rfl rfl (any_of HT_.out (by kernel_rfl)) (fun _ _ _ h => h) (Or.inl ⟨by rfl, ?_⟩) ?_ ?_
          rotate_left
          ·
           intro w'
           go_simp
           with_reducible rfl
          rotate_left
          ·
           simp only [Act.put, List.setIfInBounds_toArray, List.set_cons_zero, List.set_cons_succ, i64_w, i32_w]
           rfl
          refine take_ (i := 0) (N := some 65) (v := ?_) (a' := ?_) #[true, true, true, true, true, false, false, false, false, false, false, false] rfl rfl (take_ofW HT_.out HW_.out (by kernel_rfl)) (fun _ _ _ h => h) (Or.inl ⟨by rfl, ?_⟩) hHeld ?_ ?_
          rotate_left
          ·
           rintro w' ⟨s0, s1, s2, s3, s4, s5, s6⟩
           go_simp
           with_reducible rfl
          rotate_left
          ·
           simp only [Act.put, List.setIfInBounds_toArray, List.set_cons_zero, List.set_cons_succ, i64_w, i32_w]
           rfl
          refine take_ (i := 5) (N := some 70) (v := ?_) (a' := ?_) #[true, true, true, true, true, true, false, false, false, false, false, false] rfl rfl (take_ofW HT_.out HW_.out (by kernel_rfl)) (fun _ _ _ h => h) (Or.inl ⟨by rfl, ?_⟩) hHeld ?_ ?_
          rotate_left
          ·
           rintro w' ⟨s0, s1, s2, s3, s4, s5, s6⟩
           go_simp
           with_reducible rfl
          rotate_left
          ·
           simp only [Act.put, List.setIfInBounds_toArray, List.set_cons_zero, List.set_cons_succ, i64_w, i32_w]
           rfl
          refine one_ (i := 6) (N := some 71) #[true, true, true, true, true, true, true, false, false, false, false, false] rfl rfl (one_of HT_.out (by kernel_rfl)) (by decide) (fun K hK => ?_)
          refine goes_ Try.func32 (by kernel_rfl) rfl #[.agg #[.int .u64 x434000_3, .int .u32 x434001_3, .slice Ao58 x434002_3.length co58, .int .i64 x434003_3], .int .i64 ((rd_T53 x4_1 x9_3).f2)] (by rfl) rfl rfl (by (try simp only [List.map_toArray, List.map_cons, List.map_nil]); first | done | rfl | (simp only [List.length_drop, List.length_take]; rfl)) ?_
          with_reducible refine (coder_Get.calls x434000_3 x434001_3 _ _ x434002_3 x434003_3 ((rd_T53 x4_1 x9_3).f2) t436 t437 _ ?side1 ?side2 A53.out).mono ?_
          (case side1 => repeat (first | exact (Kd.V_reads' HO_434002.out).2.2 | (with_reducible refine Kd.C_alloc ?_ _) | (with_reducible refine Kd.C_drewN ?_ _) | (with_reducible refine Kd.C_drew ?_)))
          (case side2 => exact (Kd.V_reads' HO_434002.out).2.1)
          rintro e w59 ⟨rfl, hb⟩
          have HS4_ := (hb.cell (zb _ _ (hHeld.2.2.2.2.1))).trans (hHeld.2.2.2.2.1)
          have HS5_ := (hb.cell (zb _ _ (hHeld.2.2.2.2.2.1))).trans (hHeld.2.2.2.2.2.1)
          have HS6_ := (hb.cell (zb _ _ (hHeld.2.2.2.2.2.2))).trans (hHeld.2.2.2.2.2.2)
          refine ⟨_, rfl, ?_⟩
          have n0_ := zm (Kd.R_below (by (with_reducible repeat (first | apply zo | apply zp | apply zq)); exact HO_4.out) hb)
          have n1_ := zm (Kd.R_below (by (with_reducible repeat (first | apply zo | apply zp | apply zq)); exact HO_410002.out) hb)
          have n2_ := zm (Kd.V_below (by (with_reducible repeat (first | apply zA | apply zB | apply zC)); exact HO_434002.out) hb)
          have n3_ := zm (zF (g := gb409) (o := .cells #[.int .u64 x410000_1, .int .u32 x410001_1, .slice Ao43 x410002_1.length co43] 26 (0, 0)) (by (with_reducible repeat (first | refine zh ?_ _ | refine zj ?_ | refine zi ?_ _)); exact BK409.out) hb)
          have n4_ := zm (zF (g := gb433) (o := .cells #[.int .u64 x434000_3, .int .u32 x434001_3, .slice Ao58 x434002_3.length co58, .int .i64 x434003_3] 43 (0, 0)) (by (with_reducible repeat (first | refine zh ?_ _ | refine zj ?_ | refine zi ?_ _)); exact BK433.out) hb)
          have n5_ := zm (zJ (by repeat (first | (with_reducible first | exact HB.out | apply ze | apply zd | apply zf | refine zk ?_ GE409.out | refine zk ?_ GE433.out) | exact HB.out)) hb)
          clear HO_4
          clear HO_410002
          clear HO_434002
          clear BK409
          clear BK433
          clear HB
          have HO_4 := n0_
          have HO_410002 := n1_
          have HO_434002 := n2_
          have BK409 := n3_
          have BK433 := n4_
          have HB := n5_
          clear n0_ n1_ n2_ n3_ n4_ n5_
          (try clear hb)
          (try clear hb2)
          (try clear hk)
          (try clear hi)
          refine hK.out _ _ ⟨(zs BK433.out 0).trans rfl, (zs BK433.out 1).trans rfl, (zs BK433.out 2).trans rfl, (zs BK433.out 3).trans rfl, HS4_, HS5_, HS6_⟩ (fun hHeld => ?_)
          clear hK K
          refine norm_ (a' := ?_) ?_ ?_
          rotate_left
          ·
           show Act.put _ (some 71) _ = _
           simp only [Act.put, List.setIfInBounds_toArray, List.set_cons_zero, List.set_cons_succ, i64_w, i32_w]
           rfl
          refine pure_ (i := 7) (N := some 64) (v := ?_) (a' := ?_) #[true, true, true, true, true, true, true, true, false, false, false, false] rfl rfl (any_of HT_.out (by kernel_rfl)) (fun _ _ _ h => h) (Or.inl ⟨by rfl, ?_⟩) ?_ ?_
          rotate_left
          ·
           intro w'
           go_simp
           with_reducible rfl
          rotate_left
          ·
           simp only [Act.put, List.setIfInBounds_toArray, List.set_cons_zero, List.set_cons_succ, i64_w, i32_w]
           rfl
          refine pure_ (i := 8) (N := some 72) (v := ?_) (a' := ?_) #[true, true, true, true, true, true, true, true, true, false, false, false] rfl rfl (any_of HT_.out (by kernel_rfl)) (fun _ _ _ h => h) (Or.inl ⟨by rfl, ?_⟩) ?_ ?_
          rotate_left
          ·
           intro w'
           go_simp
           with_reducible rfl
          rotate_left
          ·
           simp only [Act.put, List.setIfInBounds_toArray, List.set_cons_zero, List.set_cons_succ, i64_w, i32_w]
           rfl
          refine pure_ (i := 9) (N := some 73) (v := ?_) (a' := ?_) #[true, true, true, true, true, true, true, true, true, true, false, false] rfl rfl (any_of HT_.out (by kernel_rfl)) (fun _ _ _ h => h) (Or.inl ⟨by rfl, ?_⟩) ?_ ?_
          rotate_left
          ·
           intro w'
           go_simp
           with_reducible rfl
          rotate_left
          ·
           simp only [Act.put, List.setIfInBounds_toArray, List.set_cons_zero, List.set_cons_succ, i64_w, i32_w]
           rfl
          refine pure_ (i := 10) (N := some 10) (v := ?_) (a' := ?_) #[true, true, true, true, true, true, true, true, true, true, true, false] rfl rfl (any_of HT_.out (by kernel_rfl)) (fun _ _ _ h => h) (Or.inl ⟨by rfl, ?_⟩) ?_ ?_
          rotate_left
          ·
           intro w'
           go_simp
           with_reducible rfl
          rotate_left
          ·
           simp only [Act.put, List.setIfInBounds_toArray, List.set_cons_zero, List.set_cons_succ, i64_w, i32_w]
           rfl
          refine pure_ (i := 11) (N := some 11) (v := ?_) (a' := ?_) #[true, true, true, true, true, true, true, true, true, true, true, true] rfl rfl (any_of HT_.out (by kernel_rfl)) (fun _ _ _ h => h) (Or.inl ⟨by rfl, ?_⟩) ?_ ?_
          rotate_left
          ·
           intro w'
           go_simp
           with_reducible rfl
          rotate_left
          ·
           simp only [Act.put, List.setIfInBounds_toArray, List.set_cons_zero, List.set_cons_succ, i64_w, i32_w]
           rfl
          refine done_ (done_of HT_.out (by kernel_rfl)) ?_
          try go_wp2
          have n0_ := zm (zq HO_4.out)
          have n1_ := zm (zq HO_410002.out)
          have n2_ := zm (zC HO_434002.out)
          have n3_ := zm (zj BK409.out)
          have n4_ := zm (zj BK433.out)
          have n5_ := zm (zf HB.out)
          clear HO_4
          clear HO_410002
          clear HO_434002
          clear BK409
          clear BK433
          clear HB
          have HO_4 := n0_
          have HO_410002 := n1_
          have HO_434002 := n2_
          have BK409 := n3_
          have BK433 := n4_
          have HB := n5_
          clear n0_ n1_ n2_ n3_ n4_ n5_
          have p438 : 0 ≤ (x9_3 : Int) := of_decide_eq_true (by first | (with_reducible assumption) | assumption)
          have q438 : x9_3 < (x4_1.length : Int) := of_decide_eq_true (by first | (with_reducible assumption) | assumption)
          obtain ⟨ad438, e438, hx438_0, hx438_1, hx438_2⟩ := at_T53 (Kd.R_reads' HO_4.out).2.2 x9_3 p438 q438
          obtain rfl : ad435 = ad438 := (by injection e438)
          replace p438 := eq_true p438
          replace q438 := eq_true q438
          have p439 : 0 ≤ (x9_3 : Int) := of_decide_eq_true (by first | (with_reducible assumption) | assumption)
          have q439 : x9_3 < (x4_1.length : Int) := of_decide_eq_true (by first | (with_reducible assumption) | assumption)
          obtain ⟨ad439, e439, hx439_0, hx439_1, hx439_2⟩ := at_T53 (Kd.R_reads' HO_4.out).2.2 x9_3 p439 q439
          obtain rfl : ad435 = ad439 := (by injection e439)
          replace p439 := eq_true p439
          replace q439 := eq_true q439
          have p440 : 0 ≤ (x9_3 : Int) := of_decide_eq_true (by first | (with_reducible assumption) | assumption)
          have q440 : x9_3 < (x4_1.length : Int) := of_decide_eq_true (by first | (with_reducible assumption) | assumption)
          obtain ⟨ad440, e440, hx440_0, hx440_1, hx440_2⟩ := at_T53 (Kd.R_reads' HO_4.out).2.2 x9_3 p440 q440
          obtain rfl : ad435 = ad440 := (by injection e440)
          replace p440 := eq_true p440
          replace q440 := eq_true q440
          refine start_ (n := 23) (S := fun w' => w'.cell? ⟨gb433, 0, none⟩ = some (.int .u64 x434000_3) ∧ w'.cell? ⟨gb433, 1, none⟩ = some (.int .u32 x434001_3) ∧ w'.cell? ⟨gb433, 2, none⟩ = some (.slice Ao58 x434002_3.length co58) ∧ w'.cell? ⟨gb433, 3, none⟩ = some (.int .i64 x434003_3) ∧ w'.cell? (ad435.add ((x9_3).toNat * 3)) = some (.int .i64 ((rd_T53 x4_1 x9_3).f0)) ∧ w'.cell? ⟨(ad435.add ((x9_3).toNat * 3)).block, (ad435.add ((x9_3).toNat * 3)).off + 1, none⟩ = some (.int .i64 ((rd_T53 x4_1 x9_3).f1)) ∧ w'.cell? ⟨(ad435.add ((x9_3).toNat * 3)).block, (ad435.add ((x9_3).toNat * 3)).off + 2, none⟩ = some (.int .i64 ((rd_T53 x4_1 x9_3).f2)) ∧ w'.cell? (ad435.add ((x9_3).toNat * 3)) = some (.int .i64 ((rd_T53 x4_1 x9_3).f0)) ∧ w'.cell? ⟨(ad435.add ((x9_3).toNat * 3)).block, (ad435.add ((x9_3).toNat * 3)).off + 1, none⟩ = some (.int .i64 ((rd_T53 x4_1 x9_3).f1)) ∧ w'.cell? ⟨(ad435.add ((x9_3).toNat * 3)).block, (ad435.add ((x9_3).toNat * 3)).off + 2, none⟩ = some (.int .i64 ((rd_T53 x4_1 x9_3).f2)) ∧ w'.cell? (ad435.add ((x9_3).toNat * 3)) = some (.int .i64 ((rd_T53 x4_1 x9_3).f0)) ∧ w'.cell? ⟨(ad435.add ((x9_3).toNat * 3)).block, (ad435.add ((x9_3).toNat * 3)).off + 1, none⟩ = some (.int .i64 ((rd_T53 x4_1 x9_3).f1)) ∧ w'.cell? ⟨(ad435.add ((x9_3).toNat * 3)).block, (ad435.add ((x9_3).toNat * 3)).off + 2, none⟩ = some (.int .i64 ((rd_T53 x4_1 x9_3).f2))) (ds := []) #[false, false, false, false, false, false, false, false, false, false, false, false, false, false, false, false, false, false, false, false, false, false, false] (by kernel_rfl) rfl rfl ⟨(zs BK433.out 0).trans rfl, (zs BK433.out 1).trans rfl, (zs BK433.out 2).trans rfl, (zs BK433.out 3).trans rfl, hx438_0, hx438_1, hx438_2, hx439_0, hx439_1, hx439_2, hx440_0, hx440_1, hx440_2⟩ (fun hHeld => ?_); refine with_tabW psalterylaw05_CoderBack.tab15 psalterylaw05_CoderBack.bits15 (fun HT_ HW_ => ?_)
          generalize w59.drew = w60 at HO_4 HO_410002 HO_434002 BK409 BK433 HB hx438_0 hx438_1 hx438_2 hx439_0 hx439_1 hx439_2 hx440_0 hx440_1 hx440_2 hHeld ⊢
          refine pure_ (i := 1) (N := some 76) (v := ?_) (a' := ?_) #[false, true, false, false, false, false, false, false, false, false, false, false, false, false, false, false, false, false, false, false, false, false, false] rfl rfl (any_of HT_.out (by kernel_rfl)) (fun _ _ _ h => h) (Or.inl ⟨by rfl, ?_⟩) ?_ ?_
          rotate_left
          ·
           intro w'
           go_simp
           with_reducible rfl
          rotate_left
          ·
           simp only [Act.put, List.setIfInBounds_toArray, List.set_cons_zero, List.set_cons_succ, i64_w, i32_w]
           rfl
          refine pure_ (i := 2) (N := some 77) (v := ?_) (a' := ?_) #[false, true, true, false, false, false, false, false, false, false, false, false, false, false, false, false, false, false, false, false, false, false, false] rfl rfl (any_of HT_.out (by kernel_rfl)) (fun _ _ _ h => h) (Or.inl ⟨by rfl, ?_⟩) ?_ ?_
          rotate_left
          ·
           intro w'
           go_simp
           with_reducible rfl
          rotate_left
          ·
           simp only [Act.put, List.setIfInBounds_toArray, List.set_cons_zero, List.set_cons_succ, i64_w, i32_w]
           rfl
          refine pure_ (i := 3) (N := some 78) (v := ?_) (a' := ?_) #[false, true, true, true, false, false, false, false, false, false, false, false, false, false, false, false, false, false, false, false, false, false, false] rfl rfl (any_of HT_.out (by kernel_rfl)) (fun _ _ _ h => h) (Or.inl ⟨by rfl, ?_⟩) ?_ ?_
          rotate_left
          ·
           intro w'
           go_simp
           with_reducible rfl
          rotate_left
          ·
           simp only [Act.put, List.setIfInBounds_toArray, List.set_cons_zero, List.set_cons_succ, i64_w, i32_w]
           rfl
          refine pure_ (i := 4) (N := some 79) (v := ?_) (a' := ?_) #[false, true, true, true, true, false, false, false, false, false, false, false, false, false, false, false, false, false, false, false, false, false, false] rfl rfl (any_of HT_.out (by kernel_rfl)) (fun _ _ _ h => h) (Or.inl ⟨by rfl, ?_⟩) ?_ ?_
          rotate_left
          ·
           intro w'
           go_simp
           with_reducible rfl
          rotate_left
          ·
           simp only [Act.put, List.setIfInBounds_toArray, List.set_cons_zero, List.set_cons_succ, i64_w, i32_w]
           rfl
          refine pure_ (i := 6) (N := some 81) (v := ?_) (a' := ?_) #[false, true, true, true, true, false, true, false, false, false, false, false, false, false, false, false, false, false, false, false, false, false, false] rfl rfl (any_of HT_.out (by kernel_rfl)) (fun _ _ _ h => h) (Or.inl ⟨by rfl, ?_⟩) ?_ ?_
          rotate_left
          ·
           intro w'
           go_simp
           with_reducible rfl
          rotate_left
          ·
           simp only [Act.put, List.setIfInBounds_toArray, List.set_cons_zero, List.set_cons_succ, i64_w, i32_w]
           rfl
          refine pure_ (i := 7) (N := some 82) (v := ?_) (a' := ?_) #[false, true, true, true, true, false, true, true, false, false, false, false, false, false, false, false, false, false, false, false, false, false, false] rfl rfl (any_of HT_.out (by kernel_rfl)) (fun _ _ _ h => h) (Or.inl ⟨by rfl, ?_⟩) ?_ ?_
          rotate_left
          ·
           intro w'
           go_simp
           with_reducible rfl
          rotate_left
          ·
           simp only [Act.put, List.setIfInBounds_toArray, List.set_cons_zero, List.set_cons_succ, i64_w, i32_w]
           rfl
          refine pure_ (i := 8) (N := some 83) (v := ?_) (a' := ?_) #[false, true, true, true, true, false, true, true, true, false, false, false, false, false, false, false, false, false, false, false, false, false, false] rfl rfl (any_of HT_.out (by kernel_rfl)) (fun _ _ _ h => h) (Or.inl ⟨by rfl, ?_⟩) ?_ ?_
          rotate_left
          ·
           intro w'
           go_simp
           with_reducible rfl
          rotate_left
          ·
           simp only [Act.put, List.setIfInBounds_toArray, List.set_cons_zero, List.set_cons_succ, i64_w, i32_w]
           rfl
          refine pure_ (i := 9) (N := some 84) (v := ?_) (a' := ?_) #[false, true, true, true, true, false, true, true, true, true, false, false, false, false, false, false, false, false, false, false, false, false, false] rfl rfl (any_of HT_.out (by kernel_rfl)) (fun _ _ _ h => h) (Or.inl ⟨by rfl, ?_⟩) ?_ ?_
          rotate_left
          ·
           intro w'
           go_simp
           with_reducible rfl
          rotate_left
          ·
           simp only [Act.put, List.setIfInBounds_toArray, List.set_cons_zero, List.set_cons_succ, i64_w, i32_w]
           rfl
          refine pure_ (i := 11) (N := some 86) (v := ?_) (a' := ?_) #[false, true, true, true, true, false, true, true, true, true, false, true, false, false, false, false, false, false, false, false, false, false, false] rfl rfl (any_of HT_.out (by kernel_rfl)) (fun _ _ _ h => h) (Or.inl ⟨by rfl, ?_⟩) ?_ ?_
          rotate_left
          ·
           intro w'
           go_simp
           with_reducible rfl
          rotate_left
          ·
           simp only [Act.put, List.setIfInBounds_toArray, List.set_cons_zero, List.set_cons_succ, i64_w, i32_w]
           rfl
          refine pure_ (i := 12) (N := some 87) (v := ?_) (a' := ?_) #[false, true, true, true, true, false, true, true, true, true, false, true, true, false, false, false, false, false, false, false, false, false, false] rfl rfl (any_of HT_.out (by kernel_rfl)) (fun _ _ _ h => h) (Or.inl ⟨by rfl, ?_⟩) ?_ ?_
          rotate_left
          ·
           intro w'
           go_simp
           with_reducible rfl
          rotate_left
          ·
           simp only [Act.put, List.setIfInBounds_toArray, List.set_cons_zero, List.set_cons_succ, i64_w, i32_w]
           rfl
          refine pure_ (i := 13) (N := some 88) (v := ?_) (a' := ?_) #[false, true, true, true, true, false, true, true, true, true, false, true, true, true, false, false, false, false, false, false, false, false, false] rfl rfl (any_of HT_.out (by kernel_rfl)) (fun _ _ _ h => h) (Or.inl ⟨by rfl, ?_⟩) ?_ ?_
          rotate_left
          ·
           intro w'
           go_simp
           with_reducible rfl
          rotate_left
          ·
           simp only [Act.put, List.setIfInBounds_toArray, List.set_cons_zero, List.set_cons_succ, i64_w, i32_w]
           rfl
          refine pure_ (i := 14) (N := some 89) (v := ?_) (a' := ?_) #[false, true, true, true, true, false, true, true, true, true, false, true, true, true, true, false, false, false, false, false, false, false, false] rfl rfl (any_of HT_.out (by kernel_rfl)) (fun _ _ _ h => h) (Or.inl ⟨by rfl, ?_⟩) ?_ ?_
          rotate_left
          ·
           intro w'
           go_simp
           with_reducible rfl
          rotate_left
          ·
           simp only [Act.put, List.setIfInBounds_toArray, List.set_cons_zero, List.set_cons_succ, i64_w, i32_w]
           rfl
          refine take_ (i := 0) (N := some 75) (v := ?_) (a' := ?_) #[true, true, true, true, true, false, true, true, true, true, false, true, true, true, true, false, false, false, false, false, false, false, false] rfl rfl (take_ofW HT_.out HW_.out (by kernel_rfl)) (fun _ _ _ h => h) (Or.inl ⟨by rfl, ?_⟩) hHeld ?_ ?_
          rotate_left
          ·
           rintro w' ⟨s0, s1, s2, s3, s4, s5, s6, s7, s8, s9, s10, s11, s12⟩
           go_simp
           with_reducible rfl
          rotate_left
          ·
           simp only [Act.put, List.setIfInBounds_toArray, List.set_cons_zero, List.set_cons_succ, i64_w, i32_w]
           rfl
          refine take_ (i := 5) (N := some 80) (v := ?_) (a' := ?_) #[true, true, true, true, true, true, true, true, true, true, false, true, true, true, true, false, false, false, false, false, false, false, false] rfl rfl (take_ofW HT_.out HW_.out (by kernel_rfl)) (fun _ _ _ h => h) (Or.inl ⟨by rfl, ?_⟩) hHeld ?_ ?_
          rotate_left
          ·
           rintro w' ⟨s0, s1, s2, s3, s4, s5, s6, s7, s8, s9, s10, s11, s12⟩
           go_simp
           with_reducible rfl
          rotate_left
          ·
           simp only [Act.put, List.setIfInBounds_toArray, List.set_cons_zero, List.set_cons_succ, i64_w, i32_w]
           rfl
          refine take_ (i := 10) (N := some 85) (v := ?_) (a' := ?_) #[true, true, true, true, true, true, true, true, true, true, true, true, true, true, true, false, false, false, false, false, false, false, false] rfl rfl (take_ofW HT_.out HW_.out (by kernel_rfl)) (fun _ _ _ h => h) (Or.inl ⟨by rfl, ?_⟩) hHeld ?_ ?_
          rotate_left
          ·
           rintro w' ⟨s0, s1, s2, s3, s4, s5, s6, s7, s8, s9, s10, s11, s12⟩
           go_simp
           with_reducible rfl
          rotate_left
          ·
           simp only [Act.put, List.setIfInBounds_toArray, List.set_cons_zero, List.set_cons_succ, i64_w, i32_w]
           rfl
          refine take_ (i := 15) (N := some 90) (v := ?_) (a' := ?_) #[true, true, true, true, true, true, true, true, true, true, true, true, true, true, true, true, false, false, false, false, false, false, false] rfl rfl (take_ofW HT_.out HW_.out (by kernel_rfl)) (fun _ _ _ h => h) (Or.inl ⟨by rfl, ?_⟩) hHeld ?_ ?_
          rotate_left
          ·
           rintro w' ⟨s0, s1, s2, s3, s4, s5, s6, s7, s8, s9, s10, s11, s12⟩
           go_simp
           with_reducible rfl
          rotate_left
          ·
           simp only [Act.put, List.setIfInBounds_toArray, List.set_cons_zero, List.set_cons_succ, i64_w, i32_w]
           rfl
          refine join_ (σ := Value × Nat) 2 #[true, true, true, true, true, true, true, true, true, true, true, true, true, true, true, true, true, true, true, true, true, false, false] (fun s_ => [(91, .tuple #[.agg #[.int .u64 t441, .int .u32 t442, s_.1, .int .i64 t446], .int .i64 t447]), (12, .pointer (some ⟨s_.2, 0, none⟩)), (74, .tuple #[.agg #[.int .u64 t441, .int .u32 t442, s_.1, .int .i64 t446], .int .i64 t447]), (92, .agg #[.int .u64 t441, .int .u32 t442, s_.1, .int .i64 t446]), (93, .int .i64 t447)]) (fun s_ w' => (w'.cell? ⟨gb433, 0, none⟩ = some (.int .u64 x434000_3) ∧ w'.cell? ⟨gb433, 1, none⟩ = some (.int .u32 x434001_3) ∧ w'.cell? ⟨gb433, 2, none⟩ = some (.slice Ao58 x434002_3.length co58) ∧ w'.cell? ⟨gb433, 3, none⟩ = some (.int .i64 x434003_3) ∧ w'.cell? (ad435.add ((x9_3).toNat * 3)) = some (.int .i64 ((rd_T53 x4_1 x9_3).f0)) ∧ w'.cell? ⟨(ad435.add ((x9_3).toNat * 3)).block, (ad435.add ((x9_3).toNat * 3)).off + 1, none⟩ = some (.int .i64 ((rd_T53 x4_1 x9_3).f1)) ∧ w'.cell? ⟨(ad435.add ((x9_3).toNat * 3)).block, (ad435.add ((x9_3).toNat * 3)).off + 2, none⟩ = some (.int .i64 ((rd_T53 x4_1 x9_3).f2)) ∧ w'.cell? (ad435.add ((x9_3).toNat * 3)) = some (.int .i64 ((rd_T53 x4_1 x9_3).f0)) ∧ w'.cell? ⟨(ad435.add ((x9_3).toNat * 3)).block, (ad435.add ((x9_3).toNat * 3)).off + 1, none⟩ = some (.int .i64 ((rd_T53 x4_1 x9_3).f1)) ∧ w'.cell? ⟨(ad435.add ((x9_3).toNat * 3)).block, (ad435.add ((x9_3).toNat * 3)).off + 2, none⟩ = some (.int .i64 ((rd_T53 x4_1 x9_3).f2)) ∧ w'.cell? (ad435.add ((x9_3).toNat * 3)) = some (.int .i64 ((rd_T53 x4_1 x9_3).f0)) ∧ w'.cell? ⟨(ad435.add ((x9_3).toNat * 3)).block, (ad435.add ((x9_3).toNat * 3)).off + 1, none⟩ = some (.int .i64 ((rd_T53 x4_1 x9_3).f1)) ∧ w'.cell? ⟨(ad435.add ((x9_3).toNat * 3)).block, (ad435.add ((x9_3).toNat * 3)).off + 2, none⟩ = some (.int .i64 ((rd_T53 x4_1 x9_3).f2))) ∧ (Kd.V (Kd.int .u8) 5 w' w.heap.size (fun k_ => some k_ ≠ (.slice (some ad435) x4_1.length co56 : Value).ownBlock ∧ some k_ ≠ (.slice Ao43 x410002_1.length co43 : Value).ownBlock ∧ k_ ≠ gb409 ∧ k_ ≠ gb433 ∧ k_ ≠ s_.2) s_.1 t443) ∧ (Kd.R k53 53 w' w.heap.size (fun _ => True) (.slice (some ad435) x4_1.length co56) x4_1) ∧ (Kd.R (Kd.int .u8) 5 w' w.heap.size (fun _ => True) (.slice Ao43 x410002_1.length co43) x410002_1) ∧ (Kd.V (Kd.int .u8) 5 w' w.heap.size (fun k_ => some k_ ≠ (.slice (some ad435) x4_1.length co56 : Value).ownBlock ∧ some k_ ≠ (.slice Ao43 x410002_1.length co43 : Value).ownBlock ∧ k_ ≠ gb409 ∧ k_ ≠ gb433 ∧ k_ ≠ s_.2) (.slice Ao58 x434002_3.length co58) x434002_3) ∧ (w'.heap[gb409]? = some (.cells #[.int .u64 x410000_1, .int .u32 x410001_1, .slice Ao43 x410002_1.length co43] 26 (0, 0))) ∧ (w'.heap[gb433]? = some (.cells #[.int .u64 x434000_3, .int .u32 x434001_3, .slice Ao58 x434002_3.length co58, .int .i64 x434003_3] 43 (0, 0))) ∧ (w'.heap[s_.2]? = some (.cells #[.int .u64 0, .int .u32 0, .slice none 0 0, .int .i64 0] 43 (0, 0))) ∧ (w.heap.size ≤ s_.2) ∧ (w.heap.size ≤ s_.2) ∧ (gb409 ≠ s_.2) ∧ (s_.2 ≠ gb409) ∧ (gb433 ≠ s_.2) ∧ (s_.2 ≠ gb433) ∧ (Below w.heap.size w w')) ?_ ?_
          rotate_left
          ·
           intro hCont
           refine two_ (i := 16) (j := 20) (Ni := some 91) (Nj := some 12) #[true, true, true, true, true, true, true, true, true, true, true, true, true, true, true, true, true, false, false, false, false, false, false] #[true, true, true, true, true, true, true, true, true, true, true, true, true, true, true, true, false, false, false, false, true, false, false] rfl rfl rfl rfl (two_of HT_.out (by kernel_rfl)) (by decide) (by decide) (fun K hK => ?_) (fun K hK => ?_)
           ·
            skip
            refine goes_ Try.func34 (by kernel_rfl) rfl #[.agg #[.int .u64 x434000_3, .int .u32 x434001_3, .slice Ao58 x434002_3.length co58, .int .i64 x434003_3], .int .i64 ((rd_T53 x4_1 x9_3).f0), .int .i64 ((rd_T53 x4_1 x9_3).f1), .int .i64 ((rd_T53 x4_1 x9_3).f2)] (by rfl) rfl rfl (by (try simp only [List.map_toArray, List.map_cons, List.map_nil]); first | done | rfl | (simp only [List.length_drop, List.length_take]; rfl)) ?_
            with_reducible refine (coder_Take.calls k3 x434000_3 x434001_3 (fun k_ => (some k_ ≠ (.slice (some ad435) x4_1.length co56 : Value).ownBlock ∧ (some k_ ≠ (.slice Ao43 x410002_1.length co43 : Value).ownBlock ∧ (k_ ≠ gb409 ∧ k_ ≠ gb433)))) _ _ x434002_3 x434003_3 ((rd_T53 x4_1 x9_3).f0) ((rd_T53 x4_1 x9_3).f1) ((rd_T53 x4_1 x9_3).f2) t441 t442 t443 t446 t447 _ ?side1 A54.out).mono ?_
            (case side1 => exact HO_434002.out)
            rintro e w61 ⟨v444, rfl, ho0, hb⟩
            have HS4_ := (hb.cell (zb _ _ (hHeld.2.2.2.2.1))).trans (hHeld.2.2.2.2.1)
            have HS5_ := (hb.cell (zb _ _ (hHeld.2.2.2.2.2.1))).trans (hHeld.2.2.2.2.2.1)
            have HS6_ := (hb.cell (zb _ _ (hHeld.2.2.2.2.2.2.1))).trans (hHeld.2.2.2.2.2.2.1)
            have HS7_ := (hb.cell (zb _ _ (hHeld.2.2.2.2.2.2.2.1))).trans (hHeld.2.2.2.2.2.2.2.1)
            have HS8_ := (hb.cell (zb _ _ (hHeld.2.2.2.2.2.2.2.2.1))).trans (hHeld.2.2.2.2.2.2.2.2.1)
            have HS9_ := (hb.cell (zb _ _ (hHeld.2.2.2.2.2.2.2.2.2.1))).trans (hHeld.2.2.2.2.2.2.2.2.2.1)
            have HS10_ := (hb.cell (zb _ _ (hHeld.2.2.2.2.2.2.2.2.2.2.1))).trans (hHeld.2.2.2.2.2.2.2.2.2.2.1)
            have HS11_ := (hb.cell (zb _ _ (hHeld.2.2.2.2.2.2.2.2.2.2.2.1))).trans (hHeld.2.2.2.2.2.2.2.2.2.2.2.1)
            have HS12_ := (hb.cell (zb _ _ (hHeld.2.2.2.2.2.2.2.2.2.2.2.2))).trans (hHeld.2.2.2.2.2.2.2.2.2.2.2.2)
            refine ⟨_, rfl, ?_⟩
            have n0_ := zm (Kd.R_below (by (with_reducible repeat (first | apply zo | apply zp | apply zq)); exact HO_4.out) hb)
            have n1_ := zm (Kd.R_below (by (with_reducible repeat (first | apply zo | apply zp | apply zq)); exact HO_410002.out) hb)
            have n2_ := zm (Kd.V_below (by (with_reducible repeat (first | apply zA | apply zB | apply zC)); exact HO_434002.out) hb)
            have n3_ := zm (Kd.V_lower (zy (ok' := fun k_ => some k_ ≠ (.slice (some ad435) x4_1.length co56 : Value).ownBlock ∧ some k_ ≠ (.slice Ao43 x410002_1.length co43 : Value).ownBlock ∧ k_ ≠ gb409 ∧ k_ ≠ gb433) ho0 (fun k_ hk_ => ⟨Or.elim hk_ (fun hs_ => hs_.1) (fun hn_ => (Kd.fresh' (Kd.R_lt (by (with_reducible repeat (first | apply zo | apply zp | apply zq)); exact HO_4.out)) k_ hn_)), Or.elim hk_ (fun hs_ => hs_.2.1) (fun hn_ => (Kd.fresh' (Kd.R_lt (by (with_reducible repeat (first | apply zo | apply zp | apply zq)); exact HO_410002.out)) k_ hn_)), Or.elim hk_ (fun hs_ => hs_.2.2.1) (fun hn_ => (Kd.freshB (g := gb409) (o := .cells #[.int .u64 x410000_1, .int .u32 x410001_1, .slice Ao43 x410002_1.length co43] 26 (0, 0)) (by (with_reducible repeat (first | refine zh ?_ _ | refine zj ?_ | refine zi ?_ _)); exact BK409.out) k_ hn_)), Or.elim hk_ (fun hs_ => hs_.2.2.2) (fun hn_ => (Kd.freshB (g := gb433) (o := .cells #[.int .u64 x434000_3, .int .u32 x434001_3, .slice Ao58 x434002_3.length co58, .int .i64 x434003_3] 43 (0, 0)) (by (with_reducible repeat (first | refine zh ?_ _ | refine zj ?_ | refine zi ?_ _)); exact BK433.out) k_ hn_))⟩)) (zE (by repeat (first | (with_reducible first | exact HB.out | apply ze | apply zd | apply zf | refine zk ?_ GE409.out | refine zk ?_ GE433.out) | exact HB.out))))
            have n4_ := zm (zF (g := gb409) (o := .cells #[.int .u64 x410000_1, .int .u32 x410001_1, .slice Ao43 x410002_1.length co43] 26 (0, 0)) (by (with_reducible repeat (first | refine zh ?_ _ | refine zj ?_ | refine zi ?_ _)); exact BK409.out) hb)
            have n5_ := zm (zF (g := gb433) (o := .cells #[.int .u64 x434000_3, .int .u32 x434001_3, .slice Ao58 x434002_3.length co58, .int .i64 x434003_3] 43 (0, 0)) (by (with_reducible repeat (first | refine zh ?_ _ | refine zj ?_ | refine zi ?_ _)); exact BK433.out) hb)
            have n6_ := zm (zJ (by repeat (first | (with_reducible first | exact HB.out | apply ze | apply zd | apply zf | refine zk ?_ GE409.out | refine zk ?_ GE433.out) | exact HB.out)) hb)
            clear HO_4
            clear HO_410002
            clear HO_434002
            clear BK409
            clear BK433
            clear HB
            have HO_4 := n0_
            have HO_410002 := n1_
            have HO_434002 := n2_
            have HO445 := n3_
            have BK409 := n4_
            have BK433 := n5_
            have HB := n6_
            clear n0_ n1_ n2_ n3_ n4_ n5_ n6_
            (try clear hb)
            (try clear hb2)
            (try clear hk)
            (try clear hi)
            (try clear ho0)
            refine hK.out _ _ ⟨(zs BK433.out 0).trans rfl, (zs BK433.out 1).trans rfl, (zs BK433.out 2).trans rfl, (zs BK433.out 3).trans rfl, HS4_, HS5_, HS6_, HS7_, HS8_, HS9_, HS10_, HS11_, HS12_⟩ (fun hHeld => ?_)
            clear hK K
            refine norm_ (a' := ?_) ?_ ?_
            rotate_left
            ·
             show Act.put _ (some 91) _ = _
             simp only [Act.put, List.setIfInBounds_toArray, List.set_cons_zero, List.set_cons_succ, i64_w, i32_w]
             rfl
            refine pure_ (i := 17) (N := some 74) (v := ?_) (a' := ?_) #[true, true, true, true, true, true, true, true, true, true, true, true, true, true, true, true, true, true, false, false, false, false, false] rfl rfl (any_of HT_.out (by kernel_rfl)) (fun _ _ _ h => h) (Or.inl ⟨by rfl, ?_⟩) ?_ ?_
            rotate_left
            ·
             intro w'
             go_simp
             with_reducible rfl
            rotate_left
            ·
             simp only [Act.put, List.setIfInBounds_toArray, List.set_cons_zero, List.set_cons_succ, i64_w, i32_w]
             rfl
            refine pure_ (i := 18) (N := some 92) (v := ?_) (a' := ?_) #[true, true, true, true, true, true, true, true, true, true, true, true, true, true, true, true, true, true, true, false, false, false, false] rfl rfl (any_of HT_.out (by kernel_rfl)) (fun _ _ _ h => h) (Or.inl ⟨by rfl, ?_⟩) ?_ ?_
            rotate_left
            ·
             intro w'
             go_simp
             with_reducible rfl
            rotate_left
            ·
             simp only [Act.put, List.setIfInBounds_toArray, List.set_cons_zero, List.set_cons_succ, i64_w, i32_w]
             rfl
            refine pure_ (i := 19) (N := some 93) (v := ?_) (a' := ?_) #[true, true, true, true, true, true, true, true, true, true, true, true, true, true, true, true, true, true, true, true, false, false, false] rfl rfl (any_of HT_.out (by kernel_rfl)) (fun _ _ _ h => h) (Or.inl ⟨by rfl, ?_⟩) ?_ ?_
            rotate_left
            ·
             intro w'
             go_simp
             with_reducible rfl
            rotate_left
            ·
             simp only [Act.put, List.setIfInBounds_toArray, List.set_cons_zero, List.set_cons_succ, i64_w, i32_w]
             rfl
            refine one_ (i := 20) (N := some 12) #[true, true, true, true, true, true, true, true, true, true, true, true, true, true, true, true, true, true, true, true, true, false, false] rfl rfl (one_of HT_.out (by kernel_rfl)) (by decide) (fun K hK => ?_)
            refine box_step ?hg (N := 12) ?hd (cs := #[.int .u64 0, .int .u32 0, .slice none 0 0, .int .i64 0]) (t := 43) ?hr ?_; (case hd => rfl); (case hg => rfl); (case hr => first | (go_simp; done) | (go_simp; rfl))
            intro gb448 hg w62 hbox hb
            have HS4_ := (hb.cell (zb _ _ (hHeld.2.2.2.2.1))).trans (hHeld.2.2.2.2.1)
            have HS5_ := (hb.cell (zb _ _ (hHeld.2.2.2.2.2.1))).trans (hHeld.2.2.2.2.2.1)
            have HS6_ := (hb.cell (zb _ _ (hHeld.2.2.2.2.2.2.1))).trans (hHeld.2.2.2.2.2.2.1)
            have HS7_ := (hb.cell (zb _ _ (hHeld.2.2.2.2.2.2.2.1))).trans (hHeld.2.2.2.2.2.2.2.1)
            have HS8_ := (hb.cell (zb _ _ (hHeld.2.2.2.2.2.2.2.2.1))).trans (hHeld.2.2.2.2.2.2.2.2.1)
            have HS9_ := (hb.cell (zb _ _ (hHeld.2.2.2.2.2.2.2.2.2.1))).trans (hHeld.2.2.2.2.2.2.2.2.2.1)
            have HS10_ := (hb.cell (zb _ _ (hHeld.2.2.2.2.2.2.2.2.2.2.1))).trans (hHeld.2.2.2.2.2.2.2.2.2.2.1)
            have HS11_ := (hb.cell (zb _ _ (hHeld.2.2.2.2.2.2.2.2.2.2.2.1))).trans (hHeld.2.2.2.2.2.2.2.2.2.2.2.1)
            have HS12_ := (hb.cell (zb _ _ (hHeld.2.2.2.2.2.2.2.2.2.2.2.2))).trans (hHeld.2.2.2.2.2.2.2.2.2.2.2.2)
            have n0_ := zm (Kd.R_below (by (with_reducible repeat (first | apply zo | apply zp | apply zq)); exact HO_4.out) hb)
            have n1_ := zm (Kd.R_below (by (with_reducible repeat (first | apply zo | apply zp | apply zq)); exact HO_410002.out) hb)
            have n2_ := zm (Kd.V_below (Kd.V_elderB (by (with_reducible repeat (first | apply zA | apply zB | apply zC)); exact HO_434002.out) gb448 (Nat.le_of_eq hg.symm)) hb)
            have n3_ := zm (Kd.V_below (Kd.V_elderB (by (with_reducible repeat (first | apply zA | apply zB | apply zC)); exact HO445.out) gb448 (Nat.le_of_eq hg.symm)) hb)
            have n4_ := zm (zF (g := gb409) (o := .cells #[.int .u64 x410000_1, .int .u32 x410001_1, .slice Ao43 x410002_1.length co43] 26 (0, 0)) (by (with_reducible repeat (first | refine zh ?_ _ | refine zj ?_ | refine zi ?_ _)); exact BK409.out) hb)
            have n5_ := zm (zF (g := gb433) (o := .cells #[.int .u64 x434000_3, .int .u32 x434001_3, .slice Ao58 x434002_3.length co58, .int .i64 x434003_3] 43 (0, 0)) (by (with_reducible repeat (first | refine zh ?_ _ | refine zj ?_ | refine zi ?_ _)); exact BK433.out) hb)
            have n6_ := zm (zJ (by repeat (first | (with_reducible first | exact HB.out | apply ze | apply zd | apply zf | refine zk ?_ GE409.out | refine zk ?_ GE433.out) | exact HB.out)) hb)
            have n7_ := zm (hbox)
            have n8_ := zm ((by rw [hg]; exact (zE (by repeat (first | (with_reducible first | exact HB.out | apply ze | apply zd | apply zf | refine zk ?_ GE409.out | refine zk ?_ GE433.out) | exact HB.out))) : w.heap.size ≤ gb448))
            have n9_ := zm ((by rw [hg]; exact (zE (by repeat (first | (with_reducible first | exact HB.out | apply ze | apply zd | apply zf | refine zk ?_ GE409.out | refine zk ?_ GE433.out) | exact HB.out))) : w.heap.size ≤ gb448))
            have n10_ := zm ((by rw [hg]; exact zn (zD (g := gb409) (o := .cells #[.int .u64 x410000_1, .int .u32 x410001_1, .slice Ao43 x410002_1.length co43] 26 (0, 0)) (by (with_reducible repeat (first | refine zh ?_ _ | refine zj ?_ | refine zi ?_ _)); exact BK409.out)) : gb409 ≠ gb448))
            have n11_ := zm ((by rw [hg]; exact zg (zD (g := gb409) (o := .cells #[.int .u64 x410000_1, .int .u32 x410001_1, .slice Ao43 x410002_1.length co43] 26 (0, 0)) (by (with_reducible repeat (first | refine zh ?_ _ | refine zj ?_ | refine zi ?_ _)); exact BK409.out)) : gb448 ≠ gb409))
            have n12_ := zm ((by rw [hg]; exact zn (zD (g := gb433) (o := .cells #[.int .u64 x434000_3, .int .u32 x434001_3, .slice Ao58 x434002_3.length co58, .int .i64 x434003_3] 43 (0, 0)) (by (with_reducible repeat (first | refine zh ?_ _ | refine zj ?_ | refine zi ?_ _)); exact BK433.out)) : gb433 ≠ gb448))
            have n13_ := zm ((by rw [hg]; exact zg (zD (g := gb433) (o := .cells #[.int .u64 x434000_3, .int .u32 x434001_3, .slice Ao58 x434002_3.length co58, .int .i64 x434003_3] 43 (0, 0)) (by (with_reducible repeat (first | refine zh ?_ _ | refine zj ?_ | refine zi ?_ _)); exact BK433.out)) : gb448 ≠ gb433))
            clear HO_4
            clear HO_410002
            clear HO_434002
            clear HO445
            clear BK409
            clear BK433
            clear HB
            have HO_4 := n0_
            have HO_410002 := n1_
            have HO_434002 := n2_
            have HO445 := n3_
            have BK409 := n4_
            have BK433 := n5_
            have HB := n6_
            have BK448 := n7_
            have GW448 := n8_
            have GE448 := n9_
            have NB409_448 := n10_
            have NB448_409 := n11_
            have NB433_448 := n12_
            have NB448_433 := n13_
            clear n0_ n1_ n2_ n3_ n4_ n5_ n6_ n7_ n8_ n9_ n10_ n11_ n12_ n13_
            clear hb hbox hg
            refine hK.out _ _ ⟨(zs BK433.out 0).trans rfl, (zs BK433.out 1).trans rfl, (zs BK433.out 2).trans rfl, (zs BK433.out 3).trans rfl, HS4_, HS5_, HS6_, HS7_, HS8_, HS9_, HS10_, HS11_, HS12_⟩ (fun hHeld => ?_)
            clear hK K
            refine norm_ (a' := ?_) ?_ ?_
            rotate_left
            ·
             show Act.put _ (some 12) _ = _
             simp only [Act.put, List.setIfInBounds_toArray, List.set_cons_zero, List.set_cons_succ, i64_w, i32_w]
             rfl
            exact norm_ (by simp only [putAll, Act.put, List.setIfInBounds_toArray, List.set_cons_zero, List.set_cons_succ]) (hCont (v444, gb448) _ ⟨hHeld, (by (with_reducible repeat (first | apply zA | apply zB | apply zC)); exact zy HO445.out (fun _ hk => ⟨hk.1.1, ⟨hk.1.2.1, ⟨hk.1.2.2.1, ⟨hk.1.2.2.2, hk.2⟩⟩⟩⟩)), (by (with_reducible repeat (first | apply zo | apply zp | apply zq)); exact HO_4.out), (by (with_reducible repeat (first | apply zo | apply zp | apply zq)); exact HO_410002.out), (by (with_reducible repeat (first | apply zA | apply zB | apply zC)); exact zy HO_434002.out (fun _ hk => ⟨hk.1.1, ⟨hk.1.2.1, ⟨hk.1.2.2.1, ⟨hk.1.2.2.2, hk.2⟩⟩⟩⟩)), (by (with_reducible repeat (first | refine zh ?_ _ | refine zj ?_ | refine zi ?_ _)); exact BK409.out), (by (with_reducible repeat (first | refine zh ?_ _ | refine zj ?_ | refine zi ?_ _)); exact BK433.out), (by (with_reducible repeat (first | refine zh ?_ _ | refine zj ?_ | refine zi ?_ _)); exact BK448.out), GW448.out, GE448.out, NB409_448.out, NB448_409.out, NB433_448.out, NB448_433.out, (by repeat (first | (with_reducible first | exact HB.out | apply ze | apply zd | apply zf | refine zk ?_ GE409.out | refine zk ?_ GE433.out | refine zk ?_ GE448.out) | exact HB.out))⟩)
           ·
            skip
            refine box_step ?hg (N := 12) ?hd (cs := #[.int .u64 0, .int .u32 0, .slice none 0 0, .int .i64 0]) (t := 43) ?hr ?_; (case hd => rfl); (case hg => rfl); (case hr => first | (go_simp; done) | (go_simp; rfl))
            intro gb448 hg w61 hbox hb
            have HS4_ := (hb.cell (zb _ _ (hHeld.2.2.2.2.1))).trans (hHeld.2.2.2.2.1)
            have HS5_ := (hb.cell (zb _ _ (hHeld.2.2.2.2.2.1))).trans (hHeld.2.2.2.2.2.1)
            have HS6_ := (hb.cell (zb _ _ (hHeld.2.2.2.2.2.2.1))).trans (hHeld.2.2.2.2.2.2.1)
            have HS7_ := (hb.cell (zb _ _ (hHeld.2.2.2.2.2.2.2.1))).trans (hHeld.2.2.2.2.2.2.2.1)
            have HS8_ := (hb.cell (zb _ _ (hHeld.2.2.2.2.2.2.2.2.1))).trans (hHeld.2.2.2.2.2.2.2.2.1)
            have HS9_ := (hb.cell (zb _ _ (hHeld.2.2.2.2.2.2.2.2.2.1))).trans (hHeld.2.2.2.2.2.2.2.2.2.1)
            have HS10_ := (hb.cell (zb _ _ (hHeld.2.2.2.2.2.2.2.2.2.2.1))).trans (hHeld.2.2.2.2.2.2.2.2.2.2.1)
            have HS11_ := (hb.cell (zb _ _ (hHeld.2.2.2.2.2.2.2.2.2.2.2.1))).trans (hHeld.2.2.2.2.2.2.2.2.2.2.2.1)
            have HS12_ := (hb.cell (zb _ _ (hHeld.2.2.2.2.2.2.2.2.2.2.2.2))).trans (hHeld.2.2.2.2.2.2.2.2.2.2.2.2)
            have n0_ := zm (Kd.R_below (by (with_reducible repeat (first | apply zo | apply zp | apply zq)); exact HO_4.out) hb)
            have n1_ := zm (Kd.R_below (by (with_reducible repeat (first | apply zo | apply zp | apply zq)); exact HO_410002.out) hb)
            have n2_ := zm (Kd.V_below (Kd.V_elderB (by (with_reducible repeat (first | apply zA | apply zB | apply zC)); exact HO_434002.out) gb448 (Nat.le_of_eq hg.symm)) hb)
            have n3_ := zm (zF (g := gb409) (o := .cells #[.int .u64 x410000_1, .int .u32 x410001_1, .slice Ao43 x410002_1.length co43] 26 (0, 0)) (by (with_reducible repeat (first | refine zh ?_ _ | refine zj ?_ | refine zi ?_ _)); exact BK409.out) hb)
            have n4_ := zm (zF (g := gb433) (o := .cells #[.int .u64 x434000_3, .int .u32 x434001_3, .slice Ao58 x434002_3.length co58, .int .i64 x434003_3] 43 (0, 0)) (by (with_reducible repeat (first | refine zh ?_ _ | refine zj ?_ | refine zi ?_ _)); exact BK433.out) hb)
            have n5_ := zm (zJ (by repeat (first | (with_reducible first | exact HB.out | apply ze | apply zd | apply zf | refine zk ?_ GE409.out | refine zk ?_ GE433.out) | exact HB.out)) hb)
            have n6_ := zm (hbox)
            have n7_ := zm ((by rw [hg]; exact (zE (by repeat (first | (with_reducible first | exact HB.out | apply ze | apply zd | apply zf | refine zk ?_ GE409.out | refine zk ?_ GE433.out) | exact HB.out))) : w.heap.size ≤ gb448))
            have n8_ := zm ((by rw [hg]; exact (zE (by repeat (first | (with_reducible first | exact HB.out | apply ze | apply zd | apply zf | refine zk ?_ GE409.out | refine zk ?_ GE433.out) | exact HB.out))) : w.heap.size ≤ gb448))
            have n9_ := zm ((by rw [hg]; exact zn (zD (g := gb409) (o := .cells #[.int .u64 x410000_1, .int .u32 x410001_1, .slice Ao43 x410002_1.length co43] 26 (0, 0)) (by (with_reducible repeat (first | refine zh ?_ _ | refine zj ?_ | refine zi ?_ _)); exact BK409.out)) : gb409 ≠ gb448))
            have n10_ := zm ((by rw [hg]; exact zg (zD (g := gb409) (o := .cells #[.int .u64 x410000_1, .int .u32 x410001_1, .slice Ao43 x410002_1.length co43] 26 (0, 0)) (by (with_reducible repeat (first | refine zh ?_ _ | refine zj ?_ | refine zi ?_ _)); exact BK409.out)) : gb448 ≠ gb409))
            have n11_ := zm ((by rw [hg]; exact zn (zD (g := gb433) (o := .cells #[.int .u64 x434000_3, .int .u32 x434001_3, .slice Ao58 x434002_3.length co58, .int .i64 x434003_3] 43 (0, 0)) (by (with_reducible repeat (first | refine zh ?_ _ | refine zj ?_ | refine zi ?_ _)); exact BK433.out)) : gb433 ≠ gb448))
            have n12_ := zm ((by rw [hg]; exact zg (zD (g := gb433) (o := .cells #[.int .u64 x434000_3, .int .u32 x434001_3, .slice Ao58 x434002_3.length co58, .int .i64 x434003_3] 43 (0, 0)) (by (with_reducible repeat (first | refine zh ?_ _ | refine zj ?_ | refine zi ?_ _)); exact BK433.out)) : gb448 ≠ gb433))
            clear HO_4
            clear HO_410002
            clear HO_434002
            clear BK409
            clear BK433
            clear HB
            have HO_4 := n0_
            have HO_410002 := n1_
            have HO_434002 := n2_
            have BK409 := n3_
            have BK433 := n4_
            have HB := n5_
            have BK448 := n6_
            have GW448 := n7_
            have GE448 := n8_
            have NB409_448 := n9_
            have NB448_409 := n10_
            have NB433_448 := n11_
            have NB448_433 := n12_
            clear n0_ n1_ n2_ n3_ n4_ n5_ n6_ n7_ n8_ n9_ n10_ n11_ n12_
            clear hb hbox hg
            refine hK.out _ _ ⟨(zs BK433.out 0).trans rfl, (zs BK433.out 1).trans rfl, (zs BK433.out 2).trans rfl, (zs BK433.out 3).trans rfl, HS4_, HS5_, HS6_, HS7_, HS8_, HS9_, HS10_, HS11_, HS12_⟩ (fun hHeld => ?_)
            clear hK K
            refine norm_ (a' := ?_) ?_ ?_
            rotate_left
            ·
             show Act.put _ (some 12) _ = _
             simp only [Act.put, List.setIfInBounds_toArray, List.set_cons_zero, List.set_cons_succ, i64_w, i32_w]
             rfl
            refine one_ (i := 16) (N := some 91) #[true, true, true, true, true, true, true, true, true, true, true, true, true, true, true, true, true, false, false, false, true, false, false] rfl rfl (one_of HT_.out (by kernel_rfl)) (by decide) (fun K hK => ?_)
            refine goes_ Try.func34 (by kernel_rfl) rfl #[.agg #[.int .u64 x434000_3, .int .u32 x434001_3, .slice Ao58 x434002_3.length co58, .int .i64 x434003_3], .int .i64 ((rd_T53 x4_1 x9_3).f0), .int .i64 ((rd_T53 x4_1 x9_3).f1), .int .i64 ((rd_T53 x4_1 x9_3).f2)] (by rfl) rfl rfl (by (try simp only [List.map_toArray, List.map_cons, List.map_nil]); first | done | rfl | (simp only [List.length_drop, List.length_take]; rfl)) ?_
            with_reducible refine (coder_Take.calls k3 x434000_3 x434001_3 (fun k_ => ((some k_ ≠ (.slice (some ad435) x4_1.length co56 : Value).ownBlock ∧ (some k_ ≠ (.slice Ao43 x410002_1.length co43 : Value).ownBlock ∧ (k_ ≠ gb409 ∧ k_ ≠ gb433))) ∧ k_ ≠ gb448)) _ _ x434002_3 x434003_3 ((rd_T53 x4_1 x9_3).f0) ((rd_T53 x4_1 x9_3).f1) ((rd_T53 x4_1 x9_3).f2) t441 t442 t443 t446 t447 _ ?side1 A54.out).mono ?_
            (case side1 => exact HO_434002.out)
            rintro e w62 ⟨v444, rfl, ho0, hb⟩
            have HS4_ := (hb.cell (zb _ _ (hHeld.2.2.2.2.1))).trans (hHeld.2.2.2.2.1)
            have HS5_ := (hb.cell (zb _ _ (hHeld.2.2.2.2.2.1))).trans (hHeld.2.2.2.2.2.1)
            have HS6_ := (hb.cell (zb _ _ (hHeld.2.2.2.2.2.2.1))).trans (hHeld.2.2.2.2.2.2.1)
            have HS7_ := (hb.cell (zb _ _ (hHeld.2.2.2.2.2.2.2.1))).trans (hHeld.2.2.2.2.2.2.2.1)
            have HS8_ := (hb.cell (zb _ _ (hHeld.2.2.2.2.2.2.2.2.1))).trans (hHeld.2.2.2.2.2.2.2.2.1)
            have HS9_ := (hb.cell (zb _ _ (hHeld.2.2.2.2.2.2.2.2.2.1))).trans (hHeld.2.2.2.2.2.2.2.2.2.1)
            have HS10_ := (hb.cell (zb _ _ (hHeld.2.2.2.2.2.2.2.2.2.2.1))).trans (hHeld.2.2.2.2.2.2.2.2.2.2.1)
            have HS11_ := (hb.cell (zb _ _ (hHeld.2.2.2.2.2.2.2.2.2.2.2.1))).trans (hHeld.2.2.2.2.2.2.2.2.2.2.2.1)
            have HS12_ := (hb.cell (zb _ _ (hHeld.2.2.2.2.2.2.2.2.2.2.2.2))).trans (hHeld.2.2.2.2.2.2.2.2.2.2.2.2)
            refine ⟨_, rfl, ?_⟩
            have n0_ := zm (Kd.R_below (by (with_reducible repeat (first | apply zo | apply zp | apply zq)); exact HO_4.out) hb)
            have n1_ := zm (Kd.R_below (by (with_reducible repeat (first | apply zo | apply zp | apply zq)); exact HO_410002.out) hb)
            have n2_ := zm (Kd.V_below (by (with_reducible repeat (first | apply zA | apply zB | apply zC)); exact HO_434002.out) hb)
            have n3_ := zm (Kd.V_lower (zy (ok' := fun k_ => some k_ ≠ (.slice (some ad435) x4_1.length co56 : Value).ownBlock ∧ some k_ ≠ (.slice Ao43 x410002_1.length co43 : Value).ownBlock ∧ k_ ≠ gb409 ∧ k_ ≠ gb433 ∧ k_ ≠ gb448) ho0 (fun k_ hk_ => ⟨Or.elim hk_ (fun hs_ => hs_.1.1) (fun hn_ => (Kd.fresh' (Kd.R_lt (by (with_reducible repeat (first | apply zo | apply zp | apply zq)); exact HO_4.out)) k_ hn_)), Or.elim hk_ (fun hs_ => hs_.1.2.1) (fun hn_ => (Kd.fresh' (Kd.R_lt (by (with_reducible repeat (first | apply zo | apply zp | apply zq)); exact HO_410002.out)) k_ hn_)), Or.elim hk_ (fun hs_ => hs_.1.2.2.1) (fun hn_ => (Kd.freshB (g := gb409) (o := .cells #[.int .u64 x410000_1, .int .u32 x410001_1, .slice Ao43 x410002_1.length co43] 26 (0, 0)) (by (with_reducible repeat (first | refine zh ?_ _ | refine zj ?_ | refine zi ?_ _)); exact BK409.out) k_ hn_)), Or.elim hk_ (fun hs_ => hs_.1.2.2.2) (fun hn_ => (Kd.freshB (g := gb433) (o := .cells #[.int .u64 x434000_3, .int .u32 x434001_3, .slice Ao58 x434002_3.length co58, .int .i64 x434003_3] 43 (0, 0)) (by (with_reducible repeat (first | refine zh ?_ _ | refine zj ?_ | refine zi ?_ _)); exact BK433.out) k_ hn_)), Or.elim hk_ (fun hs_ => hs_.2) (fun hn_ => (Kd.freshB (g := gb448) (o := .cells #[.int .u64 0, .int .u32 0, .slice none 0 0, .int .i64 0] 43 (0, 0)) (by (with_reducible repeat (first | refine zh ?_ _ | refine zj ?_ | refine zi ?_ _)); exact BK448.out) k_ hn_))⟩)) (zE (by repeat (first | (with_reducible first | exact HB.out | apply ze | apply zd | apply zf | refine zk ?_ GE409.out | refine zk ?_ GE433.out | refine zk ?_ GE448.out) | exact HB.out))))
            have n4_ := zm (zF (g := gb409) (o := .cells #[.int .u64 x410000_1, .int .u32 x410001_1, .slice Ao43 x410002_1.length co43] 26 (0, 0)) (by (with_reducible repeat (first | refine zh ?_ _ | refine zj ?_ | refine zi ?_ _)); exact BK409.out) hb)
            have n5_ := zm (zF (g := gb433) (o := .cells #[.int .u64 x434000_3, .int .u32 x434001_3, .slice Ao58 x434002_3.length co58, .int .i64 x434003_3] 43 (0, 0)) (by (with_reducible repeat (first | refine zh ?_ _ | refine zj ?_ | refine zi ?_ _)); exact BK433.out) hb)
            have n6_ := zm (zF (g := gb448) (o := .cells #[.int .u64 0, .int .u32 0, .slice none 0 0, .int .i64 0] 43 (0, 0)) (by (with_reducible repeat (first | refine zh ?_ _ | refine zj ?_ | refine zi ?_ _)); exact BK448.out) hb)
            have n7_ := zm (zJ (by repeat (first | (with_reducible first | exact HB.out | apply ze | apply zd | apply zf | refine zk ?_ GE409.out | refine zk ?_ GE433.out | refine zk ?_ GE448.out) | exact HB.out)) hb)
            clear HO_4
            clear HO_410002
            clear HO_434002
            clear BK409
            clear BK433
            clear BK448
            clear HB
            have HO_4 := n0_
            have HO_410002 := n1_
            have HO_434002 := n2_
            have HO445 := n3_
            have BK409 := n4_
            have BK433 := n5_
            have BK448 := n6_
            have HB := n7_
            clear n0_ n1_ n2_ n3_ n4_ n5_ n6_ n7_
            (try clear hb)
            (try clear hb2)
            (try clear hk)
            (try clear hi)
            (try clear ho0)
            refine hK.out _ _ ⟨(zs BK433.out 0).trans rfl, (zs BK433.out 1).trans rfl, (zs BK433.out 2).trans rfl, (zs BK433.out 3).trans rfl, HS4_, HS5_, HS6_, HS7_, HS8_, HS9_, HS10_, HS11_, HS12_⟩ (fun hHeld => ?_)
            clear hK K
            refine norm_ (a' := ?_) ?_ ?_
            rotate_left
            ·
             show Act.put _ (some 91) _ = _
             simp only [Act.put, List.setIfInBounds_toArray, List.set_cons_zero, List.set_cons_succ, i64_w, i32_w]
             rfl
            refine pure_ (i := 17) (N := some 74) (v := ?_) (a' := ?_) #[true, true, true, true, true, true, true, true, true, true, true, true, true, true, true, true, true, true, false, false, true, false, false] rfl rfl (any_of HT_.out (by kernel_rfl)) (fun _ _ _ h => h) (Or.inl ⟨by rfl, ?_⟩) ?_ ?_
            rotate_left
            ·
             intro w'
             go_simp
             with_reducible rfl
            rotate_left
            ·
             simp only [Act.put, List.setIfInBounds_toArray, List.set_cons_zero, List.set_cons_succ, i64_w, i32_w]
             rfl
            refine pure_ (i := 18) (N := some 92) (v := ?_) (a' := ?_) #[true, true, true, true, true, true, true, true, true, true, true, true, true, true, true, true, true, true, true, false, true, false, false] rfl rfl (any_of HT_.out (by kernel_rfl)) (fun _ _ _ h => h) (Or.inl ⟨by rfl, ?_⟩) ?_ ?_
            rotate_left
            ·
             intro w'
             go_simp
             with_reducible rfl
            rotate_left
            ·
             simp only [Act.put, List.setIfInBounds_toArray, List.set_cons_zero, List.set_cons_succ, i64_w, i32_w]
             rfl
            refine pure_ (i := 19) (N := some 93) (v := ?_) (a' := ?_) #[true, true, true, true, true, true, true, true, true, true, true, true, true, true, true, true, true, true, true, true, true, false, false] rfl rfl (any_of HT_.out (by kernel_rfl)) (fun _ _ _ h => h) (Or.inl ⟨by rfl, ?_⟩) ?_ ?_
            rotate_left
            ·
             intro w'
             go_simp
             with_reducible rfl
            rotate_left
            ·
             simp only [Act.put, List.setIfInBounds_toArray, List.set_cons_zero, List.set_cons_succ, i64_w, i32_w]
             rfl
            exact norm_ (by simp only [putAll, Act.put, List.setIfInBounds_toArray, List.set_cons_zero, List.set_cons_succ]) (hCont (v444, gb448) _ ⟨hHeld, (by (with_reducible repeat (first | apply zA | apply zB | apply zC)); exact HO445.out), (by (with_reducible repeat (first | apply zo | apply zp | apply zq)); exact HO_4.out), (by (with_reducible repeat (first | apply zo | apply zp | apply zq)); exact HO_410002.out), (by (with_reducible repeat (first | apply zA | apply zB | apply zC)); exact zy HO_434002.out (fun _ hk => ⟨hk.1.1, ⟨hk.1.2.1, ⟨hk.1.2.2.1, ⟨hk.1.2.2.2, hk.2⟩⟩⟩⟩)), (by (with_reducible repeat (first | refine zh ?_ _ | refine zj ?_ | refine zi ?_ _)); exact BK409.out), (by (with_reducible repeat (first | refine zh ?_ _ | refine zj ?_ | refine zi ?_ _)); exact BK433.out), (by (with_reducible repeat (first | refine zh ?_ _ | refine zj ?_ | refine zi ?_ _)); exact BK448.out), GW448.out, GE448.out, NB409_448.out, NB448_409.out, NB433_448.out, NB448_433.out, (by repeat (first | (with_reducible first | exact HB.out | apply ze | apply zd | apply zf | refine zk ?_ GE409.out | refine zk ?_ GE433.out | refine zk ?_ GE448.out) | exact HB.out))⟩)
          rintro ⟨v444, gb448⟩ w63 ⟨hS_, h0_, h1_, h2_, h3_, h4_, h5_, h6_, h7_, h8_, h9_, h10_, h11_, h12_, h13_⟩
          have n0_ : Aside0 (Kd.V (Kd.int .u8) 5 w63 w.heap.size (fun k_ => some k_ ≠ (.slice (some ad435) x4_1.length co56 : Value).ownBlock ∧ some k_ ≠ (.slice Ao43 x410002_1.length co43 : Value).ownBlock ∧ k_ ≠ gb409 ∧ k_ ≠ gb433 ∧ k_ ≠ gb448) v444 t443) := ⟨h0_⟩
          have n1_ : Aside0 (Kd.R k53 53 w63 w.heap.size (fun _ => True) (.slice (some ad435) x4_1.length co56) x4_1) := ⟨h1_⟩
          have n2_ : Aside0 (Kd.R (Kd.int .u8) 5 w63 w.heap.size (fun _ => True) (.slice Ao43 x410002_1.length co43) x410002_1) := ⟨h2_⟩
          have n3_ : Aside0 (Kd.V (Kd.int .u8) 5 w63 w.heap.size (fun k_ => some k_ ≠ (.slice (some ad435) x4_1.length co56 : Value).ownBlock ∧ some k_ ≠ (.slice Ao43 x410002_1.length co43 : Value).ownBlock ∧ k_ ≠ gb409 ∧ k_ ≠ gb433 ∧ k_ ≠ gb448) (.slice Ao58 x434002_3.length co58) x434002_3) := ⟨h3_⟩
          have n4_ : Aside0 (w63.heap[gb409]? = some (.cells #[.int .u64 x410000_1, .int .u32 x410001_1, .slice Ao43 x410002_1.length co43] 26 (0, 0))) := ⟨h4_⟩
          have n5_ : Aside0 (w63.heap[gb433]? = some (.cells #[.int .u64 x434000_3, .int .u32 x434001_3, .slice Ao58 x434002_3.length co58, .int .i64 x434003_3] 43 (0, 0))) := ⟨h5_⟩
          have n6_ : Aside0 (w63.heap[gb448]? = some (.cells #[.int .u64 0, .int .u32 0, .slice none 0 0, .int .i64 0] 43 (0, 0))) := ⟨h6_⟩
          have n7_ : Aside0 (w.heap.size ≤ gb448) := ⟨h7_⟩
          have n8_ : Aside0 (w.heap.size ≤ gb448) := ⟨h8_⟩
          have n9_ : Aside0 (gb409 ≠ gb448) := ⟨h9_⟩
          have n10_ : Aside0 (gb448 ≠ gb409) := ⟨h10_⟩
          have n11_ : Aside0 (gb433 ≠ gb448) := ⟨h11_⟩
          have n12_ : Aside0 (gb448 ≠ gb433) := ⟨h12_⟩
          have n13_ : Aside0 (Below w.heap.size w w63) := ⟨h13_⟩
          clear HO_4
          clear HO_410002
          clear HO_434002
          clear BK409
          clear BK433
          clear HB
          clear h0_ h1_ h2_ h3_ h4_ h5_ h6_ h7_ h8_ h9_ h10_ h11_ h12_ h13_
          have HO445 := n0_
          have HO_4 := n1_
          have HO_410002 := n2_
          have HO_434002 := n3_
          have BK409 := n4_
          have BK433 := n5_
          have BK448 := n6_
          have GW448 := n7_
          have GE448 := n8_
          have NB409_448 := n9_
          have NB448_409 := n10_
          have NB433_448 := n11_
          have NB448_433 := n12_
          have HB := n13_
          clear n0_ n1_ n2_ n3_ n4_ n5_ n6_ n7_ n8_ n9_ n10_ n11_ n12_ n13_
          have hHeld : w63.cell? ⟨gb433, 0, none⟩ = some (.int .u64 x434000_3) ∧ w63.cell? ⟨gb433, 1, none⟩ = some (.int .u32 x434001_3) ∧ w63.cell? ⟨gb433, 2, none⟩ = some (.slice Ao58 x434002_3.length co58) ∧ w63.cell? ⟨gb433, 3, none⟩ = some (.int .i64 x434003_3) ∧ w63.cell? (ad435.add ((x9_3).toNat * 3)) = some (.int .i64 ((rd_T53 x4_1 x9_3).f0)) ∧ w63.cell? ⟨(ad435.add ((x9_3).toNat * 3)).block, (ad435.add ((x9_3).toNat * 3)).off + 1, none⟩ = some (.int .i64 ((rd_T53 x4_1 x9_3).f1)) ∧ w63.cell? ⟨(ad435.add ((x9_3).toNat * 3)).block, (ad435.add ((x9_3).toNat * 3)).off + 2, none⟩ = some (.int .i64 ((rd_T53 x4_1 x9_3).f2)) ∧ w63.cell? (ad435.add ((x9_3).toNat * 3)) = some (.int .i64 ((rd_T53 x4_1 x9_3).f0)) ∧ w63.cell? ⟨(ad435.add ((x9_3).toNat * 3)).block, (ad435.add ((x9_3).toNat * 3)).off + 1, none⟩ = some (.int .i64 ((rd_T53 x4_1 x9_3).f1)) ∧ w63.cell? ⟨(ad435.add ((x9_3).toNat * 3)).block, (ad435.add ((x9_3).toNat * 3)).off + 2, none⟩ = some (.int .i64 ((rd_T53 x4_1 x9_3).f2)) ∧ w63.cell? (ad435.add ((x9_3).toNat * 3)) = some (.int .i64 ((rd_T53 x4_1 x9_3).f0)) ∧ w63.cell? ⟨(ad435.add ((x9_3).toNat * 3)).block, (ad435.add ((x9_3).toNat * 3)).off + 1, none⟩ = some (.int .i64 ((rd_T53 x4_1 x9_3).f1)) ∧ w63.cell? ⟨(ad435.add ((x9_3).toNat * 3)).block, (ad435.add ((x9_3).toNat * 3)).off + 2, none⟩ = some (.int .i64 ((rd_T53 x4_1 x9_3).f2)) := hS_
          obtain ⟨Ao66, co66, eo66⟩ := Kd.V_slice HO445.out
          (first | subst eo66 | (injection eo66 with f1_ f2_ f3_; have f4_ := f1_.symm; have f5_ := f3_.symm; clear f1_ f2_ f3_; subst f4_; subst f5_))
          refine norm_ (a' := ?_) ?_ ?_
          rotate_left
          ·
           simp only [putAll, Act.put, List.setIfInBounds_toArray, List.set_cons_zero, List.set_cons_succ]
           rfl
          refine one_ (i := 21) (N := none) #[true, true, true, true, true, true, true, true, true, true, true, true, true, true, true, true, true, true, true, true, true, true, false] rfl rfl (one_of HT_.out (by kernel_rfl)) (by decide) (fun K hK => ?_)
          have hs64 : w63.cell? ⟨gb448, 0, none⟩ = some (.int .u64 0) := (zs BK448.out 0).trans rfl
          have hfs64 := zx BK448.out 0
          have hns64_0 := NB409_448.out
          have hns64_1 := NB433_448.out
          have hms64_0 := NB448_409.out
          have hms64_1 := NB448_433.out
          have hs65 : w63.cell? ⟨gb448, 1, none⟩ = some (.int .u32 0) := (zs BK448.out 1).trans rfl
          have hfs65 := zx BK448.out 1
          have hns65_0 := NB409_448.out
          have hns65_1 := NB433_448.out
          have hms65_0 := NB448_409.out
          have hms65_1 := NB448_433.out
          have hs67 : w63.cell? ⟨gb448, 2, none⟩ = some (.slice none 0 0) := (zs BK448.out 2).trans rfl
          have hfs67 := zx BK448.out 2
          have hns67_0 := NB409_448.out
          have hns67_1 := NB433_448.out
          have hms67_0 := NB448_409.out
          have hms67_1 := NB448_433.out
          have hs68 : w63.cell? ⟨gb448, 3, none⟩ = some (.int .i64 0) := (zs BK448.out 3).trans rfl
          have hfs68 := zx BK448.out 3
          have hns68_0 := NB409_448.out
          have hns68_1 := NB433_448.out
          have hms68_0 := NB448_409.out
          have hms68_1 := NB448_433.out
          refine skip_ (w1 := ?_) (by rfl) rfl ?_ ?_
          rotate_left
          ·
           go_simp
           rfl
          refine hK.out _ _ ⟨((zr (p := ⟨gb448, _, none⟩) NB433_448.out _).trans (((zr (p := ⟨gb448, _, none⟩) NB433_448.out _).trans (((zr (p := ⟨gb448, _, none⟩) NB433_448.out _).trans (((zr (p := ⟨gb448, _, none⟩) NB433_448.out _).trans (hHeld.1)))))))), ((zr (p := ⟨gb448, _, none⟩) NB433_448.out _).trans (((zr (p := ⟨gb448, _, none⟩) NB433_448.out _).trans (((zr (p := ⟨gb448, _, none⟩) NB433_448.out _).trans (((zr (p := ⟨gb448, _, none⟩) NB433_448.out _).trans (hHeld.2.1)))))))), ((zr (p := ⟨gb448, _, none⟩) NB433_448.out _).trans (((zr (p := ⟨gb448, _, none⟩) NB433_448.out _).trans (((zr (p := ⟨gb448, _, none⟩) NB433_448.out _).trans (((zr (p := ⟨gb448, _, none⟩) NB433_448.out _).trans (hHeld.2.2.1)))))))), ((zr (p := ⟨gb448, _, none⟩) NB433_448.out _).trans (((zr (p := ⟨gb448, _, none⟩) NB433_448.out _).trans (((zr (p := ⟨gb448, _, none⟩) NB433_448.out _).trans (((zr (p := ⟨gb448, _, none⟩) NB433_448.out _).trans (hHeld.2.2.2.1)))))))), ((zr (p := ⟨gb448, _, none⟩) (by first | exact zt (zu HO_4.out BK448.out (by decide)) | (rw [za]; exact zt (zu HO_4.out BK448.out (by decide))) | (show (Addr.add _ _).block ≠ _; rw [za]; exact zt (zu HO_4.out BK448.out (by decide))) | (dsimp only; exact zt (zu HO_4.out BK448.out (by decide)))) _).trans (((zr (p := ⟨gb448, _, none⟩) (by first | exact zt (zu HO_4.out BK448.out (by decide)) | (rw [za]; exact zt (zu HO_4.out BK448.out (by decide))) | (show (Addr.add _ _).block ≠ _; rw [za]; exact zt (zu HO_4.out BK448.out (by decide))) | (dsimp only; exact zt (zu HO_4.out BK448.out (by decide)))) _).trans (((zr (p := ⟨gb448, _, none⟩) (by first | exact zt (zu HO_4.out BK448.out (by decide)) | (rw [za]; exact zt (zu HO_4.out BK448.out (by decide))) | (show (Addr.add _ _).block ≠ _; rw [za]; exact zt (zu HO_4.out BK448.out (by decide))) | (dsimp only; exact zt (zu HO_4.out BK448.out (by decide)))) _).trans (((zr (p := ⟨gb448, _, none⟩) (by first | exact zt (zu HO_4.out BK448.out (by decide)) | (rw [za]; exact zt (zu HO_4.out BK448.out (by decide))) | (show (Addr.add _ _).block ≠ _; rw [za]; exact zt (zu HO_4.out BK448.out (by decide))) | (dsimp only; exact zt (zu HO_4.out BK448.out (by decide)))) _).trans (hHeld.2.2.2.2.1)))))))), ((zr (p := ⟨gb448, _, none⟩) (by first | exact zt (zu HO_4.out BK448.out (by decide)) | (rw [za]; exact zt (zu HO_4.out BK448.out (by decide))) | (show (Addr.add _ _).block ≠ _; rw [za]; exact zt (zu HO_4.out BK448.out (by decide))) | (dsimp only; exact zt (zu HO_4.out BK448.out (by decide)))) _).trans (((zr (p := ⟨gb448, _, none⟩) (by first | exact zt (zu HO_4.out BK448.out (by decide)) | (rw [za]; exact zt (zu HO_4.out BK448.out (by decide))) | (show (Addr.add _ _).block ≠ _; rw [za]; exact zt (zu HO_4.out BK448.out (by decide))) | (dsimp only; exact zt (zu HO_4.out BK448.out (by decide)))) _).trans (((zr (p := ⟨gb448, _, none⟩) (by first | exact zt (zu HO_4.out BK448.out (by decide)) | (rw [za]; exact zt (zu HO_4.out BK448.out (by decide))) | (show (Addr.add _ _).block ≠ _; rw [za]; exact zt (zu HO_4.out BK448.out (by decide))) | (dsimp only; exact zt (zu HO_4.out BK448.out (by decide)))) _).trans (((zr (p := ⟨gb448, _, none⟩) (by first | exact zt (zu HO_4.out BK448.out (by decide)) | (rw [za]; exact zt (zu HO_4.out BK448.out (by decide))) | (show (Addr.add _ _).block ≠ _; rw [za]; exact zt (zu HO_4.out BK448.out (by decide))) | (dsimp only; exact zt (zu HO_4.out BK448.out (by decide)))) _).trans (hHeld.2.2.2.2.2.1)))))))), ((zr (p := ⟨gb448, _, none⟩) (by first | exact zt (zu HO_4.out BK448.out (by decide)) | (rw [za]; exact zt (zu HO_4.out BK448.out (by decide))) | (show (Addr.add _ _).block ≠ _; rw [za]; exact zt (zu HO_4.out BK448.out (by decide))) | (dsimp only; exact zt (zu HO_4.out BK448.out (by decide)))) _).trans (((zr (p := ⟨gb448, _, none⟩) (by first | exact zt (zu HO_4.out BK448.out (by decide)) | (rw [za]; exact zt (zu HO_4.out BK448.out (by decide))) | (show (Addr.add _ _).block ≠ _; rw [za]; exact zt (zu HO_4.out BK448.out (by decide))) | (dsimp only; exact zt (zu HO_4.out BK448.out (by decide)))) _).trans (((zr (p := ⟨gb448, _, none⟩) (by first | exact zt (zu HO_4.out BK448.out (by decide)) | (rw [za]; exact zt (zu HO_4.out BK448.out (by decide))) | (show (Addr.add _ _).block ≠ _; rw [za]; exact zt (zu HO_4.out BK448.out (by decide))) | (dsimp only; exact zt (zu HO_4.out BK448.out (by decide)))) _).trans (((zr (p := ⟨gb448, _, none⟩) (by first | exact zt (zu HO_4.out BK448.out (by decide)) | (rw [za]; exact zt (zu HO_4.out BK448.out (by decide))) | (show (Addr.add _ _).block ≠ _; rw [za]; exact zt (zu HO_4.out BK448.out (by decide))) | (dsimp only; exact zt (zu HO_4.out BK448.out (by decide)))) _).trans (hHeld.2.2.2.2.2.2.1)))))))), ((zr (p := ⟨gb448, _, none⟩) (by first | exact zt (zu HO_4.out BK448.out (by decide)) | (rw [za]; exact zt (zu HO_4.out BK448.out (by decide))) | (show (Addr.add _ _).block ≠ _; rw [za]; exact zt (zu HO_4.out BK448.out (by decide))) | (dsimp only; exact zt (zu HO_4.out BK448.out (by decide)))) _).trans (((zr (p := ⟨gb448, _, none⟩) (by first | exact zt (zu HO_4.out BK448.out (by decide)) | (rw [za]; exact zt (zu HO_4.out BK448.out (by decide))) | (show (Addr.add _ _).block ≠ _; rw [za]; exact zt (zu HO_4.out BK448.out (by decide))) | (dsimp only; exact zt (zu HO_4.out BK448.out (by decide)))) _).trans (((zr (p := ⟨gb448, _, none⟩) (by first | exact zt (zu HO_4.out BK448.out (by decide)) | (rw [za]; exact zt (zu HO_4.out BK448.out (by decide))) | (show (Addr.add _ _).block ≠ _; rw [za]; exact zt (zu HO_4.out BK448.out (by decide))) | (dsimp only; exact zt (zu HO_4.out BK448.out (by decide)))) _).trans (((zr (p := ⟨gb448, _, none⟩) (by first | exact zt (zu HO_4.out BK448.out (by decide)) | (rw [za]; exact zt (zu HO_4.out BK448.out (by decide))) | (show (Addr.add _ _).block ≠ _; rw [za]; exact zt (zu HO_4.out BK448.out (by decide))) | (dsimp only; exact zt (zu HO_4.out BK448.out (by decide)))) _).trans (hHeld.2.2.2.2.2.2.2.1)))))))), ((zr (p := ⟨gb448, _, none⟩) (by first | exact zt (zu HO_4.out BK448.out (by decide)) | (rw [za]; exact zt (zu HO_4.out BK448.out (by decide))) | (show (Addr.add _ _).block ≠ _; rw [za]; exact zt (zu HO_4.out BK448.out (by decide))) | (dsimp only; exact zt (zu HO_4.out BK448.out (by decide)))) _).trans (((zr (p := ⟨gb448, _, none⟩) (by first | exact zt (zu HO_4.out BK448.out (by decide)) | (rw [za]; exact zt (zu HO_4.out BK448.out (by decide))) | (show (Addr.add _ _).block ≠ _; rw [za]; exact zt (zu HO_4.out BK448.out (by decide))) | (dsimp only; exact zt (zu HO_4.out BK448.out (by decide)))) _).trans (((zr (p := ⟨gb448, _, none⟩) (by first | exact zt (zu HO_4.out BK448.out (by decide)) | (rw [za]; exact zt (zu HO_4.out BK448.out (by decide))) | (show (Addr.add _ _).block ≠ _; rw [za]; exact zt (zu HO_4.out BK448.out (by decide))) | (dsimp only; exact zt (zu HO_4.out BK448.out (by decide)))) _).trans (((zr (p := ⟨gb448, _, none⟩) (by first | exact zt (zu HO_4.out BK448.out (by decide)) | (rw [za]; exact zt (zu HO_4.out BK448.out (by decide))) | (show (Addr.add _ _).block ≠ _; rw [za]; exact zt (zu HO_4.out BK448.out (by decide))) | (dsimp only; exact zt (zu HO_4.out BK448.out (by decide)))) _).trans (hHeld.2.2.2.2.2.2.2.2.1)))))))), ((zr (p := ⟨gb448, _, none⟩) (by first | exact zt (zu HO_4.out BK448.out (by decide)) | (rw [za]; exact zt (zu HO_4.out BK448.out (by decide))) | (show (Addr.add _ _).block ≠ _; rw [za]; exact zt (zu HO_4.out BK448.out (by decide))) | (dsimp only; exact zt (zu HO_4.out BK448.out (by decide)))) _).trans (((zr (p := ⟨gb448, _, none⟩) (by first | exact zt (zu HO_4.out BK448.out (by decide)) | (rw [za]; exact zt (zu HO_4.out BK448.out (by decide))) | (show (Addr.add _ _).block ≠ _; rw [za]; exact zt (zu HO_4.out BK448.out (by decide))) | (dsimp only; exact zt (zu HO_4.out BK448.out (by decide)))) _).trans (((zr (p := ⟨gb448, _, none⟩) (by first | exact zt (zu HO_4.out BK448.out (by decide)) | (rw [za]; exact zt (zu HO_4.out BK448.out (by decide))) | (show (Addr.add _ _).block ≠ _; rw [za]; exact zt (zu HO_4.out BK448.out (by decide))) | (dsimp only; exact zt (zu HO_4.out BK448.out (by decide)))) _).trans (((zr (p := ⟨gb448, _, none⟩) (by first | exact zt (zu HO_4.out BK448.out (by decide)) | (rw [za]; exact zt (zu HO_4.out BK448.out (by decide))) | (show (Addr.add _ _).block ≠ _; rw [za]; exact zt (zu HO_4.out BK448.out (by decide))) | (dsimp only; exact zt (zu HO_4.out BK448.out (by decide)))) _).trans (hHeld.2.2.2.2.2.2.2.2.2.1)))))))), ((zr (p := ⟨gb448, _, none⟩) (by first | exact zt (zu HO_4.out BK448.out (by decide)) | (rw [za]; exact zt (zu HO_4.out BK448.out (by decide))) | (show (Addr.add _ _).block ≠ _; rw [za]; exact zt (zu HO_4.out BK448.out (by decide))) | (dsimp only; exact zt (zu HO_4.out BK448.out (by decide)))) _).trans (((zr (p := ⟨gb448, _, none⟩) (by first | exact zt (zu HO_4.out BK448.out (by decide)) | (rw [za]; exact zt (zu HO_4.out BK448.out (by decide))) | (show (Addr.add _ _).block ≠ _; rw [za]; exact zt (zu HO_4.out BK448.out (by decide))) | (dsimp only; exact zt (zu HO_4.out BK448.out (by decide)))) _).trans (((zr (p := ⟨gb448, _, none⟩) (by first | exact zt (zu HO_4.out BK448.out (by decide)) | (rw [za]; exact zt (zu HO_4.out BK448.out (by decide))) | (show (Addr.add _ _).block ≠ _; rw [za]; exact zt (zu HO_4.out BK448.out (by decide))) | (dsimp only; exact zt (zu HO_4.out BK448.out (by decide)))) _).trans (((zr (p := ⟨gb448, _, none⟩) (by first | exact zt (zu HO_4.out BK448.out (by decide)) | (rw [za]; exact zt (zu HO_4.out BK448.out (by decide))) | (show (Addr.add _ _).block ≠ _; rw [za]; exact zt (zu HO_4.out BK448.out (by decide))) | (dsimp only; exact zt (zu HO_4.out BK448.out (by decide)))) _).trans (hHeld.2.2.2.2.2.2.2.2.2.2.1)))))))), ((zr (p := ⟨gb448, _, none⟩) (by first | exact zt (zu HO_4.out BK448.out (by decide)) | (rw [za]; exact zt (zu HO_4.out BK448.out (by decide))) | (show (Addr.add _ _).block ≠ _; rw [za]; exact zt (zu HO_4.out BK448.out (by decide))) | (dsimp only; exact zt (zu HO_4.out BK448.out (by decide)))) _).trans (((zr (p := ⟨gb448, _, none⟩) (by first | exact zt (zu HO_4.out BK448.out (by decide)) | (rw [za]; exact zt (zu HO_4.out BK448.out (by decide))) | (show (Addr.add _ _).block ≠ _; rw [za]; exact zt (zu HO_4.out BK448.out (by decide))) | (dsimp only; exact zt (zu HO_4.out BK448.out (by decide)))) _).trans (((zr (p := ⟨gb448, _, none⟩) (by first | exact zt (zu HO_4.out BK448.out (by decide)) | (rw [za]; exact zt (zu HO_4.out BK448.out (by decide))) | (show (Addr.add _ _).block ≠ _; rw [za]; exact zt (zu HO_4.out BK448.out (by decide))) | (dsimp only; exact zt (zu HO_4.out BK448.out (by decide)))) _).trans (((zr (p := ⟨gb448, _, none⟩) (by first | exact zt (zu HO_4.out BK448.out (by decide)) | (rw [za]; exact zt (zu HO_4.out BK448.out (by decide))) | (show (Addr.add _ _).block ≠ _; rw [za]; exact zt (zu HO_4.out BK448.out (by decide))) | (dsimp only; exact zt (zu HO_4.out BK448.out (by decide)))) _).trans (hHeld.2.2.2.2.2.2.2.2.2.2.2.1)))))))), ((zr (p := ⟨gb448, _, none⟩) (by first | exact zt (zu HO_4.out BK448.out (by decide)) | (rw [za]; exact zt (zu HO_4.out BK448.out (by decide))) | (show (Addr.add _ _).block ≠ _; rw [za]; exact zt (zu HO_4.out BK448.out (by decide))) | (dsimp only; exact zt (zu HO_4.out BK448.out (by decide)))) _).trans (((zr (p := ⟨gb448, _, none⟩) (by first | exact zt (zu HO_4.out BK448.out (by decide)) | (rw [za]; exact zt (zu HO_4.out BK448.out (by decide))) | (show (Addr.add _ _).block ≠ _; rw [za]; exact zt (zu HO_4.out BK448.out (by decide))) | (dsimp only; exact zt (zu HO_4.out BK448.out (by decide)))) _).trans (((zr (p := ⟨gb448, _, none⟩) (by first | exact zt (zu HO_4.out BK448.out (by decide)) | (rw [za]; exact zt (zu HO_4.out BK448.out (by decide))) | (show (Addr.add _ _).block ≠ _; rw [za]; exact zt (zu HO_4.out BK448.out (by decide))) | (dsimp only; exact zt (zu HO_4.out BK448.out (by decide)))) _).trans (((zr (p := ⟨gb448, _, none⟩) (by first | exact zt (zu HO_4.out BK448.out (by decide)) | (rw [za]; exact zt (zu HO_4.out BK448.out (by decide))) | (show (Addr.add _ _).block ≠ _; rw [za]; exact zt (zu HO_4.out BK448.out (by decide))) | (dsimp only; exact zt (zu HO_4.out BK448.out (by decide)))) _).trans (hHeld.2.2.2.2.2.2.2.2.2.2.2.2))))))))⟩ (fun hHeld => ?_)
          clear hK K
          refine pure_ (i := 22) (N := some 13) (v := ?_) (a' := ?_) #[true, true, true, true, true, true, true, true, true, true, true, true, true, true, true, true, true, true, true, true, true, true, true] rfl rfl (any_of HT_.out (by kernel_rfl)) (fun _ _ _ h => h) (Or.inl ⟨by rfl, ?_⟩) ?_ ?_
          rotate_left
          ·
           intro w'
           go_simp
           with_reducible rfl
          rotate_left
          ·
           simp only [Act.put, List.setIfInBounds_toArray, List.set_cons_zero, List.set_cons_succ, i64_w, i32_w]
           rfl
          refine done_ (done_of HT_.out (by kernel_rfl)) ?_
          go_upto_region 16 with (fail)
          go_cut [117] (fun v117 wc => ∃ (kq : Nat) (x117_54 : Bool), v117 = .bool x117_54 ∧ Aside0 (psalterylaw05_CoderBack.j3 kq x4_1 x9_3 x117_54 t441 t442 t443 t446 = some r) ∧ Aside0 (kq ≤ k3) ∧ Aside0 (Kd.R k53 53 wc w.heap.size (fun _ => True) (.slice (some ad435) x4_1.length co56) x4_1) ∧ Aside0 (Kd.R (Kd.int .u8) 5 wc w.heap.size (fun _ => True) (.slice Ao43 x410002_1.length co43) x410002_1) ∧ Aside0 (Kd.V (Kd.int .u8) 5 wc w.heap.size (fun k_ => some k_ ≠ ((.slice (some ad435) x4_1.length co56) : Value).ownBlock ∧ some k_ ≠ ((.slice Ao43 x410002_1.length co43) : Value).ownBlock ∧ k_ ≠ gb409 ∧ k_ ≠ gb433 ∧ k_ ≠ gb448) (.slice Ao58 x434002_3.length co58) x434002_3) ∧ Aside0 (Kd.V (Kd.int .u8) 5 wc w.heap.size (fun k_ => some k_ ≠ ((.slice (some ad435) x4_1.length co56) : Value).ownBlock ∧ some k_ ≠ ((.slice Ao43 x410002_1.length co43) : Value).ownBlock ∧ k_ ≠ gb409 ∧ k_ ≠ gb433 ∧ k_ ≠ gb448) (.slice Ao66 t443.length co66) t443) ∧ Aside0 (wc.heap[gb409]? = some (.cells #[.int .u64 x410000_1, .int .u32 x410001_1, (.slice Ao43 x410002_1.length co43)] 26 (0, 0))) ∧ Aside0 (wc.heap[gb433]? = some (.cells #[.int .u64 x434000_3, .int .u32 x434001_3, (.slice Ao58 x434002_3.length co58), .int .i64 x434003_3] 43 (0, 0))) ∧ Aside0 (wc.heap[gb448]? = some (.cells #[.int .u64 t441, .int .u32 t442, (.slice Ao66 t443.length co66), .int .i64 t446] 43 (0, 0))) ∧ Aside0 (Below w.heap.size w wc))
          case first =>
           have H := HC55.out
           clear HC55
           by_cases c69 : t437 = 0
           ·
            rw [if_pos c69] at H
            have c69b0 : (t437 == 0) = true := beq_iff_eq.mpr c69
            have c69b1 : (t437 != 0) = false := bne_eq_false_iff_eq.mpr c69
            clear c69
            (first | rw [c69b0] | (simp only [i64_w, i32_w]; rw [c69b0]) | skip)
            by_cases c70 : t447 = 0
            ·
             rw [if_pos c70] at H
             have c70b0 : (t447 == 0) = true := beq_iff_eq.mpr c70
             have c70b1 : (t447 != 0) = false := bne_eq_false_iff_eq.mpr c70
             clear c70
             by_cases c71 : t436 < ((rd_T53 x4_1 x9_3).f0)
             ·
              rw [if_pos c71] at H
              have c71b0 : decide (t436 < ((rd_T53 x4_1 x9_3).f0)) = true := decide_eq_true c71
              clear c71
              have H' := zm H
              clear H
              have p449 : 0 ≤ (x9_3 : Int) := of_decide_eq_true (by first | (with_reducible assumption) | assumption)
              have q449 : x9_3 < (x4_1.length : Int) := of_decide_eq_true (by first | (with_reducible assumption) | assumption)
              obtain ⟨ad449, e449, hx449_0, hx449_1, hx449_2⟩ := at_T53 (Kd.R_reads' HO_4.out).2.2 x9_3 p449 q449
              obtain rfl : ad435 = ad449 := (by injection e449)
              have hn449_0 : ad435.block ≠ gb448 := zt (zu HO_4.out BK448.out (by decide))
              have hn449_1 : ad435.block ≠ gb448 := zt (zu HO_4.out BK448.out (by decide))
              have hn449_2 : ad435.block ≠ gb448 := zt (zu HO_4.out BK448.out (by decide))
              have hn449_3 : ad435.block ≠ gb448 := zt (zu HO_4.out BK448.out (by decide))
              replace hx449_0 := (zr (p := ⟨gb448, 0, none⟩) (by first | (rw [za]; exact hn449_0) | (show (Addr.add _ _).block ≠ _; rw [za]; exact hn449_0) | exact hn449_0) (.int .u64 t441)).trans hx449_0
              replace hx449_1 := (zr (p := ⟨gb448, 0, none⟩) (by first | (rw [za]; exact hn449_0) | (show (Addr.add _ _).block ≠ _; rw [za]; exact hn449_0) | exact hn449_0) (.int .u64 t441)).trans hx449_1
              replace hx449_2 := (zr (p := ⟨gb448, 0, none⟩) (by first | (rw [za]; exact hn449_0) | (show (Addr.add _ _).block ≠ _; rw [za]; exact hn449_0) | exact hn449_0) (.int .u64 t441)).trans hx449_2
              replace hx449_0 := (zr (p := ⟨gb448, 1, none⟩) (by first | (rw [za]; exact hn449_1) | (show (Addr.add _ _).block ≠ _; rw [za]; exact hn449_1) | exact hn449_1) (.int .u32 t442)).trans hx449_0
              replace hx449_1 := (zr (p := ⟨gb448, 1, none⟩) (by first | (rw [za]; exact hn449_1) | (show (Addr.add _ _).block ≠ _; rw [za]; exact hn449_1) | exact hn449_1) (.int .u32 t442)).trans hx449_1
              replace hx449_2 := (zr (p := ⟨gb448, 1, none⟩) (by first | (rw [za]; exact hn449_1) | (show (Addr.add _ _).block ≠ _; rw [za]; exact hn449_1) | exact hn449_1) (.int .u32 t442)).trans hx449_2
              replace hx449_0 := (zr (p := ⟨gb448, 2, none⟩) (by first | (rw [za]; exact hn449_2) | (show (Addr.add _ _).block ≠ _; rw [za]; exact hn449_2) | exact hn449_2) (.slice Ao66 t443.length co66)).trans hx449_0
              replace hx449_1 := (zr (p := ⟨gb448, 2, none⟩) (by first | (rw [za]; exact hn449_2) | (show (Addr.add _ _).block ≠ _; rw [za]; exact hn449_2) | exact hn449_2) (.slice Ao66 t443.length co66)).trans hx449_1
              replace hx449_2 := (zr (p := ⟨gb448, 2, none⟩) (by first | (rw [za]; exact hn449_2) | (show (Addr.add _ _).block ≠ _; rw [za]; exact hn449_2) | exact hn449_2) (.slice Ao66 t443.length co66)).trans hx449_2
              replace hx449_0 := (zr (p := ⟨gb448, 3, none⟩) (by first | (rw [za]; exact hn449_3) | (show (Addr.add _ _).block ≠ _; rw [za]; exact hn449_3) | exact hn449_3) (.int .i64 t446)).trans hx449_0
              replace hx449_1 := (zr (p := ⟨gb448, 3, none⟩) (by first | (rw [za]; exact hn449_3) | (show (Addr.add _ _).block ≠ _; rw [za]; exact hn449_3) | exact hn449_3) (.int .i64 t446)).trans hx449_1
              replace hx449_2 := (zr (p := ⟨gb448, 3, none⟩) (by first | (rw [za]; exact hn449_3) | (show (Addr.add _ _).block ≠ _; rw [za]; exact hn449_3) | exact hn449_3) (.int .i64 t446)).trans hx449_2
              clear hn449_0
              clear hn449_1
              clear hn449_2
              clear hn449_3
              replace p449 := eq_true p449
              replace q449 := eq_true q449
              go_wp2
              go_meet
              case rel => exact ⟨_, (true), (by first | rfl | (simp; done) | (simp [*]; done)), H', ⟨by have := HK1.out; have := HJ6.out; have := HK3.out; first | omega | exact Nat.le_refl _⟩, ⟨by (with_reducible repeat (first | apply zo | apply zp | apply zq)); exact zG (zH (p := ⟨gb448, 3, none⟩) (zH (p := ⟨gb448, 2, none⟩) (zH (p := ⟨gb448, 1, none⟩) (zH (p := ⟨gb448, 0, none⟩) (Kd.R_types HO_4.out BK448.out (by decide)) (fun _ hk => hk.2) (.int .u64 t441)) (fun _ hk => hk.2) (.int .u32 t442)) (fun _ hk => hk.2) (.slice Ao66 t443.length co66)) (fun _ hk => hk.2) (.int .i64 t446)) (fun _ hk => trivial)⟩, ⟨by (with_reducible repeat (first | apply zo | apply zp | apply zq)); exact zG (zH (p := ⟨gb448, 3, none⟩) (zH (p := ⟨gb448, 2, none⟩) (zH (p := ⟨gb448, 1, none⟩) (zH (p := ⟨gb448, 0, none⟩) (Kd.R_types HO_410002.out BK448.out (by decide)) (fun _ hk => hk.2) (.int .u64 t441)) (fun _ hk => hk.2) (.int .u32 t442)) (fun _ hk => hk.2) (.slice Ao66 t443.length co66)) (fun _ hk => hk.2) (.int .i64 t446)) (fun _ hk => trivial)⟩, ⟨by (with_reducible repeat (first | apply zA | apply zB | apply zC)); exact zy (zI (p := ⟨gb448, 3, none⟩) (zI (p := ⟨gb448, 2, none⟩) (zI (p := ⟨gb448, 1, none⟩) (zI (p := ⟨gb448, 0, none⟩) (zy HO_434002.out (fun k_ hk => (⟨hk, hk.2.2.2.2⟩ : _ ∧ k_ ≠ gb448))) (fun _ hk => hk.2) (.int .u64 t441)) (fun _ hk => hk.2) (.int .u32 t442)) (fun _ hk => hk.2) (.slice Ao66 t443.length co66)) (fun _ hk => hk.2) (.int .i64 t446)) (fun _ hk => ⟨hk.1.1, ⟨hk.1.2.1, ⟨hk.1.2.2.1, ⟨hk.1.2.2.2.1, hk.1.2.2.2.2⟩⟩⟩⟩)⟩, ⟨by (with_reducible repeat (first | apply zA | apply zB | apply zC)); exact zy (zI (p := ⟨gb448, 3, none⟩) (zI (p := ⟨gb448, 2, none⟩) (zI (p := ⟨gb448, 1, none⟩) (zI (p := ⟨gb448, 0, none⟩) (zy HO445.out (fun k_ hk => (⟨hk, hk.2.2.2.2⟩ : _ ∧ k_ ≠ gb448))) (fun _ hk => hk.2) (.int .u64 t441)) (fun _ hk => hk.2) (.int .u32 t442)) (fun _ hk => hk.2) (.slice Ao66 t443.length co66)) (fun _ hk => hk.2) (.int .i64 t446)) (fun _ hk => ⟨hk.1.1, ⟨hk.1.2.1, ⟨hk.1.2.2.1, ⟨hk.1.2.2.2.1, hk.1.2.2.2.2⟩⟩⟩⟩)⟩, ⟨by (with_reducible repeat (first | refine zh ?_ _ | refine zj ?_ | refine zi ?_ _)); refine zv ?_ NB409_448.out _; (with_reducible repeat (first | refine zh ?_ _ | refine zj ?_ | refine zi ?_ _)); refine zv ?_ NB409_448.out _; (with_reducible repeat (first | refine zh ?_ _ | refine zj ?_ | refine zi ?_ _)); refine zv ?_ NB409_448.out _; (with_reducible repeat (first | refine zh ?_ _ | refine zj ?_ | refine zi ?_ _)); refine zv ?_ NB409_448.out _; (with_reducible repeat (first | refine zh ?_ _ | refine zj ?_ | refine zi ?_ _)); exact BK409.out⟩, ⟨by (with_reducible repeat (first | refine zh ?_ _ | refine zj ?_ | refine zi ?_ _)); refine zv ?_ NB433_448.out _; (with_reducible repeat (first | refine zh ?_ _ | refine zj ?_ | refine zi ?_ _)); refine zv ?_ NB433_448.out _; (with_reducible repeat (first | refine zh ?_ _ | refine zj ?_ | refine zi ?_ _)); refine zv ?_ NB433_448.out _; (with_reducible repeat (first | refine zh ?_ _ | refine zj ?_ | refine zi ?_ _)); refine zv ?_ NB433_448.out _; (with_reducible repeat (first | refine zh ?_ _ | refine zj ?_ | refine zi ?_ _)); exact BK433.out⟩, ⟨by (with_reducible repeat (first | refine zh ?_ _ | refine zj ?_ | refine zi ?_ _)); refine zw (cs := #[.int .u64 t441, .int .u32 t442, .slice Ao66 t443.length co66, .int .i64 0]) ?_ 3 _ rfl; (with_reducible repeat (first | refine zh ?_ _ | refine zj ?_ | refine zi ?_ _)); refine zw (cs := #[.int .u64 t441, .int .u32 t442, .slice none 0 0, .int .i64 0]) ?_ 2 _ rfl; (with_reducible repeat (first | refine zh ?_ _ | refine zj ?_ | refine zi ?_ _)); refine zw (cs := #[.int .u64 t441, .int .u32 0, .slice none 0 0, .int .i64 0]) ?_ 1 _ rfl; (with_reducible repeat (first | refine zh ?_ _ | refine zj ?_ | refine zi ?_ _)); refine zw (cs := #[.int .u64 0, .int .u32 0, .slice none 0 0, .int .i64 0]) ?_ 0 _ rfl; (with_reducible repeat (first | refine zh ?_ _ | refine zj ?_ | refine zi ?_ _)); exact BK448.out⟩, ⟨by repeat (first | (with_reducible first | exact HB.out | apply ze | apply zd | apply zf | refine zk ?_ GE409.out | refine zk ?_ GE433.out | refine zk ?_ GE448.out) | exact HB.out)⟩⟩
             ·
              rw [if_neg c71] at H
              have c71b0 : decide (t436 < ((rd_T53 x4_1 x9_3).f0)) = false := decide_eq_false c71
              clear c71
              have H' := zm H
              clear H
              have p449 : 0 ≤ (x9_3 : Int) := of_decide_eq_true (by first | (with_reducible assumption) | assumption)
              have q449 : x9_3 < (x4_1.length : Int) := of_decide_eq_true (by first | (with_reducible assumption) | assumption)
              obtain ⟨ad449, e449, hx449_0, hx449_1, hx449_2⟩ := at_T53 (Kd.R_reads' HO_4.out).2.2 x9_3 p449 q449
              obtain rfl : ad435 = ad449 := (by injection e449)
              have hn449_0 : ad435.block ≠ gb448 := zt (zu HO_4.out BK448.out (by decide))
              have hn449_1 : ad435.block ≠ gb448 := zt (zu HO_4.out BK448.out (by decide))
              have hn449_2 : ad435.block ≠ gb448 := zt (zu HO_4.out BK448.out (by decide))
              have hn449_3 : ad435.block ≠ gb448 := zt (zu HO_4.out BK448.out (by decide))
              replace hx449_0 := (zr (p := ⟨gb448, 0, none⟩) (by first | (rw [za]; exact hn449_0) | (show (Addr.add _ _).block ≠ _; rw [za]; exact hn449_0) | exact hn449_0) (.int .u64 t441)).trans hx449_0
              replace hx449_1 := (zr (p := ⟨gb448, 0, none⟩) (by first | (rw [za]; exact hn449_0) | (show (Addr.add _ _).block ≠ _; rw [za]; exact hn449_0) | exact hn449_0) (.int .u64 t441)).trans hx449_1
              replace hx449_2 := (zr (p := ⟨gb448, 0, none⟩) (by first | (rw [za]; exact hn449_0) | (show (Addr.add _ _).block ≠ _; rw [za]; exact hn449_0) | exact hn449_0) (.int .u64 t441)).trans hx449_2
              replace hx449_0 := (zr (p := ⟨gb448, 1, none⟩) (by first | (rw [za]; exact hn449_1) | (show (Addr.add _ _).block ≠ _; rw [za]; exact hn449_1) | exact hn449_1) (.int .u32 t442)).trans hx449_0
              replace hx449_1 := (zr (p := ⟨gb448, 1, none⟩) (by first | (rw [za]; exact hn449_1) | (show (Addr.add _ _).block ≠ _; rw [za]; exact hn449_1) | exact hn449_1) (.int .u32 t442)).trans hx449_1
              replace hx449_2 := (zr (p := ⟨gb448, 1, none⟩) (by first | (rw [za]; exact hn449_1) | (show (Addr.add _ _).block ≠ _; rw [za]; exact hn449_1) | exact hn449_1) (.int .u32 t442)).trans hx449_2
              replace hx449_0 := (zr (p := ⟨gb448, 2, none⟩) (by first | (rw [za]; exact hn449_2) | (show (Addr.add _ _).block ≠ _; rw [za]; exact hn449_2) | exact hn449_2) (.slice Ao66 t443.length co66)).trans hx449_0
              replace hx449_1 := (zr (p := ⟨gb448, 2, none⟩) (by first | (rw [za]; exact hn449_2) | (show (Addr.add _ _).block ≠ _; rw [za]; exact hn449_2) | exact hn449_2) (.slice Ao66 t443.length co66)).trans hx449_1
              replace hx449_2 := (zr (p := ⟨gb448, 2, none⟩) (by first | (rw [za]; exact hn449_2) | (show (Addr.add _ _).block ≠ _; rw [za]; exact hn449_2) | exact hn449_2) (.slice Ao66 t443.length co66)).trans hx449_2
              replace hx449_0 := (zr (p := ⟨gb448, 3, none⟩) (by first | (rw [za]; exact hn449_3) | (show (Addr.add _ _).block ≠ _; rw [za]; exact hn449_3) | exact hn449_3) (.int .i64 t446)).trans hx449_0
              replace hx449_1 := (zr (p := ⟨gb448, 3, none⟩) (by first | (rw [za]; exact hn449_3) | (show (Addr.add _ _).block ≠ _; rw [za]; exact hn449_3) | exact hn449_3) (.int .i64 t446)).trans hx449_1
              replace hx449_2 := (zr (p := ⟨gb448, 3, none⟩) (by first | (rw [za]; exact hn449_3) | (show (Addr.add _ _).block ≠ _; rw [za]; exact hn449_3) | exact hn449_3) (.int .i64 t446)).trans hx449_2
              clear hn449_0
              clear hn449_1
              clear hn449_2
              clear hn449_3
              replace p449 := eq_true p449
              replace q449 := eq_true q449
              have p450 : 0 ≤ (x9_3 : Int) := of_decide_eq_true (by first | (with_reducible assumption) | assumption)
              have q450 : x9_3 < (x4_1.length : Int) := of_decide_eq_true (by first | (with_reducible assumption) | assumption)
              obtain ⟨ad450, e450, hx450_0, hx450_1, hx450_2⟩ := at_T53 (Kd.R_reads' HO_4.out).2.2 x9_3 p450 q450
              obtain rfl : ad435 = ad450 := (by injection e450)
              have hn450_0 : ad435.block ≠ gb448 := zt (zu HO_4.out BK448.out (by decide))
              have hn450_1 : ad435.block ≠ gb448 := zt (zu HO_4.out BK448.out (by decide))
              have hn450_2 : ad435.block ≠ gb448 := zt (zu HO_4.out BK448.out (by decide))
              have hn450_3 : ad435.block ≠ gb448 := zt (zu HO_4.out BK448.out (by decide))
              replace hx450_0 := (zr (p := ⟨gb448, 0, none⟩) (by first | (rw [za]; exact hn450_0) | (show (Addr.add _ _).block ≠ _; rw [za]; exact hn450_0) | exact hn450_0) (.int .u64 t441)).trans hx450_0
              replace hx450_1 := (zr (p := ⟨gb448, 0, none⟩) (by first | (rw [za]; exact hn450_0) | (show (Addr.add _ _).block ≠ _; rw [za]; exact hn450_0) | exact hn450_0) (.int .u64 t441)).trans hx450_1
              replace hx450_2 := (zr (p := ⟨gb448, 0, none⟩) (by first | (rw [za]; exact hn450_0) | (show (Addr.add _ _).block ≠ _; rw [za]; exact hn450_0) | exact hn450_0) (.int .u64 t441)).trans hx450_2
              replace hx450_0 := (zr (p := ⟨gb448, 1, none⟩) (by first | (rw [za]; exact hn450_1) | (show (Addr.add _ _).block ≠ _; rw [za]; exact hn450_1) | exact hn450_1) (.int .u32 t442)).trans hx450_0
              replace hx450_1 := (zr (p := ⟨gb448, 1, none⟩) (by first | (rw [za]; exact hn450_1) | (show (Addr.add _ _).block ≠ _; rw [za]; exact hn450_1) | exact hn450_1) (.int .u32 t442)).trans hx450_1
              replace hx450_2 := (zr (p := ⟨gb448, 1, none⟩) (by first | (rw [za]; exact hn450_1) | (show (Addr.add _ _).block ≠ _; rw [za]; exact hn450_1) | exact hn450_1) (.int .u32 t442)).trans hx450_2
              replace hx450_0 := (zr (p := ⟨gb448, 2, none⟩) (by first | (rw [za]; exact hn450_2) | (show (Addr.add _ _).block ≠ _; rw [za]; exact hn450_2) | exact hn450_2) (.slice Ao66 t443.length co66)).trans hx450_0
              replace hx450_1 := (zr (p := ⟨gb448, 2, none⟩) (by first | (rw [za]; exact hn450_2) | (show (Addr.add _ _).block ≠ _; rw [za]; exact hn450_2) | exact hn450_2) (.slice Ao66 t443.length co66)).trans hx450_1
              replace hx450_2 := (zr (p := ⟨gb448, 2, none⟩) (by first | (rw [za]; exact hn450_2) | (show (Addr.add _ _).block ≠ _; rw [za]; exact hn450_2) | exact hn450_2) (.slice Ao66 t443.length co66)).trans hx450_2
              replace hx450_0 := (zr (p := ⟨gb448, 3, none⟩) (by first | (rw [za]; exact hn450_3) | (show (Addr.add _ _).block ≠ _; rw [za]; exact hn450_3) | exact hn450_3) (.int .i64 t446)).trans hx450_0
              replace hx450_1 := (zr (p := ⟨gb448, 3, none⟩) (by first | (rw [za]; exact hn450_3) | (show (Addr.add _ _).block ≠ _; rw [za]; exact hn450_3) | exact hn450_3) (.int .i64 t446)).trans hx450_1
              replace hx450_2 := (zr (p := ⟨gb448, 3, none⟩) (by first | (rw [za]; exact hn450_3) | (show (Addr.add _ _).block ≠ _; rw [za]; exact hn450_3) | exact hn450_3) (.int .i64 t446)).trans hx450_2
              clear hn450_0
              clear hn450_1
              clear hn450_2
              clear hn450_3
              replace p450 := eq_true p450
              replace q450 := eq_true q450
              go_wp2
              go_meet
              case rel => exact ⟨_, (decide (t436 ≥ ((rd_T53 x4_1 x9_3).f1))), (by first | rfl | (simp; done) | (simp [*]; done)), H', ⟨by have := HK1.out; have := HJ6.out; have := HK3.out; first | omega | exact Nat.le_refl _⟩, ⟨by (with_reducible repeat (first | apply zo | apply zp | apply zq)); exact zG (zH (p := ⟨gb448, 3, none⟩) (zH (p := ⟨gb448, 2, none⟩) (zH (p := ⟨gb448, 1, none⟩) (zH (p := ⟨gb448, 0, none⟩) (Kd.R_types HO_4.out BK448.out (by decide)) (fun _ hk => hk.2) (.int .u64 t441)) (fun _ hk => hk.2) (.int .u32 t442)) (fun _ hk => hk.2) (.slice Ao66 t443.length co66)) (fun _ hk => hk.2) (.int .i64 t446)) (fun _ hk => trivial)⟩, ⟨by (with_reducible repeat (first | apply zo | apply zp | apply zq)); exact zG (zH (p := ⟨gb448, 3, none⟩) (zH (p := ⟨gb448, 2, none⟩) (zH (p := ⟨gb448, 1, none⟩) (zH (p := ⟨gb448, 0, none⟩) (Kd.R_types HO_410002.out BK448.out (by decide)) (fun _ hk => hk.2) (.int .u64 t441)) (fun _ hk => hk.2) (.int .u32 t442)) (fun _ hk => hk.2) (.slice Ao66 t443.length co66)) (fun _ hk => hk.2) (.int .i64 t446)) (fun _ hk => trivial)⟩, ⟨by (with_reducible repeat (first | apply zA | apply zB | apply zC)); exact zy (zI (p := ⟨gb448, 3, none⟩) (zI (p := ⟨gb448, 2, none⟩) (zI (p := ⟨gb448, 1, none⟩) (zI (p := ⟨gb448, 0, none⟩) (zy HO_434002.out (fun k_ hk => (⟨hk, hk.2.2.2.2⟩ : _ ∧ k_ ≠ gb448))) (fun _ hk => hk.2) (.int .u64 t441)) (fun _ hk => hk.2) (.int .u32 t442)) (fun _ hk => hk.2) (.slice Ao66 t443.length co66)) (fun _ hk => hk.2) (.int .i64 t446)) (fun _ hk => ⟨hk.1.1, ⟨hk.1.2.1, ⟨hk.1.2.2.1, ⟨hk.1.2.2.2.1, hk.1.2.2.2.2⟩⟩⟩⟩)⟩, ⟨by (with_reducible repeat (first | apply zA | apply zB | apply zC)); exact zy (zI (p := ⟨gb448, 3, none⟩) (zI (p := ⟨gb448, 2, none⟩) (zI (p := ⟨gb448, 1, none⟩) (zI (p := ⟨gb448, 0, none⟩) (zy HO445.out (fun k_ hk => (⟨hk, hk.2.2.2.2⟩ : _ ∧ k_ ≠ gb448))) (fun _ hk => hk.2) (.int .u64 t441)) (fun _ hk => hk.2) (.int .u32 t442)) (fun _ hk => hk.2) (.slice Ao66 t443.length co66)) (fun _ hk => hk.2) (.int .i64 t446)) (fun _ hk => ⟨hk.1.1, ⟨hk.1.2.1, ⟨hk.1.2.2.1, ⟨hk.1.2.2.2.1, hk.1.2.2.2.2⟩⟩⟩⟩)⟩, ⟨by (with_reducible repeat (first | refine zh ?_ _ | refine zj ?_ | refine zi ?_ _)); refine zv ?_ NB409_448.out _; (with_reducible repeat (first | refine zh ?_ _ | refine zj ?_ | refine zi ?_ _)); refine zv ?_ NB409_448.out _; (with_reducible repeat (first | refine zh ?_ _ | refine zj ?_ | refine zi ?_ _)); refine zv ?_ NB409_448.out _; (with_reducible repeat (first | refine zh ?_ _ | refine zj ?_ | refine zi ?_ _)); refine zv ?_ NB409_448.out _; (with_reducible repeat (first | refine zh ?_ _ | refine zj ?_ | refine zi ?_ _)); exact BK409.out⟩, ⟨by (with_reducible repeat (first | refine zh ?_ _ | refine zj ?_ | refine zi ?_ _)); refine zv ?_ NB433_448.out _; (with_reducible repeat (first | refine zh ?_ _ | refine zj ?_ | refine zi ?_ _)); refine zv ?_ NB433_448.out _; (with_reducible repeat (first | refine zh ?_ _ | refine zj ?_ | refine zi ?_ _)); refine zv ?_ NB433_448.out _; (with_reducible repeat (first | refine zh ?_ _ | refine zj ?_ | refine zi ?_ _)); refine zv ?_ NB433_448.out _; (with_reducible repeat (first | refine zh ?_ _ | refine zj ?_ | refine zi ?_ _)); exact BK433.out⟩, ⟨by (with_reducible repeat (first | refine zh ?_ _ | refine zj ?_ | refine zi ?_ _)); refine zw (cs := #[.int .u64 t441, .int .u32 t442, .slice Ao66 t443.length co66, .int .i64 0]) ?_ 3 _ rfl; (with_reducible repeat (first | refine zh ?_ _ | refine zj ?_ | refine zi ?_ _)); refine zw (cs := #[.int .u64 t441, .int .u32 t442, .slice none 0 0, .int .i64 0]) ?_ 2 _ rfl; (with_reducible repeat (first | refine zh ?_ _ | refine zj ?_ | refine zi ?_ _)); refine zw (cs := #[.int .u64 t441, .int .u32 0, .slice none 0 0, .int .i64 0]) ?_ 1 _ rfl; (with_reducible repeat (first | refine zh ?_ _ | refine zj ?_ | refine zi ?_ _)); refine zw (cs := #[.int .u64 0, .int .u32 0, .slice none 0 0, .int .i64 0]) ?_ 0 _ rfl; (with_reducible repeat (first | refine zh ?_ _ | refine zj ?_ | refine zi ?_ _)); exact BK448.out⟩, ⟨by repeat (first | (with_reducible first | exact HB.out | apply ze | apply zd | apply zf | refine zk ?_ GE409.out | refine zk ?_ GE433.out | refine zk ?_ GE448.out) | exact HB.out)⟩⟩
            ·
             rw [if_neg c70] at H
             have c70b0 : (t447 == 0) = false := beq_eq_false_iff_ne.mpr c70
             have c70b1 : (t447 != 0) = true := bne_iff_ne.mpr c70
             have H' := zm H
             clear H
             go_wp2
             go_meet
             case rel => exact ⟨_, (true), (by first | rfl | (simp; done) | (simp [*]; done)), H', ⟨by have := HK1.out; have := HJ6.out; have := HK3.out; first | omega | exact Nat.le_refl _⟩, ⟨by (with_reducible repeat (first | apply zo | apply zp | apply zq)); exact zG (zH (p := ⟨gb448, 3, none⟩) (zH (p := ⟨gb448, 2, none⟩) (zH (p := ⟨gb448, 1, none⟩) (zH (p := ⟨gb448, 0, none⟩) (Kd.R_types HO_4.out BK448.out (by decide)) (fun _ hk => hk.2) (.int .u64 t441)) (fun _ hk => hk.2) (.int .u32 t442)) (fun _ hk => hk.2) (.slice Ao66 t443.length co66)) (fun _ hk => hk.2) (.int .i64 t446)) (fun _ hk => trivial)⟩, ⟨by (with_reducible repeat (first | apply zo | apply zp | apply zq)); exact zG (zH (p := ⟨gb448, 3, none⟩) (zH (p := ⟨gb448, 2, none⟩) (zH (p := ⟨gb448, 1, none⟩) (zH (p := ⟨gb448, 0, none⟩) (Kd.R_types HO_410002.out BK448.out (by decide)) (fun _ hk => hk.2) (.int .u64 t441)) (fun _ hk => hk.2) (.int .u32 t442)) (fun _ hk => hk.2) (.slice Ao66 t443.length co66)) (fun _ hk => hk.2) (.int .i64 t446)) (fun _ hk => trivial)⟩, ⟨by (with_reducible repeat (first | apply zA | apply zB | apply zC)); exact zy (zI (p := ⟨gb448, 3, none⟩) (zI (p := ⟨gb448, 2, none⟩) (zI (p := ⟨gb448, 1, none⟩) (zI (p := ⟨gb448, 0, none⟩) (zy HO_434002.out (fun k_ hk => (⟨hk, hk.2.2.2.2⟩ : _ ∧ k_ ≠ gb448))) (fun _ hk => hk.2) (.int .u64 t441)) (fun _ hk => hk.2) (.int .u32 t442)) (fun _ hk => hk.2) (.slice Ao66 t443.length co66)) (fun _ hk => hk.2) (.int .i64 t446)) (fun _ hk => ⟨hk.1.1, ⟨hk.1.2.1, ⟨hk.1.2.2.1, ⟨hk.1.2.2.2.1, hk.1.2.2.2.2⟩⟩⟩⟩)⟩, ⟨by (with_reducible repeat (first | apply zA | apply zB | apply zC)); exact zy (zI (p := ⟨gb448, 3, none⟩) (zI (p := ⟨gb448, 2, none⟩) (zI (p := ⟨gb448, 1, none⟩) (zI (p := ⟨gb448, 0, none⟩) (zy HO445.out (fun k_ hk => (⟨hk, hk.2.2.2.2⟩ : _ ∧ k_ ≠ gb448))) (fun _ hk => hk.2) (.int .u64 t441)) (fun _ hk => hk.2) (.int .u32 t442)) (fun _ hk => hk.2) (.slice Ao66 t443.length co66)) (fun _ hk => hk.2) (.int .i64 t446)) (fun _ hk => ⟨hk.1.1, ⟨hk.1.2.1, ⟨hk.1.2.2.1, ⟨hk.1.2.2.2.1, hk.1.2.2.2.2⟩⟩⟩⟩)⟩, ⟨by (with_reducible repeat (first | refine zh ?_ _ | refine zj ?_ | refine zi ?_ _)); refine zv ?_ NB409_448.out _; (with_reducible repeat (first | refine zh ?_ _ | refine zj ?_ | refine zi ?_ _)); refine zv ?_ NB409_448.out _; (with_reducible repeat (first | refine zh ?_ _ | refine zj ?_ | refine zi ?_ _)); refine zv ?_ NB409_448.out _; (with_reducible repeat (first | refine zh ?_ _ | refine zj ?_ | refine zi ?_ _)); refine zv ?_ NB409_448.out _; (with_reducible repeat (first | refine zh ?_ _ | refine zj ?_ | refine zi ?_ _)); exact BK409.out⟩, ⟨by (with_reducible repeat (first | refine zh ?_ _ | refine zj ?_ | refine zi ?_ _)); refine zv ?_ NB433_448.out _; (with_reducible repeat (first | refine zh ?_ _ | refine zj ?_ | refine zi ?_ _)); refine zv ?_ NB433_448.out _; (with_reducible repeat (first | refine zh ?_ _ | refine zj ?_ | refine zi ?_ _)); refine zv ?_ NB433_448.out _; (with_reducible repeat (first | refine zh ?_ _ | refine zj ?_ | refine zi ?_ _)); refine zv ?_ NB433_448.out _; (with_reducible repeat (first | refine zh ?_ _ | refine zj ?_ | refine zi ?_ _)); exact BK433.out⟩, ⟨by (with_reducible repeat (first | refine zh ?_ _ | refine zj ?_ | refine zi ?_ _)); refine zw (cs := #[.int .u64 t441, .int .u32 t442, .slice Ao66 t443.length co66, .int .i64 0]) ?_ 3 _ rfl; (with_reducible repeat (first | refine zh ?_ _ | refine zj ?_ | refine zi ?_ _)); refine zw (cs := #[.int .u64 t441, .int .u32 t442, .slice none 0 0, .int .i64 0]) ?_ 2 _ rfl; (with_reducible repeat (first | refine zh ?_ _ | refine zj ?_ | refine zi ?_ _)); refine zw (cs := #[.int .u64 t441, .int .u32 0, .slice none 0 0, .int .i64 0]) ?_ 1 _ rfl; (with_reducible repeat (first | refine zh ?_ _ | refine zj ?_ | refine zi ?_ _)); refine zw (cs := #[.int .u64 0, .int .u32 0, .slice none 0 0, .int .i64 0]) ?_ 0 _ rfl; (with_reducible repeat (first | refine zh ?_ _ | refine zj ?_ | refine zi ?_ _)); exact BK448.out⟩, ⟨by repeat (first | (with_reducible first | exact HB.out | apply ze | apply zd | apply zf | refine zk ?_ GE409.out | refine zk ?_ GE433.out | refine zk ?_ GE448.out) | exact HB.out)⟩⟩
           ·
            rw [if_neg c69] at H
            have c69b0 : (t437 == 0) = false := beq_eq_false_iff_ne.mpr c69
            have c69b1 : (t437 != 0) = true := bne_iff_ne.mpr c69
            (first | rw [c69b0] | (simp only [i64_w, i32_w]; rw [c69b0]) | skip)
            have H' := zm H
            clear H
            go_wp2
            go_meet
            case rel => exact ⟨_, (true), (by first | rfl | (simp; done) | (simp [*]; done)), H', ⟨by have := HK1.out; have := HJ6.out; have := HK3.out; first | omega | exact Nat.le_refl _⟩, ⟨by (with_reducible repeat (first | apply zo | apply zp | apply zq)); exact zG (zH (p := ⟨gb448, 3, none⟩) (zH (p := ⟨gb448, 2, none⟩) (zH (p := ⟨gb448, 1, none⟩) (zH (p := ⟨gb448, 0, none⟩) (Kd.R_types HO_4.out BK448.out (by decide)) (fun _ hk => hk.2) (.int .u64 t441)) (fun _ hk => hk.2) (.int .u32 t442)) (fun _ hk => hk.2) (.slice Ao66 t443.length co66)) (fun _ hk => hk.2) (.int .i64 t446)) (fun _ hk => trivial)⟩, ⟨by (with_reducible repeat (first | apply zo | apply zp | apply zq)); exact zG (zH (p := ⟨gb448, 3, none⟩) (zH (p := ⟨gb448, 2, none⟩) (zH (p := ⟨gb448, 1, none⟩) (zH (p := ⟨gb448, 0, none⟩) (Kd.R_types HO_410002.out BK448.out (by decide)) (fun _ hk => hk.2) (.int .u64 t441)) (fun _ hk => hk.2) (.int .u32 t442)) (fun _ hk => hk.2) (.slice Ao66 t443.length co66)) (fun _ hk => hk.2) (.int .i64 t446)) (fun _ hk => trivial)⟩, ⟨by (with_reducible repeat (first | apply zA | apply zB | apply zC)); exact zy (zI (p := ⟨gb448, 3, none⟩) (zI (p := ⟨gb448, 2, none⟩) (zI (p := ⟨gb448, 1, none⟩) (zI (p := ⟨gb448, 0, none⟩) (zy HO_434002.out (fun k_ hk => (⟨hk, hk.2.2.2.2⟩ : _ ∧ k_ ≠ gb448))) (fun _ hk => hk.2) (.int .u64 t441)) (fun _ hk => hk.2) (.int .u32 t442)) (fun _ hk => hk.2) (.slice Ao66 t443.length co66)) (fun _ hk => hk.2) (.int .i64 t446)) (fun _ hk => ⟨hk.1.1, ⟨hk.1.2.1, ⟨hk.1.2.2.1, ⟨hk.1.2.2.2.1, hk.1.2.2.2.2⟩⟩⟩⟩)⟩, ⟨by (with_reducible repeat (first | apply zA | apply zB | apply zC)); exact zy (zI (p := ⟨gb448, 3, none⟩) (zI (p := ⟨gb448, 2, none⟩) (zI (p := ⟨gb448, 1, none⟩) (zI (p := ⟨gb448, 0, none⟩) (zy HO445.out (fun k_ hk => (⟨hk, hk.2.2.2.2⟩ : _ ∧ k_ ≠ gb448))) (fun _ hk => hk.2) (.int .u64 t441)) (fun _ hk => hk.2) (.int .u32 t442)) (fun _ hk => hk.2) (.slice Ao66 t443.length co66)) (fun _ hk => hk.2) (.int .i64 t446)) (fun _ hk => ⟨hk.1.1, ⟨hk.1.2.1, ⟨hk.1.2.2.1, ⟨hk.1.2.2.2.1, hk.1.2.2.2.2⟩⟩⟩⟩)⟩, ⟨by (with_reducible repeat (first | refine zh ?_ _ | refine zj ?_ | refine zi ?_ _)); refine zv ?_ NB409_448.out _; (with_reducible repeat (first | refine zh ?_ _ | refine zj ?_ | refine zi ?_ _)); refine zv ?_ NB409_448.out _; (with_reducible repeat (first | refine zh ?_ _ | refine zj ?_ | refine zi ?_ _)); refine zv ?_ NB409_448.out _; (with_reducible repeat (first | refine zh ?_ _ | refine zj ?_ | refine zi ?_ _)); refine zv ?_ NB409_448.out _; (with_reducible repeat (first | refine zh ?_ _ | refine zj ?_ | refine zi ?_ _)); exact BK409.out⟩, ⟨by (with_reducible repeat (first | refine zh ?_ _ | refine zj ?_ | refine zi ?_ _)); refine zv ?_ NB433_448.out _; (with_reducible repeat (first | refine zh ?_ _ | refine zj ?_ | refine zi ?_ _)); refine zv ?_ NB433_448.out _; (with_reducible repeat (first | refine zh ?_ _ | refine zj ?_ | refine zi ?_ _)); refine zv ?_ NB433_448.out _; (with_reducible repeat (first | refine zh ?_ _ | refine zj ?_ | refine zi ?_ _)); refine zv ?_ NB433_448.out _; (with_reducible repeat (first | refine zh ?_ _ | refine zj ?_ | refine zi ?_ _)); exact BK433.out⟩, ⟨by (with_reducible repeat (first | refine zh ?_ _ | refine zj ?_ | refine zi ?_ _)); refine zw (cs := #[.int .u64 t441, .int .u32 t442, .slice Ao66 t443.length co66, .int .i64 0]) ?_ 3 _ rfl; (with_reducible repeat (first | refine zh ?_ _ | refine zj ?_ | refine zi ?_ _)); refine zw (cs := #[.int .u64 t441, .int .u32 t442, .slice none 0 0, .int .i64 0]) ?_ 2 _ rfl; (with_reducible repeat (first | refine zh ?_ _ | refine zj ?_ | refine zi ?_ _)); refine zw (cs := #[.int .u64 t441, .int .u32 0, .slice none 0 0, .int .i64 0]) ?_ 1 _ rfl; (with_reducible repeat (first | refine zh ?_ _ | refine zj ?_ | refine zi ?_ _)); refine zw (cs := #[.int .u64 0, .int .u32 0, .slice none 0 0, .int .i64 0]) ?_ 0 _ rfl; (with_reducible repeat (first | refine zh ?_ _ | refine zj ?_ | refine zi ?_ _)); exact BK448.out⟩, ⟨by repeat (first | (with_reducible first | exact HB.out | apply ze | apply zd | apply zf | refine zk ?_ GE409.out | refine zk ?_ GE433.out | refine zk ?_ GE448.out) | exact HB.out)⟩⟩
          case rest =>
           clear HC55
           try clear p2
           try clear c3
           try clear p4
           try clear q4
           try clear hx4
           try clear c6
           try clear c7
           try clear c34
           try clear p44
           try clear q44
           try clear hx44
           try clear p45
           try clear q45
           try clear hx45
           try clear c69
           try clear c69b0
           try clear c69b1
           try clear c70
           try clear c70b0
           try clear c70b1
           try clear c71
           try clear c71b0
           try clear hx449_0
           try clear hx449_1
           try clear hx449_2
           try clear hx450_0
           try clear hx450_1
           try clear hx450_2
           try clear p449
           try clear p450
           try clear q449
           try clear q450
           obtain ⟨kq, x117_54, rfl, HA, HJ54, HO_4, HO_410002, HO_434002, HO_449002, BK409, BK433, BK448, HB⟩ := hcut
           cases kq with
           | zero => exact absurd HA.out (by simp [psalterylaw05_CoderBack.j3])
           | succ kj54 =>
            have H := HA.out
            clear HA
            simp only [psalterylaw05_CoderBack.j3] at H
            by_cases c72 : x117_54 = true
            ·
             subst c72
             have H1 : (none) = some r := by rw [if_pos rfl] at H; exact H
             clear H
             have H := H1
             clear H1
             exact absurd H (by simp)
            ·
             replace c72 := Bool.eq_false_iff.mpr c72
             subst c72
             have H1 : (psalterylaw05_CoderBack.l1 kj54 x4_1 (wrap64 (x9_3 + 1)) t441 t442 t443 t446) = some r := by rw [if_neg (show ¬ (false = true) by decide)] at H; exact H
             clear H
             have H := H1
             clear H1
             have H' := zm H
             clear H
             have hnb73 := NB448_409.out
             have hnc73 := NB409_448.out
             have hnb74 := NB448_433.out
             have hnc74 := NB433_448.out
             have hcz75_0 : wc.cell? ⟨gb448, 0, none⟩ = some (.int .u64 t441) := (zs BK448.out 0).trans rfl
             have hcz75_1 : wc.cell? ⟨gb448, 1, none⟩ = some (.int .u32 t442) := (zs BK448.out 1).trans rfl
             have hcz75_2 : wc.cell? ⟨gb448, 2, none⟩ = some (.slice Ao66 t443.length co66) := (zs BK448.out 2).trans rfl
             have hcz75_3 : wc.cell? ⟨gb448, 3, none⟩ = some (.int .i64 t446) := (zs BK448.out 3).trans rfl
             have hfz75_0 := zx BK448.out 0
             have hfz75_1 := zx BK448.out 1
             have hfz75_2 := zx BK448.out 2
             have hfz75_3 := zx BK448.out 3
             have hnb76 := NB433_409.out
             have hnc76 := NB409_433.out
             have hcz77_0 : wc.cell? ⟨gb433, 0, none⟩ = some (.int .u64 x434000_3) := (zs BK433.out 0).trans rfl
             have hcz77_1 : wc.cell? ⟨gb433, 1, none⟩ = some (.int .u32 x434001_3) := (zs BK433.out 1).trans rfl
             have hcz77_2 : wc.cell? ⟨gb433, 2, none⟩ = some (.slice Ao58 x434002_3.length co58) := (zs BK433.out 2).trans rfl
             have hcz77_3 : wc.cell? ⟨gb433, 3, none⟩ = some (.int .i64 x434003_3) := (zs BK433.out 3).trans rfl
             have hfz77_0 := zx BK433.out 0
             have hfz77_1 := zx BK433.out 1
             have hfz77_2 := zx BK433.out 2
             have hfz77_3 := zx BK433.out 3
             go_wp2
             go_roundg kj54
             case measure => have := HK1.out; have := HJ6.out; have := HK3.out; have := HJ54.out; omega
             case rel => exact ⟨(wrap64 (x9_3 + 1)), (t441), (t442), (t443), (t446), (.slice Ao66 t443.length co66), (by first | rfl | (simp; done) | (simp [*]; done)), H', ⟨by have := HK1.out; have := HJ6.out; have := HK3.out; have := HJ54.out; omega⟩, ⟨by (with_reducible repeat (first | apply zo | apply zp | apply zq)); exact zG (zH (p := ⟨gb433, 3, none⟩) (zH (p := ⟨gb433, 2, none⟩) (zH (p := ⟨gb433, 1, none⟩) (zH (p := ⟨gb433, 0, none⟩) (Kd.R_types HO_4.out BK433.out (by decide)) (fun _ hk => hk.2) (.int .u64 t441)) (fun _ hk => hk.2) (.int .u32 t442)) (fun _ hk => hk.2) (.slice Ao66 t443.length co66)) (fun _ hk => hk.2) (.int .i64 t446)) (fun _ hk => trivial)⟩, ⟨by (with_reducible repeat (first | apply zo | apply zp | apply zq)); exact zG (zH (p := ⟨gb433, 3, none⟩) (zH (p := ⟨gb433, 2, none⟩) (zH (p := ⟨gb433, 1, none⟩) (zH (p := ⟨gb433, 0, none⟩) (Kd.R_types HO_410002.out BK433.out (by decide)) (fun _ hk => hk.2) (.int .u64 t441)) (fun _ hk => hk.2) (.int .u32 t442)) (fun _ hk => hk.2) (.slice Ao66 t443.length co66)) (fun _ hk => hk.2) (.int .i64 t446)) (fun _ hk => trivial)⟩, ⟨by (with_reducible repeat (first | apply zA | apply zB | apply zC)); exact zy (zI (p := ⟨gb433, 3, none⟩) (zI (p := ⟨gb433, 2, none⟩) (zI (p := ⟨gb433, 1, none⟩) (zI (p := ⟨gb433, 0, none⟩) (zy HO_449002.out (fun k_ hk => (⟨hk, hk.2.2.2.1⟩ : _ ∧ k_ ≠ gb433))) (fun _ hk => hk.2) (.int .u64 t441)) (fun _ hk => hk.2) (.int .u32 t442)) (fun _ hk => hk.2) (.slice Ao66 t443.length co66)) (fun _ hk => hk.2) (.int .i64 t446)) (fun _ hk => ⟨hk.1.1, ⟨hk.1.2.1, ⟨hk.1.2.2.1, hk.1.2.2.2.1⟩⟩⟩)⟩, ⟨by (with_reducible repeat (first | refine zh ?_ _ | refine zj ?_ | refine zi ?_ _)); refine zv ?_ NB409_433.out _; (with_reducible repeat (first | refine zh ?_ _ | refine zj ?_ | refine zi ?_ _)); refine zv ?_ NB409_433.out _; (with_reducible repeat (first | refine zh ?_ _ | refine zj ?_ | refine zi ?_ _)); refine zv ?_ NB409_433.out _; (with_reducible repeat (first | refine zh ?_ _ | refine zj ?_ | refine zi ?_ _)); refine zv ?_ NB409_433.out _; (with_reducible repeat (first | refine zh ?_ _ | refine zj ?_ | refine zi ?_ _)); exact BK409.out⟩, ⟨by (with_reducible repeat (first | refine zh ?_ _ | refine zj ?_ | refine zi ?_ _)); refine zw (cs := #[.int .u64 t441, .int .u32 t442, .slice Ao66 t443.length co66, .int .i64 x434003_3]) ?_ 3 _ rfl; (with_reducible repeat (first | refine zh ?_ _ | refine zj ?_ | refine zi ?_ _)); refine zw (cs := #[.int .u64 t441, .int .u32 t442, .slice Ao58 x434002_3.length co58, .int .i64 x434003_3]) ?_ 2 _ rfl; (with_reducible repeat (first | refine zh ?_ _ | refine zj ?_ | refine zi ?_ _)); refine zw (cs := #[.int .u64 t441, .int .u32 x434001_3, .slice Ao58 x434002_3.length co58, .int .i64 x434003_3]) ?_ 1 _ rfl; (with_reducible repeat (first | refine zh ?_ _ | refine zj ?_ | refine zi ?_ _)); refine zw (cs := #[.int .u64 x434000_3, .int .u32 x434001_3, .slice Ao58 x434002_3.length co58, .int .i64 x434003_3]) ?_ 0 _ rfl; (with_reducible repeat (first | refine zh ?_ _ | refine zj ?_ | refine zi ?_ _)); exact BK433.out⟩, ⟨by repeat (first | (with_reducible first | exact HB.out | apply ze | apply zd | apply zf | refine zk ?_ GE409.out | refine zk ?_ GE433.out | refine zk ?_ GE448.out) | exact HB.out)⟩⟩
         ·
          rw [if_neg c52] at H
          exact absurd H (by simp)
        ·
         rw [if_neg c51] at H
         have c51b0 : decide (x9_3 < (x4_1.length : Int)) = false := decide_eq_false c51
         clear c51
         replace H := Option.bind_eq_some_iff.mp H
         obtain ⟨t434, A780, H⟩ := H
         replace H : (some t434) = some r := H
         have A78 := zm A780
         clear A780
         obtain rfl := Option.some.inj H
         obtain ⟨Ao79, co79, eo79⟩ := Kd.R_slice HO_4.out
         subst eo79
         go_wp2_with (first | ((with_reducible refine gate_callee (f := 17) rfl ?_); refine goesL_ (some 119) rfl rfl Try.func17 (by kernel_rfl) rfl #[] rfl (by (try simp only [List.map_toArray, List.map_cons, List.map_nil]); first | done | rfl | (simp only [List.length_drop, List.length_take]; rfl)) ?_; (with_reducible refine (psalterylaw05_knows.calls k3  t434 _ A78.out).mono ?_); rintro e w80 ⟨rfl, hb⟩; refine ⟨_, rfl, ?_⟩; have n0_ := zm (Kd.R_below (by (with_reducible repeat (first | apply zo | apply zp | apply zq)); exact HO_4.out) hb); have n1_ := zm (Kd.R_below (by (with_reducible repeat (first | apply zo | apply zp | apply zq)); exact HO_410002.out) hb); have n2_ := zm (Kd.V_below (by (with_reducible repeat (first | apply zA | apply zB | apply zC)); exact HO_434002.out) hb); have n3_ := zm (zF (g := gb409) (o := .cells #[.int .u64 x410000_1, .int .u32 x410001_1, .slice Ao43 x410002_1.length co43] 26 (0, 0)) (by (with_reducible repeat (first | refine zh ?_ _ | refine zj ?_ | refine zi ?_ _)); exact BK409.out) hb); have n4_ := zm (zF (g := gb433) (o := .cells #[.int .u64 x434000_3, .int .u32 x434001_3, u434002, .int .i64 x434003_3] 43 (0, 0)) (by (with_reducible repeat (first | refine zh ?_ _ | refine zj ?_ | refine zi ?_ _)); exact BK433.out) hb); have n5_ := zm (zJ (by repeat (first | (with_reducible first | exact HB.out | apply ze | apply zd | apply zf | refine zk ?_ GE409.out | refine zk ?_ GE433.out) | exact HB.out)) hb); clear HO_4; clear HO_410002; clear HO_434002; clear BK409; clear BK433; clear HB; have HO_4 := n0_; have HO_410002 := n1_; have HO_434002 := n2_; have BK409 := n3_; have BK433 := n4_; have HB := n5_; clear n0_ n1_ n2_ n3_ n4_ n5_; (try clear hb); (try clear hb2); (try clear hk); (try clear hi)))
         go_ret
         exact ⟨by first | rfl | (simp [errW_none, errW_some] <;> rfl) | (simp [*, errW_none, errW_some] <;> rfl), by repeat (first | (with_reducible first | exact HB.out | apply ze | apply zd | apply zf | refine zk ?_ GE409.out | refine zk ?_ GE433.out) | exact HB.out)⟩

end Go.Proofs.Ytkaoiblgfpphoaa.Prt
