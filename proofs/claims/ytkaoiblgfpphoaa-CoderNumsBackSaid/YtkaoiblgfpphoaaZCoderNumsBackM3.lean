-- Functions of the program and of the document as plain Lean, each with the proof that the code comes to it. Written by a program of this session (wip/tools/myprint.py, pack.py) over the kit's printer; Lean checks it.
import Derived.Test.YtkaoiblgfpphoaaZCoderNumsBackPrt0
import Derived.Test.YtkaoiblgfpphoaaZCoderNumsBackM1
import Derived.Test.YtkaoiblgfpphoaaZCoderNumsBackM2
namespace Go.Proofs.Ytkaoiblgfpphoaa.Prt
open Go.RowKit Go.Proofs.YtkaoiblgfpphoaaW.PrintWords Go.Proofs.YtkaoiblgfpphoaaW.PrintLast Go.Proofs.YtkaoiblgfpphoaaW.PrintMore
attribute [local go_sem] max2_int min2_int max_two min_two max_three min_three max_four min_four   -- for this text's walks alone
set_option linter.unusedVariables false
set_option linter.unusedSimpArgs false

/-! ### psalterylaw05_CoderNumsBack: function 10 -/
mutual
def psalterylaw05_CoderNumsBack.l0 : Nat → List (S76) → List (S76) → Int → Int → Int → List Int → Option (Bool)
 | 0, _, _, _, _, _, _ => none
 | k + 1, x0, x4, x5, x624000, x624001, x624002 => if x5 < (x0.length : Int) then (psalterylaw05_CoderNumsBack.j1 k x0 x4 x5 (decide (x5 < 60)) x624000 x624001 x624002) else (psalterylaw05_CoderNumsBack.j1 k x0 x4 x5 false x624000 x624001 x624002)
def psalterylaw05_CoderNumsBack.j1 : Nat → List (S76) → List (S76) → Int → Bool → Int → Int → List Int → Option (Bool)
 | 0, _, _, _, _, _, _, _ => none
 | k + 1, x0, x4, x5, x21, x624000, x624001, x624002 => if x21 = true then (if 0 ≤ x5 then (if x5 < (x0.length : Int) then ((coder_PutNum.f k x624000 x624001 x624002 ((rd_T76 x0 x5).f0) ((rd_T76 x0 x5).f1)).bind fun bt626 => (if bt626.2.2.2 = 0 then (if x4.length < 8796093022208 then (psalterylaw05_CoderNumsBack.l0 k x0 (x4 ++ [(⟨(rd_T76 x0 x5).f0, (rd_T76 x0 x5).f1⟩ : S76)]) (wrap64 (x5 + 1)) bt626.1 bt626.2.1 bt626.2.2.1) else (none)) else (psalterylaw05_CoderNumsBack.l0 k x0 x4 (wrap64 (x5 + 1)) bt626.1 bt626.2.1 bt626.2.2.1))) else (none)) else (none)) else ((coder_Finish.f x624000 x624001 x624002).bind fun t637 => ((coder_Open.f t637).bind fun bt640 => (psalterylaw05_CoderNumsBack.l1 k x4 0 bt640.1 bt640.2.1 bt640.2.2.1 bt640.2.2.2)))
def psalterylaw05_CoderNumsBack.l1 : Nat → List (S76) → Int → Int → Int → List Int → Int → Option (Bool)
 | 0, _, _, _, _, _, _ => none
 | k + 1, x4, x9, x647000, x647001, x647002, x647003 => if x9 < (x4.length : Int) then (if 0 ≤ x9 then ((coder_TakeNum.f k x647000 x647001 x647002 x647003 ((rd_T76 x4 x9).f1)).bind fun bt649 => (if bt649.2.2.2.2.2 = 0 then (psalterylaw05_CoderNumsBack.j3 k x4 x9 (bt649.2.2.2.2.1 != ((rd_T76 x4 x9).f0)) bt649.1 bt649.2.1 bt649.2.2.1 bt649.2.2.2.1) else (psalterylaw05_CoderNumsBack.j3 k x4 x9 true bt649.1 bt649.2.1 bt649.2.2.1 bt649.2.2.2.1))) else (none)) else ((psalterylaw05_knows.f k).bind fun t647 => (some t647))
def psalterylaw05_CoderNumsBack.j3 : Nat → List (S76) → Int → Bool → Int → Int → List Int → Int → Option (Bool)
 | 0, _, _, _, _, _, _, _ => none
 | k + 1, x4, x9, x79, x658000, x658001, x658002, x658003 => if x79 = true then (none) else (psalterylaw05_CoderNumsBack.l1 k x4 (wrap64 (x9 + 1)) x658000 x658001 x658002 x658003)
end
def psalterylaw05_CoderNumsBack.f (k : Nat) (l0 : List (S76)) : Option (Bool) := (coder_New.f).bind fun bt618 => (psalterylaw05_CoderNumsBack.l0 k l0 ([] : List (S76)) 0 bt618.1 bt618.2.1 bt618.2.2)
theorem psalterylaw05_CoderNumsBack.mono_l : ∀ k, (∀ y0 y1 y2 y3 y4 y5, LeO (psalterylaw05_CoderNumsBack.l0 k y0 y1 y2 y3 y4 y5) (psalterylaw05_CoderNumsBack.l0 (k + 1) y0 y1 y2 y3 y4 y5)) ∧ (∀ y0 y1 y2 y3 y4 y5 y6, LeO (psalterylaw05_CoderNumsBack.j1 k y0 y1 y2 y3 y4 y5 y6) (psalterylaw05_CoderNumsBack.j1 (k + 1) y0 y1 y2 y3 y4 y5 y6)) ∧ (∀ y0 y1 y2 y3 y4 y5, LeO (psalterylaw05_CoderNumsBack.l1 k y0 y1 y2 y3 y4 y5) (psalterylaw05_CoderNumsBack.l1 (k + 1) y0 y1 y2 y3 y4 y5)) ∧ (∀ y0 y1 y2 y3 y4 y5 y6, LeO (psalterylaw05_CoderNumsBack.j3 k y0 y1 y2 y3 y4 y5 y6) (psalterylaw05_CoderNumsBack.j3 (k + 1) y0 y1 y2 y3 y4 y5 y6))
 | 0 => ⟨fun _ _ _ _ _ _ r h => by simp [psalterylaw05_CoderNumsBack.l0] at h, fun _ _ _ _ _ _ _ r h => by simp [psalterylaw05_CoderNumsBack.j1] at h, fun _ _ _ _ _ _ r h => by simp [psalterylaw05_CoderNumsBack.l1] at h, fun _ _ _ _ _ _ _ r h => by simp [psalterylaw05_CoderNumsBack.j3] at h⟩
 | k + 1 => by
  obtain ⟨ih0, ih1, ih2, ih3⟩ := psalterylaw05_CoderNumsBack.mono_l k
  refine ⟨?_, ?_, ?_, ?_⟩
  ·
   intro y0 y1 y2 y3 y4 y5
   unfold psalterylaw05_CoderNumsBack.l0
   repeat' first
   | (with_reducible exact ih0 _ _ _ _ _ _)
   | (with_reducible exact ih1 _ _ _ _ _ _ _)
   | (with_reducible exact ih2 _ _ _ _ _ _)
   | (with_reducible exact ih3 _ _ _ _ _ _ _)
   | (with_reducible exact coder_PutNum.mono _ _ _ _ _ _)
   | (with_reducible exact coder_TakeNum.mono _ _ _ _ _ _)
   | (with_reducible exact psalterylaw05_knows.mono _)
   | (with_reducible exact LeO.refl _)
   | (with_reducible exact LeO.none _)
   | (with_reducible refine LeO.ite ?_ ?_)
   | (with_reducible refine LeO.bind ?_ (fun _ => ?_))
   | exact ih0 _ _ _ _ _ _
   | exact ih1 _ _ _ _ _ _ _
   | exact ih2 _ _ _ _ _ _
   | exact ih3 _ _ _ _ _ _ _
   | exact coder_PutNum.mono _ _ _ _ _ _
   | exact coder_TakeNum.mono _ _ _ _ _ _
   | exact psalterylaw05_knows.mono _
   | exact LeO.none _
   | refine LeO.ite ?_ ?_
   | refine LeO.bind ?_ (fun _ => ?_)
  ·
   intro y0 y1 y2 y3 y4 y5 y6
   unfold psalterylaw05_CoderNumsBack.j1
   repeat' first
   | (with_reducible exact ih0 _ _ _ _ _ _)
   | (with_reducible exact ih1 _ _ _ _ _ _ _)
   | (with_reducible exact ih2 _ _ _ _ _ _)
   | (with_reducible exact ih3 _ _ _ _ _ _ _)
   | (with_reducible exact coder_PutNum.mono _ _ _ _ _ _)
   | (with_reducible exact coder_TakeNum.mono _ _ _ _ _ _)
   | (with_reducible exact psalterylaw05_knows.mono _)
   | (with_reducible exact LeO.refl _)
   | (with_reducible exact LeO.none _)
   | (with_reducible refine LeO.ite ?_ ?_)
   | (with_reducible refine LeO.bind ?_ (fun _ => ?_))
   | exact ih0 _ _ _ _ _ _
   | exact ih1 _ _ _ _ _ _ _
   | exact ih2 _ _ _ _ _ _
   | exact ih3 _ _ _ _ _ _ _
   | exact coder_PutNum.mono _ _ _ _ _ _
   | exact coder_TakeNum.mono _ _ _ _ _ _
   | exact psalterylaw05_knows.mono _
   | exact LeO.none _
   | refine LeO.ite ?_ ?_
   | refine LeO.bind ?_ (fun _ => ?_)
  ·
   intro y0 y1 y2 y3 y4 y5
   unfold psalterylaw05_CoderNumsBack.l1
   repeat' first
   | (with_reducible exact ih0 _ _ _ _ _ _)
   | (with_reducible exact ih1 _ _ _ _ _ _ _)
   | (with_reducible exact ih2 _ _ _ _ _ _)
   | (with_reducible exact ih3 _ _ _ _ _ _ _)
   | (with_reducible exact coder_PutNum.mono _ _ _ _ _ _)
   | (with_reducible exact coder_TakeNum.mono _ _ _ _ _ _)
   | (with_reducible exact psalterylaw05_knows.mono _)
   | (with_reducible exact LeO.refl _)
   | (with_reducible exact LeO.none _)
   | (with_reducible refine LeO.ite ?_ ?_)
   | (with_reducible refine LeO.bind ?_ (fun _ => ?_))
   | exact ih0 _ _ _ _ _ _
   | exact ih1 _ _ _ _ _ _ _
   | exact ih2 _ _ _ _ _ _
   | exact ih3 _ _ _ _ _ _ _
   | exact coder_PutNum.mono _ _ _ _ _ _
   | exact coder_TakeNum.mono _ _ _ _ _ _
   | exact psalterylaw05_knows.mono _
   | exact LeO.none _
   | refine LeO.ite ?_ ?_
   | refine LeO.bind ?_ (fun _ => ?_)
  ·
   intro y0 y1 y2 y3 y4 y5 y6
   unfold psalterylaw05_CoderNumsBack.j3
   repeat' first
   | (with_reducible exact ih0 _ _ _ _ _ _)
   | (with_reducible exact ih1 _ _ _ _ _ _ _)
   | (with_reducible exact ih2 _ _ _ _ _ _)
   | (with_reducible exact ih3 _ _ _ _ _ _ _)
   | (with_reducible exact coder_PutNum.mono _ _ _ _ _ _)
   | (with_reducible exact coder_TakeNum.mono _ _ _ _ _ _)
   | (with_reducible exact psalterylaw05_knows.mono _)
   | (with_reducible exact LeO.refl _)
   | (with_reducible exact LeO.none _)
   | (with_reducible refine LeO.ite ?_ ?_)
   | (with_reducible refine LeO.bind ?_ (fun _ => ?_))
   | exact ih0 _ _ _ _ _ _
   | exact ih1 _ _ _ _ _ _ _
   | exact ih2 _ _ _ _ _ _
   | exact ih3 _ _ _ _ _ _ _
   | exact coder_PutNum.mono _ _ _ _ _ _
   | exact coder_TakeNum.mono _ _ _ _ _ _
   | exact psalterylaw05_knows.mono _
   | exact LeO.none _
   | refine LeO.ite ?_ ?_
   | refine LeO.bind ?_ (fun _ => ?_)
theorem psalterylaw05_CoderNumsBack.mono : ∀ a0 k, LeO (psalterylaw05_CoderNumsBack.f k a0) (psalterylaw05_CoderNumsBack.f (k + 1) a0) := by
 intro a0 k
 obtain ⟨ih0, ih1, ih2, ih3⟩ := psalterylaw05_CoderNumsBack.mono_l k
 unfold psalterylaw05_CoderNumsBack.f
 repeat' first
   | (with_reducible exact ih0 _ _ _ _ _ _)
   | (with_reducible exact ih1 _ _ _ _ _ _ _)
   | (with_reducible exact ih2 _ _ _ _ _ _)
   | (with_reducible exact ih3 _ _ _ _ _ _ _)
   | (with_reducible exact coder_PutNum.mono _ _ _ _ _ _)
   | (with_reducible exact coder_TakeNum.mono _ _ _ _ _ _)
   | (with_reducible exact psalterylaw05_knows.mono _)
   | (with_reducible exact LeO.refl _)
   | (with_reducible exact LeO.none _)
   | (with_reducible refine LeO.ite ?_ ?_)
   | (with_reducible refine LeO.bind ?_ (fun _ => ?_))
   | exact ih0 _ _ _ _ _ _
   | exact ih1 _ _ _ _ _ _ _
   | exact ih2 _ _ _ _ _ _
   | exact ih3 _ _ _ _ _ _ _
   | exact coder_PutNum.mono _ _ _ _ _ _
   | exact coder_TakeNum.mono _ _ _ _ _ _
   | exact psalterylaw05_knows.mono _
   | exact LeO.none _
   | refine LeO.ite ?_ ?_
   | refine LeO.bind ?_ (fun _ => ?_)
def psalterylaw05_CoderNumsBack.T6 : Bool × List (List Nat × List Nat) := (true, [([], []), ([], []), ([], []), ([1, 2], [1, 2]), ([3], [3]), ([4], [4]), ([], []), ([], []), ([6, 7], [6, 7]), ([8], [8]), ([9], [9]), ([0, 5, 10], [0, 5, 10]), ([11], [11]), ([12], [12]), ([12], [12]), ([], []), ([15, 13, 11, 0, 1, 2, 3, 4, 5, 6, 7, 8, 9, 10, 11, 12, 13, 15], [13, 15]), ([14, 16, 0, 1, 2, 3, 4, 5, 6, 7, 8, 9, 10, 11, 12, 13, 14, 15, 16], [14])])
def psalterylaw05_CoderNumsBack.B6 : List Nat := [0, 0, 0, 6, 14, 30, 0, 0, 192, 448, 960, 2047, 4095, 8191, 8191, 0, 49151, 131071]
theorem psalterylaw05_CoderNumsBack.tab6 : rtab .any (opsOf Try.f10 6) = psalterylaw05_CoderNumsBack.T6 := by kernel_rfl
theorem psalterylaw05_CoderNumsBack.bits6 : waitsOk psalterylaw05_CoderNumsBack.T6.2 psalterylaw05_CoderNumsBack.B6 = true := by kernel_rfl
def psalterylaw05_CoderNumsBack.T14 : Bool × List (List Nat × List Nat) := (true, [([], []), ([], []), ([], []), ([1, 2], [1, 2]), ([3], [3]), ([4], [4]), ([0, 5], [0, 5]), ([6], [6]), ([7], [7]), ([7], [7]), ([7], [7]), ([], []), ([11, 8, 6, 0, 1, 2, 3, 4, 5, 6, 7, 8, 11], [8, 11]), ([9, 12, 0, 1, 2, 3, 4, 5, 6, 7, 8, 9, 11, 12], [9]), ([10, 13, 0, 1, 2, 3, 4, 5, 6, 7, 8, 9, 10, 11, 12, 13], [10])])
def psalterylaw05_CoderNumsBack.B14 : List Nat := [0, 0, 0, 6, 14, 30, 63, 127, 255, 255, 255, 0, 2559, 7167, 16383]
theorem psalterylaw05_CoderNumsBack.tab14 : rtab .any (opsOf Try.f10 14) = psalterylaw05_CoderNumsBack.T14 := by kernel_rfl
theorem psalterylaw05_CoderNumsBack.bits14 : waitsOk psalterylaw05_CoderNumsBack.T14.2 psalterylaw05_CoderNumsBack.B14 = true := by kernel_rfl
set_option maxHeartbeats 8000000 in
set_option maxRecDepth 100000 in
theorem psalterylaw05_CoderNumsBack.calls (k : Nat) (A0 : Option Addr) (c0 : Nat) (l0 : List (S76)) (r : Bool) (w : World) (hr0 : Kd.C k76 w A0 l0.length l0) (hc0 : l0.length ≤ c0) (h : psalterylaw05_CoderNumsBack.f k l0 = some r) :
  Calls Try.prog 10 #[.slice A0 l0.length c0] w fun e w' => e = .returned (.bool r) ∧ Below w.heap.size w w' := by
 have hu26 := Try.underlying26
 have hu76 := Try.underlying76
 have hu43 := Try.underlying43
 have HR0 := zm hr0
 have HC0 := zm hc0
 clear hr0 hc0
 have HB := zm (Below.refl w.heap.size w)
 have H : ((coder_New.f).bind fun bt618 => (psalterylaw05_CoderNumsBack.l0 k l0 ([] : List (S76)) 0 bt618.1 bt618.2.1 bt618.2.2)) = some r := h
 clear h
 replace H := Option.bind_eq_some_iff.mp H
 obtain ⟨⟨t618, t619, t620⟩, A20, H⟩ := H
 replace H : (psalterylaw05_CoderNumsBack.l0 k l0 ([] : List (S76)) 0 t618 t619 t620) = some r := H
 have A2 := zm A20
 clear A20
 have H' := zm H
 clear H
 go_enter Try.func10, Try.ntmps10
 go_wp2_with (first | ((with_reducible refine gate_callee (f := 29) rfl ?_); refine goesL_ (some 13) rfl rfl Try.func29 (by kernel_rfl) rfl #[] rfl (by (try simp only [List.map_toArray, List.map_cons, List.map_nil]); first | done | rfl | (simp only [List.length_drop, List.length_take]; rfl)) ?_; (with_reducible refine (coder_New.calls  t618 t619 t620 _ A2.out).mono ?_); rintro e w3 ⟨v621, rfl, ho0, hb⟩; refine ⟨_, rfl, ?_⟩; have n0_ := zm (Kd.R_lower ho0 (zE (by repeat (first | (with_reducible first | exact HB.out | apply ze | apply zd | apply zf) | exact HB.out)))); have n1_ := zm (zJ (by repeat (first | (with_reducible first | exact HB.out | apply ze | apply zd | apply zf) | exact HB.out)) hb); clear HB; have HO622 := n0_; have HB := n1_; clear n0_ n1_; (try clear hb); (try clear hb2); (try clear hk); (try clear hi); (try clear ho0)) | ((with_reducible refine gate_dst (N := 3) rfl ?_); refine box_event ?hg (N := 3) ?hd (cs := #[.int .u64 0, .int .u32 0, .slice none 0 0]) (t := 26) ?hr ?_; (case hd => rfl); (case hg => rfl); (case hr => first | (go_simp; done) | (go_simp; rfl)); intro gb623 hg w4 hbox hb; have n0_ := zm (Kd.R_below (by (with_reducible repeat (first | apply zo | apply zp | apply zq)); exact HO622.out) hb); have n1_ := zm (zJ (by repeat (first | (with_reducible first | exact HB.out | apply ze | apply zd | apply zf) | exact HB.out)) hb); have n2_ := zm (hbox); have n3_ := zm ((by rw [hg]; exact (zE (by repeat (first | (with_reducible first | exact HB.out | apply ze | apply zd | apply zf) | exact HB.out))) : w.heap.size ≤ gb623)); have n4_ := zm ((by rw [hg]; exact (zE (by repeat (first | (with_reducible first | exact HB.out | apply ze | apply zd | apply zf) | exact HB.out))) : w.heap.size ≤ gb623)); clear HO622; clear HB; have HO622 := n0_; have HB := n1_; have BK623 := n2_; have GW623 := n3_; have GE623 := n4_; clear n0_ n1_ n2_ n3_ n4_; clear hb hbox hg; have hcz5_0 : w4.cell? ⟨gb623, 0, none⟩ = some (.int .u64 0) := (zs BK623.out 0).trans rfl; have hcz5_1 : w4.cell? ⟨gb623, 1, none⟩ = some (.int .u32 0) := (zs BK623.out 1).trans rfl; have hcz5_2 : w4.cell? ⟨gb623, 2, none⟩ = some (.slice none 0 0) := (zs BK623.out 2).trans rfl; have hfz5_0 := zx BK623.out 0; have hfz5_1 := zx BK623.out 1; have hfz5_2 := zx BK623.out 2; obtain ⟨Ao6, co6, eo6⟩ := Kd.R_slice HO622.out; subst eo6))
 go_loopg [4, 5] k (fun kq v4 v5 w' => ∃ (x4_1 : List (S76)) (x5_1 : Int) (x624000_1 : Int) (x624001_1 : Int) (x624002_1 : List Int) (u624002 : Value), v5 = .int .i64 x5_1 ∧ Aside0 (psalterylaw05_CoderNumsBack.l0 kq l0 x4_1 x5_1 x624000_1 x624001_1 x624002_1 = some r) ∧ Aside0 (kq ≤ k) ∧ Aside0 (Kd.R k76 76 w' w.heap.size (fun _ => True) v4 x4_1) ∧ Aside0 (Kd.R (Kd.int .u8) 5 w' w.heap.size (fun _ => True) u624002 x624002_1) ∧ Aside0 (w'.heap[gb623]? = some (.cells #[.int .u64 x624000_1, .int .u32 x624001_1, u624002] 26 (0, 0))) ∧ Aside0 (Below w.heap.size w w'))
 case atStart => exact ⟨(([] : List (S76))), (0), (t618), (t619), (t620), (.slice Ao6 t620.length co6), (by first | rfl | (simp; done) | (simp [*]; done)), H', ⟨Nat.le_refl _⟩, ⟨by first | exact Kd.R_nil _ _ _ _ _ | exact Kd.N_nil _ _ _ _ _ | exact Kd.V_nil _ _ _ _ _ | exact Kd.Q_nil _ _ _ _ _ | exact Kd.S_nil _ _ _ _ _⟩, ⟨by (with_reducible repeat (first | apply zo | apply zp | apply zq)); exact zG (zH (p := ⟨gb623, 2, none⟩) (zH (p := ⟨gb623, 1, none⟩) (zH (p := ⟨gb623, 0, none⟩) (Kd.R_types HO622.out BK623.out (by decide)) (fun _ hk => hk.2) (.int .u64 t618)) (fun _ hk => hk.2) (.int .u32 t619)) (fun _ hk => hk.2) (.slice Ao6 t620.length co6)) (fun _ hk => trivial)⟩, ⟨by (with_reducible repeat (first | refine zh ?_ _ | refine zj ?_ | refine zi ?_ _)); refine zw (cs := #[.int .u64 t618, .int .u32 t619, .slice none 0 0]) ?_ 2 _ rfl; (with_reducible repeat (first | refine zh ?_ _ | refine zj ?_ | refine zi ?_ _)); refine zw (cs := #[.int .u64 t618, .int .u32 0, .slice none 0 0]) ?_ 1 _ rfl; (with_reducible repeat (first | refine zh ?_ _ | refine zj ?_ | refine zi ?_ _)); refine zw (cs := #[.int .u64 0, .int .u32 0, .slice none 0 0]) ?_ 0 _ rfl; (with_reducible repeat (first | refine zh ?_ _ | refine zj ?_ | refine zi ?_ _)); exact BK623.out⟩, ⟨by repeat (first | (with_reducible first | exact HB.out | apply ze | apply zd | apply zf | refine zk ?_ GE623.out) | exact HB.out)⟩⟩
 case round =>
  clear H'
  try clear c1
  try clear c2
  try clear p2
  try clear hcz5_0
  try clear hcz5_1
  try clear hcz5_2
  try clear hfz5_0
  try clear hfz5_1
  try clear hfz5_2
  obtain ⟨x4_1, x5_1, x624000_1, x624001_1, x624002_1, u624002, rfl, HA, HK1, HO_4, HO_624002, BK623, HB⟩ := hrel
  cases gk with
  | zero => exact absurd HA.out (by simp [psalterylaw05_CoderNumsBack.l0])
  | succ k1 =>
   have H := HA.out
   clear HA
   simp only [psalterylaw05_CoderNumsBack.l0] at H
   have HC7 := zm H
   clear H
   go_upto_region 4 with (fail)
   go_cut [21] (fun v21 wc => ∃ (kq : Nat) (x21_6 : Bool), v21 = .bool x21_6 ∧ Aside0 (psalterylaw05_CoderNumsBack.j1 kq l0 x4_1 x5_1 x21_6 x624000_1 x624001_1 x624002_1 = some r) ∧ Aside0 (kq ≤ k1) ∧ Aside0 (Kd.R k76 76 wc w.heap.size (fun _ => True) u4 x4_1) ∧ Aside0 (Kd.R (Kd.int .u8) 5 wc w.heap.size (fun _ => True) u624002 x624002_1) ∧ Aside0 (wc.heap[gb623]? = some (.cells #[.int .u64 x624000_1, .int .u32 x624001_1, u624002] 26 (0, 0))) ∧ Aside0 (Below w.heap.size w wc))
   case first =>
    have H := HC7.out
    clear HC7
    by_cases c8 : x5_1 < (l0.length : Int)
    ·
     rw [if_pos c8] at H
     have c8b0 : decide (x5_1 < (l0.length : Int)) = true := decide_eq_true c8
     clear c8
     (first | rw [c8b0] | (simp only [i64_w, i32_w]; rw [c8b0]) | skip)
     have H' := zm H
     clear H
     go_wp2
     go_meet
     case rel => exact ⟨_, (decide (x5_1 < 60)), (by first | rfl | (simp; done) | (simp [*]; done)), H', ⟨by have := HK1.out; first | omega | exact Nat.le_refl _⟩, ⟨by (with_reducible repeat (first | apply zo | apply zp | apply zq)); exact HO_4.out⟩, ⟨by (with_reducible repeat (first | apply zo | apply zp | apply zq)); exact HO_624002.out⟩, ⟨by (with_reducible repeat (first | refine zh ?_ _ | refine zj ?_ | refine zi ?_ _)); exact BK623.out⟩, ⟨by repeat (first | (with_reducible first | exact HB.out | apply ze | apply zd | apply zf | refine zk ?_ GE623.out) | exact HB.out)⟩⟩
    ·
     rw [if_neg c8] at H
     have c8b0 : decide (x5_1 < (l0.length : Int)) = false := decide_eq_false c8
     clear c8
     (first | rw [c8b0] | (simp only [i64_w, i32_w]; rw [c8b0]) | skip)
     have H' := zm H
     clear H
     go_wp2
     go_meet
     case rel => exact ⟨_, (false), (by first | rfl | (simp; done) | (simp [*]; done)), H', ⟨by have := HK1.out; first | omega | exact Nat.le_refl _⟩, ⟨by (with_reducible repeat (first | apply zo | apply zp | apply zq)); exact HO_4.out⟩, ⟨by (with_reducible repeat (first | apply zo | apply zp | apply zq)); exact HO_624002.out⟩, ⟨by (with_reducible repeat (first | refine zh ?_ _ | refine zj ?_ | refine zi ?_ _)); exact BK623.out⟩, ⟨by repeat (first | (with_reducible first | exact HB.out | apply ze | apply zd | apply zf | refine zk ?_ GE623.out) | exact HB.out)⟩⟩
   case rest =>
    clear HC7
    try clear c1
    try clear c2
    try clear p2
    try clear c8
    try clear c8b0
    try clear hcz5_0
    try clear hcz5_1
    try clear hcz5_2
    try clear hfz5_0
    try clear hfz5_1
    try clear hfz5_2
    try clear p2
    obtain ⟨kq, x21_6, rfl, HA, HJ6, HO_4, HO_624002, BK623, HB⟩ := hcut
    cases kq with
    | zero => exact absurd HA.out (by simp [psalterylaw05_CoderNumsBack.j1])
    | succ kj6 =>
     have H := HA.out
     clear HA
     simp only [psalterylaw05_CoderNumsBack.j1] at H
     by_cases c9 : x21_6 = true
     ·
      subst c9
      have H1 : (if 0 ≤ x5_1 then (if x5_1 < (l0.length : Int) then ((coder_PutNum.f kj6 x624000_1 x624001_1 x624002_1 ((rd_T76 l0 x5_1).f0) ((rd_T76 l0 x5_1).f1)).bind fun bt626 => (if bt626.2.2.2 = 0 then (if x4_1.length < 8796093022208 then (psalterylaw05_CoderNumsBack.l0 kj6 l0 (x4_1 ++ [(⟨(rd_T76 l0 x5_1).f0, (rd_T76 l0 x5_1).f1⟩ : S76)]) (wrap64 (x5_1 + 1)) bt626.1 bt626.2.1 bt626.2.2.1) else (none)) else (psalterylaw05_CoderNumsBack.l0 kj6 l0 x4_1 (wrap64 (x5_1 + 1)) bt626.1 bt626.2.1 bt626.2.2.1))) else (none)) else (none)) = some r := by rw [if_pos rfl] at H; exact H
      clear H
      have H := H1
      clear H1
      by_cases c10 : 0 ≤ x5_1
      ·
       rw [if_pos c10] at H
       have c10b0 : decide (0 ≤ x5_1) = true := decide_eq_true c10
       clear c10
       by_cases c11 : x5_1 < (l0.length : Int)
       ·
        rw [if_pos c11] at H
        have c11b0 : decide (x5_1 < (l0.length : Int)) = true := decide_eq_true c11
        clear c11
        replace H := Option.bind_eq_some_iff.mp H
        obtain ⟨⟨t626, t627, t628, t631⟩, A120, H⟩ := H
        replace H : (if t631 = 0 then (if x4_1.length < 8796093022208 then (psalterylaw05_CoderNumsBack.l0 kj6 l0 (x4_1 ++ [(⟨(rd_T76 l0 x5_1).f0, (rd_T76 l0 x5_1).f1⟩ : S76)]) (wrap64 (x5_1 + 1)) t626 t627 t628) else (none)) else (psalterylaw05_CoderNumsBack.l0 kj6 l0 x4_1 (wrap64 (x5_1 + 1)) t626 t627 t628)) = some r := H
        have A12 := zm A120
        clear A120
        by_cases c13 : t631 = 0
        ·
         rw [if_pos c13] at H
         have c13b0 : (t631 == 0) = true := beq_iff_eq.mpr c13
         have c13b1 : (t631 != 0) = false := bne_eq_false_iff_eq.mpr c13
         clear c13
         by_cases c14 : x4_1.length < 8796093022208
         ·
          rw [if_pos c14] at H
          have LMc14 := zm c14
          clear c14
          obtain ⟨y634, hy634⟩ : ∃ y_ : List (S76), y_ = (x4_1 ++ [(⟨(rd_T76 l0 x5_1).f0, (rd_T76 l0 x5_1).f1⟩ : S76)]) := ⟨_, rfl⟩
          replace H : (psalterylaw05_CoderNumsBack.l0 kj6 l0 y634 (wrap64 (x5_1 + 1)) t626 t627 t628) = some r := by first | (rw [hy634]; with_reducible exact H) | (have H2_ := (Option.bind_some _ _).symm.trans H; rw [hy634]; with_reducible exact H2_) | (have H2_ := (Option.bind_some _ _).symm.trans H; with_reducible exact H2_) | with_reducible exact H | (rw [hy634]; exact H) | exact H
          have Ny634 := zm hy634
          clear hy634
          have H' := zm H
          clear H
          obtain ⟨Ao15, co15, eo15⟩ := Kd.R_slice HO_624002.out
          subst eo15
          try go_wp2
          have n0_ := zm (zq HO_4.out)
          have n1_ := zm (zq HO_624002.out)
          have n2_ := zm (zj BK623.out)
          have n3_ := zm (zf HB.out)
          clear HO_4
          clear HO_624002
          clear BK623
          clear HB
          have HO_4 := n0_
          have HO_624002 := n1_
          have BK623 := n2_
          have HB := n3_
          clear n0_ n1_ n2_ n3_
          have p624 : 0 ≤ (x5_1 : Int) := of_decide_eq_true (by first | (with_reducible assumption) | assumption)
          have q624 : x5_1 < (l0.length : Int) := of_decide_eq_true (by first | (with_reducible assumption) | assumption)
          obtain ⟨ad624, e624, hx624_0, hx624_1⟩ := at_T76 HR0.out x5_1 p624 q624
          have hw624_1 := hx624_1
          have hw624_0 := hx624_0
          cases e624
          replace hx624_0 := (HB.out.cell (zb w _ hx624_0)).trans hx624_0
          replace hx624_1 := (HB.out.cell (zb w _ hx624_1)).trans hx624_1
          replace p624 := eq_true p624
          replace q624 := eq_true q624
          have p625 : 0 ≤ (x5_1 : Int) := of_decide_eq_true (by first | (with_reducible assumption) | assumption)
          have q625 : x5_1 < (l0.length : Int) := of_decide_eq_true (by first | (with_reducible assumption) | assumption)
          obtain ⟨ad625, e625, hx625_0, hx625_1⟩ := at_T76 HR0.out x5_1 p625 q625
          have hw625_1 := hx625_1
          have hw625_0 := hx625_0
          obtain rfl : ad624 = ad625 := (by injection e625)
          replace hx625_0 := (HB.out.cell (zb w _ hx625_0)).trans hx625_0
          replace hx625_1 := (HB.out.cell (zb w _ hx625_1)).trans hx625_1
          replace p625 := eq_true p625
          replace q625 := eq_true q625
          refine start_ (n := 18) (S := fun w' => w'.cell? ⟨gb623, 0, none⟩ = some (.int .u64 x624000_1) ∧ w'.cell? ⟨gb623, 1, none⟩ = some (.int .u32 x624001_1) ∧ w'.cell? ⟨gb623, 2, none⟩ = some (.slice Ao15 x624002_1.length co15) ∧ w'.cell? (ad624.add ((x5_1).toNat * 2)) = some (.int .u64 ((rd_T76 l0 x5_1).f0)) ∧ w'.cell? ⟨(ad624.add ((x5_1).toNat * 2)).block, (ad624.add ((x5_1).toNat * 2)).off + 1, none⟩ = some (.int .u64 ((rd_T76 l0 x5_1).f1)) ∧ w'.cell? (ad624.add ((x5_1).toNat * 2)) = some (.int .u64 ((rd_T76 l0 x5_1).f0)) ∧ w'.cell? ⟨(ad624.add ((x5_1).toNat * 2)).block, (ad624.add ((x5_1).toNat * 2)).off + 1, none⟩ = some (.int .u64 ((rd_T76 l0 x5_1).f1))) (ds := []) #[false, false, false, false, false, false, false, false, false, false, false, false, false, false, false, false, false, false] (by kernel_rfl) rfl rfl ⟨(zs BK623.out 0).trans rfl, (zs BK623.out 1).trans rfl, (zs BK623.out 2).trans rfl, ((HB.out.cell (zb w _ hw624_0)).trans hw624_0), ((HB.out.cell (zb w _ hw624_1)).trans hw624_1), ((HB.out.cell (zb w _ hw625_0)).trans hw625_0), ((HB.out.cell (zb w _ hw625_1)).trans hw625_1)⟩ (fun hHeld => ?_); refine with_tabW psalterylaw05_CoderNumsBack.tab6 psalterylaw05_CoderNumsBack.bits6 (fun HT_ HW_ => ?_)
          generalize wc.drew = w16 at HO_4 HO_624002 BK623 HB hx624_0 hx624_1 hx625_0 hx625_1 hHeld ⊢
          refine pure_ (i := 1) (N := some 26) (v := ?_) (a' := ?_) #[false, true, false, false, false, false, false, false, false, false, false, false, false, false, false, false, false, false] rfl rfl (any_of HT_.out (by kernel_rfl)) (fun _ _ _ h => h) (Or.inl ⟨by rfl, ?_⟩) ?_ ?_
          rotate_left
          ·
           intro w'
           go_simp
           with_reducible rfl
          rotate_left
          ·
           simp only [Act.put, List.setIfInBounds_toArray, List.set_cons_zero, List.set_cons_succ, i64_w, i32_w]
           rfl
          refine pure_ (i := 2) (N := some 27) (v := ?_) (a' := ?_) #[false, true, true, false, false, false, false, false, false, false, false, false, false, false, false, false, false, false] rfl rfl (any_of HT_.out (by kernel_rfl)) (fun _ _ _ h => h) (Or.inl ⟨by rfl, ?_⟩) ?_ ?_
          rotate_left
          ·
           intro w'
           go_simp
           with_reducible rfl
          rotate_left
          ·
           simp only [Act.put, List.setIfInBounds_toArray, List.set_cons_zero, List.set_cons_succ, i64_w, i32_w]
           rfl
          refine pure_ (i := 3) (N := some 28) (v := ?_) (a' := ?_) #[false, true, true, true, false, false, false, false, false, false, false, false, false, false, false, false, false, false] rfl rfl (any_of HT_.out (by kernel_rfl)) (fun _ _ _ h => h) (Or.inl ⟨by rfl, ?_⟩) ?_ ?_
          rotate_left
          ·
           intro w'
           go_simp
           with_reducible rfl
          rotate_left
          ·
           simp only [Act.put, List.setIfInBounds_toArray, List.set_cons_zero, List.set_cons_succ, i64_w, i32_w]
           rfl
          refine pure_ (i := 4) (N := some 29) (v := ?_) (a' := ?_) #[false, true, true, true, true, false, false, false, false, false, false, false, false, false, false, false, false, false] rfl rfl (any_of HT_.out (by kernel_rfl)) (fun _ _ _ h => h) (Or.inl ⟨by rfl, ?_⟩) ?_ ?_
          rotate_left
          ·
           intro w'
           go_simp
           with_reducible rfl
          rotate_left
          ·
           simp only [Act.put, List.setIfInBounds_toArray, List.set_cons_zero, List.set_cons_succ, i64_w, i32_w]
           rfl
          refine pure_ (i := 6) (N := some 31) (v := ?_) (a' := ?_) #[false, true, true, true, true, false, true, false, false, false, false, false, false, false, false, false, false, false] rfl rfl (any_of HT_.out (by kernel_rfl)) (fun _ _ _ h => h) (Or.inl ⟨by rfl, ?_⟩) ?_ ?_
          rotate_left
          ·
           intro w'
           go_simp
           with_reducible rfl
          rotate_left
          ·
           simp only [Act.put, List.setIfInBounds_toArray, List.set_cons_zero, List.set_cons_succ, i64_w, i32_w]
           rfl
          refine pure_ (i := 7) (N := some 32) (v := ?_) (a' := ?_) #[false, true, true, true, true, false, true, true, false, false, false, false, false, false, false, false, false, false] rfl rfl (any_of HT_.out (by kernel_rfl)) (fun _ _ _ h => h) (Or.inl ⟨by rfl, ?_⟩) ?_ ?_
          rotate_left
          ·
           intro w'
           go_simp
           with_reducible rfl
          rotate_left
          ·
           simp only [Act.put, List.setIfInBounds_toArray, List.set_cons_zero, List.set_cons_succ, i64_w, i32_w]
           rfl
          refine pure_ (i := 8) (N := some 33) (v := ?_) (a' := ?_) #[false, true, true, true, true, false, true, true, true, false, false, false, false, false, false, false, false, false] rfl rfl (any_of HT_.out (by kernel_rfl)) (fun _ _ _ h => h) (Or.inl ⟨by rfl, ?_⟩) ?_ ?_
          rotate_left
          ·
           intro w'
           go_simp
           with_reducible rfl
          rotate_left
          ·
           simp only [Act.put, List.setIfInBounds_toArray, List.set_cons_zero, List.set_cons_succ, i64_w, i32_w]
           rfl
          refine pure_ (i := 9) (N := some 34) (v := ?_) (a' := ?_) #[false, true, true, true, true, false, true, true, true, true, false, false, false, false, false, false, false, false] rfl rfl (any_of HT_.out (by kernel_rfl)) (fun _ _ _ h => h) (Or.inl ⟨by rfl, ?_⟩) ?_ ?_
          rotate_left
          ·
           intro w'
           go_simp
           with_reducible rfl
          rotate_left
          ·
           simp only [Act.put, List.setIfInBounds_toArray, List.set_cons_zero, List.set_cons_succ, i64_w, i32_w]
           rfl
          refine take_ (i := 0) (N := some 25) (v := ?_) (a' := ?_) #[true, true, true, true, true, false, true, true, true, true, false, false, false, false, false, false, false, false] rfl rfl (take_ofW HT_.out HW_.out (by kernel_rfl)) (fun _ _ _ h => h) (Or.inl ⟨by rfl, ?_⟩) hHeld ?_ ?_
          rotate_left
          ·
           rintro w' ⟨s0, s1, s2, s3, s4, s5, s6⟩
           go_simp
           with_reducible rfl
          rotate_left
          ·
           simp only [Act.put, List.setIfInBounds_toArray, List.set_cons_zero, List.set_cons_succ, i64_w, i32_w]
           rfl
          refine take_ (i := 5) (N := some 30) (v := ?_) (a' := ?_) #[true, true, true, true, true, true, true, true, true, true, false, false, false, false, false, false, false, false] rfl rfl (take_ofW HT_.out HW_.out (by kernel_rfl)) (fun _ _ _ h => h) (Or.inl ⟨by rfl, ?_⟩) hHeld ?_ ?_
          rotate_left
          ·
           rintro w' ⟨s0, s1, s2, s3, s4, s5, s6⟩
           go_simp
           with_reducible rfl
          rotate_left
          ·
           simp only [Act.put, List.setIfInBounds_toArray, List.set_cons_zero, List.set_cons_succ, i64_w, i32_w]
           rfl
          refine take_ (i := 10) (N := some 35) (v := ?_) (a' := ?_) #[true, true, true, true, true, true, true, true, true, true, true, false, false, false, false, false, false, false] rfl rfl (take_ofW HT_.out HW_.out (by kernel_rfl)) (fun _ _ _ h => h) (Or.inl ⟨by rfl, ?_⟩) hHeld ?_ ?_
          rotate_left
          ·
           rintro w' ⟨s0, s1, s2, s3, s4, s5, s6⟩
           go_simp
           with_reducible rfl
          rotate_left
          ·
           simp only [Act.put, List.setIfInBounds_toArray, List.set_cons_zero, List.set_cons_succ, i64_w, i32_w]
           rfl
          refine join_ (σ := Value × Nat) 2 #[true, true, true, true, true, true, true, true, true, true, true, true, true, true, true, true, false, false] (fun s_ => [(36, .tuple #[.agg #[.int .u64 t626, .int .u32 t627, s_.1], .int .i64 t631]), (6, .pointer (some ⟨s_.2, 0, none⟩)), (24, .tuple #[.agg #[.int .u64 t626, .int .u32 t627, s_.1], .int .i64 t631]), (37, .agg #[.int .u64 t626, .int .u32 t627, s_.1]), (38, .int .i64 t631)]) (fun s_ w' => (w'.cell? ⟨gb623, 0, none⟩ = some (.int .u64 x624000_1) ∧ w'.cell? ⟨gb623, 1, none⟩ = some (.int .u32 x624001_1) ∧ w'.cell? ⟨gb623, 2, none⟩ = some (.slice Ao15 x624002_1.length co15) ∧ w'.cell? (ad624.add ((x5_1).toNat * 2)) = some (.int .u64 ((rd_T76 l0 x5_1).f0)) ∧ w'.cell? ⟨(ad624.add ((x5_1).toNat * 2)).block, (ad624.add ((x5_1).toNat * 2)).off + 1, none⟩ = some (.int .u64 ((rd_T76 l0 x5_1).f1)) ∧ w'.cell? (ad624.add ((x5_1).toNat * 2)) = some (.int .u64 ((rd_T76 l0 x5_1).f0)) ∧ w'.cell? ⟨(ad624.add ((x5_1).toNat * 2)).block, (ad624.add ((x5_1).toNat * 2)).off + 1, none⟩ = some (.int .u64 ((rd_T76 l0 x5_1).f1))) ∧ (Kd.R (Kd.int .u8) 5 w' w.heap.size (fun k_ => some k_ ≠ (.slice Ao15 x624002_1.length co15 : Value).ownBlock) s_.1 t628) ∧ (Kd.R k76 76 w' w.heap.size (fun _ => True) u4 x4_1) ∧ (Kd.R (Kd.int .u8) 5 w' w.heap.size (fun k_ => some k_ ≠ (s_.1 : Value).ownBlock) (.slice Ao15 x624002_1.length co15) x624002_1) ∧ (w'.heap[gb623]? = some (.cells #[.int .u64 x624000_1, .int .u32 x624001_1, .slice Ao15 x624002_1.length co15] 26 (0, 0))) ∧ (w'.heap[s_.2]? = some (.cells #[.int .u64 0, .int .u32 0, .slice none 0 0] 26 (0, 0))) ∧ (w.heap.size ≤ s_.2) ∧ (w.heap.size ≤ s_.2) ∧ (gb623 ≠ s_.2) ∧ (s_.2 ≠ gb623) ∧ (Below w.heap.size w w')) ?_ ?_
          rotate_left
          ·
           intro hCont
           refine two_ (i := 11) (j := 15) (Ni := some 36) (Nj := some 6) #[true, true, true, true, true, true, true, true, true, true, true, true, false, false, false, false, false, false] #[true, true, true, true, true, true, true, true, true, true, true, false, false, false, false, true, false, false] rfl rfl rfl rfl (two_of HT_.out (by kernel_rfl)) (by decide) (by decide) (fun K hK => ?_) (fun K hK => ?_)
           ·
            skip
            refine goes_ Try.func37 (by kernel_rfl) rfl #[.agg #[.int .u64 x624000_1, .int .u32 x624001_1, .slice Ao15 x624002_1.length co15], .int .u64 ((rd_T76 l0 x5_1).f0), .int .u64 ((rd_T76 l0 x5_1).f1)] (by rfl) rfl rfl (by (try simp only [List.map_toArray, List.map_cons, List.map_nil]); first | done | rfl | (simp only [List.length_drop, List.length_take]; rfl)) ?_
            with_reducible refine (coder_PutNum.calls kj6 x624000_1 x624001_1 _ _ x624002_1 ((rd_T76 l0 x5_1).f0) ((rd_T76 l0 x5_1).f1) t626 t627 t628 t631 _ ?side1 ?side2 A12.out).mono ?_
            (case side1 => repeat (first | exact (Kd.R_reads' HO_624002.out).2.2 | (with_reducible refine Kd.C_alloc ?_ _) | (with_reducible refine Kd.C_drewN ?_ _) | (with_reducible refine Kd.C_drew ?_)))
            (case side2 => exact (Kd.R_reads' HO_624002.out).2.1)
            rintro e w17 ⟨v629, rfl, ho0, hb⟩
            refine ⟨_, rfl, ?_⟩
            have n0_ := zm (Kd.R_below (by (with_reducible repeat (first | apply zo | apply zp | apply zq)); exact HO_4.out) hb)
            have n1_ := zm (Kd.R_elder' (by (with_reducible repeat (first | apply zo | apply zp | apply zq)); exact HO_624002.out) (Kd.R_base ho0) hb)
            have n2_ := zm (Kd.R_lower (Kd.R_new' ho0 (Kd.R_lt (by (with_reducible repeat (first | apply zo | apply zp | apply zq)); exact HO_624002.out))) (zE (by repeat (first | (with_reducible first | exact HB.out | apply ze | apply zd | apply zf | refine zk ?_ GE623.out) | exact HB.out))))
            have n3_ := zm (zF (g := gb623) (o := .cells #[.int .u64 x624000_1, .int .u32 x624001_1, .slice Ao15 x624002_1.length co15] 26 (0, 0)) (by (with_reducible repeat (first | refine zh ?_ _ | refine zj ?_ | refine zi ?_ _)); exact BK623.out) hb)
            have n4_ := zm (zJ (by repeat (first | (with_reducible first | exact HB.out | apply ze | apply zd | apply zf | refine zk ?_ GE623.out) | exact HB.out)) hb)
            clear HO_4
            clear HO_624002
            clear BK623
            clear HB
            have HO_4 := n0_
            have HO_624002 := n1_
            have HO630 := n2_
            have BK623 := n3_
            have HB := n4_
            clear n0_ n1_ n2_ n3_ n4_
            (try clear hb)
            (try clear hb2)
            (try clear hk)
            (try clear hi)
            (try clear ho0)
            refine hK.out _ _ ⟨(zs BK623.out 0).trans rfl, (zs BK623.out 1).trans rfl, (zs BK623.out 2).trans rfl, ((HB.out.cell (zb w _ hw624_0)).trans hw624_0), ((HB.out.cell (zb w _ hw624_1)).trans hw624_1), ((HB.out.cell (zb w _ hw625_0)).trans hw625_0), ((HB.out.cell (zb w _ hw625_1)).trans hw625_1)⟩ (fun hHeld => ?_)
            clear hK K
            refine norm_ (a' := ?_) ?_ ?_
            rotate_left
            ·
             show Act.put _ (some 36) _ = _
             simp only [Act.put, List.setIfInBounds_toArray, List.set_cons_zero, List.set_cons_succ, i64_w, i32_w]
             rfl
            refine pure_ (i := 12) (N := some 24) (v := ?_) (a' := ?_) #[true, true, true, true, true, true, true, true, true, true, true, true, true, false, false, false, false, false] rfl rfl (any_of HT_.out (by kernel_rfl)) (fun _ _ _ h => h) (Or.inl ⟨by rfl, ?_⟩) ?_ ?_
            rotate_left
            ·
             intro w'
             go_simp
             with_reducible rfl
            rotate_left
            ·
             simp only [Act.put, List.setIfInBounds_toArray, List.set_cons_zero, List.set_cons_succ, i64_w, i32_w]
             rfl
            refine pure_ (i := 13) (N := some 37) (v := ?_) (a' := ?_) #[true, true, true, true, true, true, true, true, true, true, true, true, true, true, false, false, false, false] rfl rfl (any_of HT_.out (by kernel_rfl)) (fun _ _ _ h => h) (Or.inl ⟨by rfl, ?_⟩) ?_ ?_
            rotate_left
            ·
             intro w'
             go_simp
             with_reducible rfl
            rotate_left
            ·
             simp only [Act.put, List.setIfInBounds_toArray, List.set_cons_zero, List.set_cons_succ, i64_w, i32_w]
             rfl
            refine pure_ (i := 14) (N := some 38) (v := ?_) (a' := ?_) #[true, true, true, true, true, true, true, true, true, true, true, true, true, true, true, false, false, false] rfl rfl (any_of HT_.out (by kernel_rfl)) (fun _ _ _ h => h) (Or.inl ⟨by rfl, ?_⟩) ?_ ?_
            rotate_left
            ·
             intro w'
             go_simp
             with_reducible rfl
            rotate_left
            ·
             simp only [Act.put, List.setIfInBounds_toArray, List.set_cons_zero, List.set_cons_succ, i64_w, i32_w]
             rfl
            refine one_ (i := 15) (N := some 6) #[true, true, true, true, true, true, true, true, true, true, true, true, true, true, true, true, false, false] rfl rfl (one_of HT_.out (by kernel_rfl)) (by decide) (fun K hK => ?_)
            refine box_step ?hg (N := 6) ?hd (cs := #[.int .u64 0, .int .u32 0, .slice none 0 0]) (t := 26) ?hr ?_; (case hd => rfl); (case hg => rfl); (case hr => first | (go_simp; done) | (go_simp; rfl))
            intro gb632 hg w18 hbox hb
            have n0_ := zm (Kd.R_below (by (with_reducible repeat (first | apply zo | apply zp | apply zq)); exact HO_4.out) hb)
            have n1_ := zm (Kd.R_below (by (with_reducible repeat (first | apply zo | apply zp | apply zq)); exact HO_624002.out) hb)
            have n2_ := zm (Kd.R_below (by (with_reducible repeat (first | apply zo | apply zp | apply zq)); exact HO630.out) hb)
            have n3_ := zm (zF (g := gb623) (o := .cells #[.int .u64 x624000_1, .int .u32 x624001_1, .slice Ao15 x624002_1.length co15] 26 (0, 0)) (by (with_reducible repeat (first | refine zh ?_ _ | refine zj ?_ | refine zi ?_ _)); exact BK623.out) hb)
            have n4_ := zm (zJ (by repeat (first | (with_reducible first | exact HB.out | apply ze | apply zd | apply zf | refine zk ?_ GE623.out) | exact HB.out)) hb)
            have n5_ := zm (hbox)
            have n6_ := zm ((by rw [hg]; exact (zE (by repeat (first | (with_reducible first | exact HB.out | apply ze | apply zd | apply zf | refine zk ?_ GE623.out) | exact HB.out))) : w.heap.size ≤ gb632))
            have n7_ := zm ((by rw [hg]; exact (zE (by repeat (first | (with_reducible first | exact HB.out | apply ze | apply zd | apply zf | refine zk ?_ GE623.out) | exact HB.out))) : w.heap.size ≤ gb632))
            have n8_ := zm ((by rw [hg]; exact zn (zD (g := gb623) (o := .cells #[.int .u64 x624000_1, .int .u32 x624001_1, .slice Ao15 x624002_1.length co15] 26 (0, 0)) (by (with_reducible repeat (first | refine zh ?_ _ | refine zj ?_ | refine zi ?_ _)); exact BK623.out)) : gb623 ≠ gb632))
            have n9_ := zm ((by rw [hg]; exact zg (zD (g := gb623) (o := .cells #[.int .u64 x624000_1, .int .u32 x624001_1, .slice Ao15 x624002_1.length co15] 26 (0, 0)) (by (with_reducible repeat (first | refine zh ?_ _ | refine zj ?_ | refine zi ?_ _)); exact BK623.out)) : gb632 ≠ gb623))
            clear HO_4
            clear HO_624002
            clear HO630
            clear BK623
            clear HB
            have HO_4 := n0_
            have HO_624002 := n1_
            have HO630 := n2_
            have BK623 := n3_
            have HB := n4_
            have BK632 := n5_
            have GW632 := n6_
            have GE632 := n7_
            have NB623_632 := n8_
            have NB632_623 := n9_
            clear n0_ n1_ n2_ n3_ n4_ n5_ n6_ n7_ n8_ n9_
            clear hb hbox hg
            refine hK.out _ _ ⟨(zs BK623.out 0).trans rfl, (zs BK623.out 1).trans rfl, (zs BK623.out 2).trans rfl, ((HB.out.cell (zb w _ hw624_0)).trans hw624_0), ((HB.out.cell (zb w _ hw624_1)).trans hw624_1), ((HB.out.cell (zb w _ hw625_0)).trans hw625_0), ((HB.out.cell (zb w _ hw625_1)).trans hw625_1)⟩ (fun hHeld => ?_)
            clear hK K
            refine norm_ (a' := ?_) ?_ ?_
            rotate_left
            ·
             show Act.put _ (some 6) _ = _
             simp only [Act.put, List.setIfInBounds_toArray, List.set_cons_zero, List.set_cons_succ, i64_w, i32_w]
             rfl
            exact norm_ (by simp only [putAll, Act.put, List.setIfInBounds_toArray, List.set_cons_zero, List.set_cons_succ]) (hCont (v629, gb632) _ ⟨hHeld, (by (with_reducible repeat (first | apply zo | apply zp | apply zq)); exact zG HO630.out (fun _ hk => hk.2)), (by (with_reducible repeat (first | apply zo | apply zp | apply zq)); exact HO_4.out), (by (with_reducible repeat (first | apply zo | apply zp | apply zq)); exact zG HO_624002.out (fun _ hk => hk.2)), (by (with_reducible repeat (first | refine zh ?_ _ | refine zj ?_ | refine zi ?_ _)); exact BK623.out), (by (with_reducible repeat (first | refine zh ?_ _ | refine zj ?_ | refine zi ?_ _)); exact BK632.out), GW632.out, GE632.out, NB623_632.out, NB632_623.out, (by repeat (first | (with_reducible first | exact HB.out | apply ze | apply zd | apply zf | refine zk ?_ GE623.out | refine zk ?_ GE632.out) | exact HB.out))⟩)
           ·
            skip
            refine box_step ?hg (N := 6) ?hd (cs := #[.int .u64 0, .int .u32 0, .slice none 0 0]) (t := 26) ?hr ?_; (case hd => rfl); (case hg => rfl); (case hr => first | (go_simp; done) | (go_simp; rfl))
            intro gb632 hg w17 hbox hb
            have n0_ := zm (Kd.R_below (by (with_reducible repeat (first | apply zo | apply zp | apply zq)); exact HO_4.out) hb)
            have n1_ := zm (Kd.R_below (by (with_reducible repeat (first | apply zo | apply zp | apply zq)); exact HO_624002.out) hb)
            have n2_ := zm (zF (g := gb623) (o := .cells #[.int .u64 x624000_1, .int .u32 x624001_1, .slice Ao15 x624002_1.length co15] 26 (0, 0)) (by (with_reducible repeat (first | refine zh ?_ _ | refine zj ?_ | refine zi ?_ _)); exact BK623.out) hb)
            have n3_ := zm (zJ (by repeat (first | (with_reducible first | exact HB.out | apply ze | apply zd | apply zf | refine zk ?_ GE623.out) | exact HB.out)) hb)
            have n4_ := zm (hbox)
            have n5_ := zm ((by rw [hg]; exact (zE (by repeat (first | (with_reducible first | exact HB.out | apply ze | apply zd | apply zf | refine zk ?_ GE623.out) | exact HB.out))) : w.heap.size ≤ gb632))
            have n6_ := zm ((by rw [hg]; exact (zE (by repeat (first | (with_reducible first | exact HB.out | apply ze | apply zd | apply zf | refine zk ?_ GE623.out) | exact HB.out))) : w.heap.size ≤ gb632))
            have n7_ := zm ((by rw [hg]; exact zn (zD (g := gb623) (o := .cells #[.int .u64 x624000_1, .int .u32 x624001_1, .slice Ao15 x624002_1.length co15] 26 (0, 0)) (by (with_reducible repeat (first | refine zh ?_ _ | refine zj ?_ | refine zi ?_ _)); exact BK623.out)) : gb623 ≠ gb632))
            have n8_ := zm ((by rw [hg]; exact zg (zD (g := gb623) (o := .cells #[.int .u64 x624000_1, .int .u32 x624001_1, .slice Ao15 x624002_1.length co15] 26 (0, 0)) (by (with_reducible repeat (first | refine zh ?_ _ | refine zj ?_ | refine zi ?_ _)); exact BK623.out)) : gb632 ≠ gb623))
            clear HO_4
            clear HO_624002
            clear BK623
            clear HB
            have HO_4 := n0_
            have HO_624002 := n1_
            have BK623 := n2_
            have HB := n3_
            have BK632 := n4_
            have GW632 := n5_
            have GE632 := n6_
            have NB623_632 := n7_
            have NB632_623 := n8_
            clear n0_ n1_ n2_ n3_ n4_ n5_ n6_ n7_ n8_
            clear hb hbox hg
            refine hK.out _ _ ⟨(zs BK623.out 0).trans rfl, (zs BK623.out 1).trans rfl, (zs BK623.out 2).trans rfl, ((HB.out.cell (zb w _ hw624_0)).trans hw624_0), ((HB.out.cell (zb w _ hw624_1)).trans hw624_1), ((HB.out.cell (zb w _ hw625_0)).trans hw625_0), ((HB.out.cell (zb w _ hw625_1)).trans hw625_1)⟩ (fun hHeld => ?_)
            clear hK K
            refine norm_ (a' := ?_) ?_ ?_
            rotate_left
            ·
             show Act.put _ (some 6) _ = _
             simp only [Act.put, List.setIfInBounds_toArray, List.set_cons_zero, List.set_cons_succ, i64_w, i32_w]
             rfl
            refine one_ (i := 11) (N := some 36) #[true, true, true, true, true, true, true, true, true, true, true, true, false, false, false, true, false, false] rfl rfl (one_of HT_.out (by kernel_rfl)) (by decide) (fun K hK => ?_)
            refine goes_ Try.func37 (by kernel_rfl) rfl #[.agg #[.int .u64 x624000_1, .int .u32 x624001_1, .slice Ao15 x624002_1.length co15], .int .u64 ((rd_T76 l0 x5_1).f0), .int .u64 ((rd_T76 l0 x5_1).f1)] (by rfl) rfl rfl (by (try simp only [List.map_toArray, List.map_cons, List.map_nil]); first | done | rfl | (simp only [List.length_drop, List.length_take]; rfl)) ?_
            with_reducible refine (coder_PutNum.calls kj6 x624000_1 x624001_1 _ _ x624002_1 ((rd_T76 l0 x5_1).f0) ((rd_T76 l0 x5_1).f1) t626 t627 t628 t631 _ ?side1 ?side2 A12.out).mono ?_
            (case side1 => repeat (first | exact (Kd.R_reads' HO_624002.out).2.2 | (with_reducible refine Kd.C_alloc ?_ _) | (with_reducible refine Kd.C_drewN ?_ _) | (with_reducible refine Kd.C_drew ?_)))
            (case side2 => exact (Kd.R_reads' HO_624002.out).2.1)
            rintro e w18 ⟨v629, rfl, ho0, hb⟩
            refine ⟨_, rfl, ?_⟩
            have n0_ := zm (Kd.R_below (by (with_reducible repeat (first | apply zo | apply zp | apply zq)); exact HO_4.out) hb)
            have n1_ := zm (Kd.R_elder' (by (with_reducible repeat (first | apply zo | apply zp | apply zq)); exact HO_624002.out) (Kd.R_base ho0) hb)
            have n2_ := zm (Kd.R_lower (Kd.R_new' ho0 (Kd.R_lt (by (with_reducible repeat (first | apply zo | apply zp | apply zq)); exact HO_624002.out))) (zE (by repeat (first | (with_reducible first | exact HB.out | apply ze | apply zd | apply zf | refine zk ?_ GE623.out | refine zk ?_ GE632.out) | exact HB.out))))
            have n3_ := zm (zF (g := gb623) (o := .cells #[.int .u64 x624000_1, .int .u32 x624001_1, .slice Ao15 x624002_1.length co15] 26 (0, 0)) (by (with_reducible repeat (first | refine zh ?_ _ | refine zj ?_ | refine zi ?_ _)); exact BK623.out) hb)
            have n4_ := zm (zF (g := gb632) (o := .cells #[.int .u64 0, .int .u32 0, .slice none 0 0] 26 (0, 0)) (by (with_reducible repeat (first | refine zh ?_ _ | refine zj ?_ | refine zi ?_ _)); exact BK632.out) hb)
            have n5_ := zm (zJ (by repeat (first | (with_reducible first | exact HB.out | apply ze | apply zd | apply zf | refine zk ?_ GE623.out | refine zk ?_ GE632.out) | exact HB.out)) hb)
            clear HO_4
            clear HO_624002
            clear BK623
            clear BK632
            clear HB
            have HO_4 := n0_
            have HO_624002 := n1_
            have HO630 := n2_
            have BK623 := n3_
            have BK632 := n4_
            have HB := n5_
            clear n0_ n1_ n2_ n3_ n4_ n5_
            (try clear hb)
            (try clear hb2)
            (try clear hk)
            (try clear hi)
            (try clear ho0)
            refine hK.out _ _ ⟨(zs BK623.out 0).trans rfl, (zs BK623.out 1).trans rfl, (zs BK623.out 2).trans rfl, ((HB.out.cell (zb w _ hw624_0)).trans hw624_0), ((HB.out.cell (zb w _ hw624_1)).trans hw624_1), ((HB.out.cell (zb w _ hw625_0)).trans hw625_0), ((HB.out.cell (zb w _ hw625_1)).trans hw625_1)⟩ (fun hHeld => ?_)
            clear hK K
            refine norm_ (a' := ?_) ?_ ?_
            rotate_left
            ·
             show Act.put _ (some 36) _ = _
             simp only [Act.put, List.setIfInBounds_toArray, List.set_cons_zero, List.set_cons_succ, i64_w, i32_w]
             rfl
            refine pure_ (i := 12) (N := some 24) (v := ?_) (a' := ?_) #[true, true, true, true, true, true, true, true, true, true, true, true, true, false, false, true, false, false] rfl rfl (any_of HT_.out (by kernel_rfl)) (fun _ _ _ h => h) (Or.inl ⟨by rfl, ?_⟩) ?_ ?_
            rotate_left
            ·
             intro w'
             go_simp
             with_reducible rfl
            rotate_left
            ·
             simp only [Act.put, List.setIfInBounds_toArray, List.set_cons_zero, List.set_cons_succ, i64_w, i32_w]
             rfl
            refine pure_ (i := 13) (N := some 37) (v := ?_) (a' := ?_) #[true, true, true, true, true, true, true, true, true, true, true, true, true, true, false, true, false, false] rfl rfl (any_of HT_.out (by kernel_rfl)) (fun _ _ _ h => h) (Or.inl ⟨by rfl, ?_⟩) ?_ ?_
            rotate_left
            ·
             intro w'
             go_simp
             with_reducible rfl
            rotate_left
            ·
             simp only [Act.put, List.setIfInBounds_toArray, List.set_cons_zero, List.set_cons_succ, i64_w, i32_w]
             rfl
            refine pure_ (i := 14) (N := some 38) (v := ?_) (a' := ?_) #[true, true, true, true, true, true, true, true, true, true, true, true, true, true, true, true, false, false] rfl rfl (any_of HT_.out (by kernel_rfl)) (fun _ _ _ h => h) (Or.inl ⟨by rfl, ?_⟩) ?_ ?_
            rotate_left
            ·
             intro w'
             go_simp
             with_reducible rfl
            rotate_left
            ·
             simp only [Act.put, List.setIfInBounds_toArray, List.set_cons_zero, List.set_cons_succ, i64_w, i32_w]
             rfl
            exact norm_ (by simp only [putAll, Act.put, List.setIfInBounds_toArray, List.set_cons_zero, List.set_cons_succ]) (hCont (v629, gb632) _ ⟨hHeld, (by (with_reducible repeat (first | apply zo | apply zp | apply zq)); exact zG HO630.out (fun _ hk => hk.2)), (by (with_reducible repeat (first | apply zo | apply zp | apply zq)); exact HO_4.out), (by (with_reducible repeat (first | apply zo | apply zp | apply zq)); exact zG HO_624002.out (fun _ hk => hk.2)), (by (with_reducible repeat (first | refine zh ?_ _ | refine zj ?_ | refine zi ?_ _)); exact BK623.out), (by (with_reducible repeat (first | refine zh ?_ _ | refine zj ?_ | refine zi ?_ _)); exact BK632.out), GW632.out, GE632.out, NB623_632.out, NB632_623.out, (by repeat (first | (with_reducible first | exact HB.out | apply ze | apply zd | apply zf | refine zk ?_ GE623.out | refine zk ?_ GE632.out) | exact HB.out))⟩)
          rintro ⟨v629, gb632⟩ w19 ⟨hS_, h0_, h1_, h2_, h3_, h4_, h5_, h6_, h7_, h8_, h9_⟩
          have n0_ : Aside0 (Kd.R (Kd.int .u8) 5 w19 w.heap.size (fun k_ => some k_ ≠ (.slice Ao15 x624002_1.length co15 : Value).ownBlock) v629 t628) := ⟨h0_⟩
          have n1_ : Aside0 (Kd.R k76 76 w19 w.heap.size (fun _ => True) u4 x4_1) := ⟨h1_⟩
          have n2_ : Aside0 (Kd.R (Kd.int .u8) 5 w19 w.heap.size (fun k_ => some k_ ≠ (v629 : Value).ownBlock) (.slice Ao15 x624002_1.length co15) x624002_1) := ⟨h2_⟩
          have n3_ : Aside0 (w19.heap[gb623]? = some (.cells #[.int .u64 x624000_1, .int .u32 x624001_1, .slice Ao15 x624002_1.length co15] 26 (0, 0))) := ⟨h3_⟩
          have n4_ : Aside0 (w19.heap[gb632]? = some (.cells #[.int .u64 0, .int .u32 0, .slice none 0 0] 26 (0, 0))) := ⟨h4_⟩
          have n5_ : Aside0 (w.heap.size ≤ gb632) := ⟨h5_⟩
          have n6_ : Aside0 (w.heap.size ≤ gb632) := ⟨h6_⟩
          have n7_ : Aside0 (gb623 ≠ gb632) := ⟨h7_⟩
          have n8_ : Aside0 (gb632 ≠ gb623) := ⟨h8_⟩
          have n9_ : Aside0 (Below w.heap.size w w19) := ⟨h9_⟩
          clear HO_4
          clear HO_624002
          clear BK623
          clear HB
          clear h0_ h1_ h2_ h3_ h4_ h5_ h6_ h7_ h8_ h9_
          have HO630 := n0_
          have HO_4 := n1_
          have HO_624002 := n2_
          have BK623 := n3_
          have BK632 := n4_
          have GW632 := n5_
          have GE632 := n6_
          have NB623_632 := n7_
          have NB632_623 := n8_
          have HB := n9_
          clear n0_ n1_ n2_ n3_ n4_ n5_ n6_ n7_ n8_ n9_
          have hHeld : w19.cell? ⟨gb623, 0, none⟩ = some (.int .u64 x624000_1) ∧ w19.cell? ⟨gb623, 1, none⟩ = some (.int .u32 x624001_1) ∧ w19.cell? ⟨gb623, 2, none⟩ = some (.slice Ao15 x624002_1.length co15) ∧ w19.cell? (ad624.add ((x5_1).toNat * 2)) = some (.int .u64 ((rd_T76 l0 x5_1).f0)) ∧ w19.cell? ⟨(ad624.add ((x5_1).toNat * 2)).block, (ad624.add ((x5_1).toNat * 2)).off + 1, none⟩ = some (.int .u64 ((rd_T76 l0 x5_1).f1)) ∧ w19.cell? (ad624.add ((x5_1).toNat * 2)) = some (.int .u64 ((rd_T76 l0 x5_1).f0)) ∧ w19.cell? ⟨(ad624.add ((x5_1).toNat * 2)).block, (ad624.add ((x5_1).toNat * 2)).off + 1, none⟩ = some (.int .u64 ((rd_T76 l0 x5_1).f1)) := hS_
          obtain ⟨Ao22, co22, eo22⟩ := Kd.R_slice HO630.out
          (first | subst eo22 | (injection eo22 with f1_ f2_ f3_; have f4_ := f1_.symm; have f5_ := f3_.symm; clear f1_ f2_ f3_; subst f4_; subst f5_))
          refine norm_ (a' := ?_) ?_ ?_
          rotate_left
          ·
           simp only [putAll, Act.put, List.setIfInBounds_toArray, List.set_cons_zero, List.set_cons_succ]
           rfl
          refine one_ (i := 16) (N := none) #[true, true, true, true, true, true, true, true, true, true, true, true, true, true, true, true, true, false] rfl rfl (one_of HT_.out (by kernel_rfl)) (by decide) (fun K hK => ?_)
          have hs20 : w19.cell? ⟨gb632, 0, none⟩ = some (.int .u64 0) := (zs BK632.out 0).trans rfl
          have hfs20 := zx BK632.out 0
          have hns20_0 := NB623_632.out
          have hms20_0 := NB632_623.out
          have hs21 : w19.cell? ⟨gb632, 1, none⟩ = some (.int .u32 0) := (zs BK632.out 1).trans rfl
          have hfs21 := zx BK632.out 1
          have hns21_0 := NB623_632.out
          have hms21_0 := NB632_623.out
          have hs23 : w19.cell? ⟨gb632, 2, none⟩ = some (.slice none 0 0) := (zs BK632.out 2).trans rfl
          have hfs23 := zx BK632.out 2
          have hns23_0 := NB623_632.out
          have hms23_0 := NB632_623.out
          refine skip_ (w1 := ?_) (by rfl) rfl ?_ ?_
          rotate_left
          ·
           go_simp
           rfl
          refine hK.out _ _ ⟨((zr (p := ⟨gb632, _, none⟩) NB623_632.out _).trans (((zr (p := ⟨gb632, _, none⟩) NB623_632.out _).trans (((zr (p := ⟨gb632, _, none⟩) NB623_632.out _).trans (hHeld.1)))))), ((zr (p := ⟨gb632, _, none⟩) NB623_632.out _).trans (((zr (p := ⟨gb632, _, none⟩) NB623_632.out _).trans (((zr (p := ⟨gb632, _, none⟩) NB623_632.out _).trans (hHeld.2.1)))))), ((zr (p := ⟨gb632, _, none⟩) NB623_632.out _).trans (((zr (p := ⟨gb632, _, none⟩) NB623_632.out _).trans (((zr (p := ⟨gb632, _, none⟩) NB623_632.out _).trans (hHeld.2.2.1)))))), ((zr (p := ⟨gb632, _, none⟩) (by first | exact zn (zl (by have := zb _ _ hw624_0; first | rwa [za] at this | exact this) GW632.out) | (rw [za]; exact zn (zl (by have := zb _ _ hw624_0; first | rwa [za] at this | exact this) GW632.out)) | (show (Addr.add _ _).block ≠ _; rw [za]; exact zn (zl (by have := zb _ _ hw624_0; first | rwa [za] at this | exact this) GW632.out)) | (dsimp only; exact zn (zl (by have := zb _ _ hw624_0; first | rwa [za] at this | exact this) GW632.out))) _).trans (((zr (p := ⟨gb632, _, none⟩) (by first | exact zn (zl (by have := zb _ _ hw624_0; first | rwa [za] at this | exact this) GW632.out) | (rw [za]; exact zn (zl (by have := zb _ _ hw624_0; first | rwa [za] at this | exact this) GW632.out)) | (show (Addr.add _ _).block ≠ _; rw [za]; exact zn (zl (by have := zb _ _ hw624_0; first | rwa [za] at this | exact this) GW632.out)) | (dsimp only; exact zn (zl (by have := zb _ _ hw624_0; first | rwa [za] at this | exact this) GW632.out))) _).trans (((zr (p := ⟨gb632, _, none⟩) (by first | exact zn (zl (by have := zb _ _ hw624_0; first | rwa [za] at this | exact this) GW632.out) | (rw [za]; exact zn (zl (by have := zb _ _ hw624_0; first | rwa [za] at this | exact this) GW632.out)) | (show (Addr.add _ _).block ≠ _; rw [za]; exact zn (zl (by have := zb _ _ hw624_0; first | rwa [za] at this | exact this) GW632.out)) | (dsimp only; exact zn (zl (by have := zb _ _ hw624_0; first | rwa [za] at this | exact this) GW632.out))) _).trans (hHeld.2.2.2.1)))))), ((zr (p := ⟨gb632, _, none⟩) (by first | exact zn (zl (by have := zb _ _ hw624_1; first | rwa [za] at this | exact this) GW632.out) | (rw [za]; exact zn (zl (by have := zb _ _ hw624_1; first | rwa [za] at this | exact this) GW632.out)) | (show (Addr.add _ _).block ≠ _; rw [za]; exact zn (zl (by have := zb _ _ hw624_1; first | rwa [za] at this | exact this) GW632.out)) | (dsimp only; exact zn (zl (by have := zb _ _ hw624_1; first | rwa [za] at this | exact this) GW632.out))) _).trans (((zr (p := ⟨gb632, _, none⟩) (by first | exact zn (zl (by have := zb _ _ hw624_1; first | rwa [za] at this | exact this) GW632.out) | (rw [za]; exact zn (zl (by have := zb _ _ hw624_1; first | rwa [za] at this | exact this) GW632.out)) | (show (Addr.add _ _).block ≠ _; rw [za]; exact zn (zl (by have := zb _ _ hw624_1; first | rwa [za] at this | exact this) GW632.out)) | (dsimp only; exact zn (zl (by have := zb _ _ hw624_1; first | rwa [za] at this | exact this) GW632.out))) _).trans (((zr (p := ⟨gb632, _, none⟩) (by first | exact zn (zl (by have := zb _ _ hw624_1; first | rwa [za] at this | exact this) GW632.out) | (rw [za]; exact zn (zl (by have := zb _ _ hw624_1; first | rwa [za] at this | exact this) GW632.out)) | (show (Addr.add _ _).block ≠ _; rw [za]; exact zn (zl (by have := zb _ _ hw624_1; first | rwa [za] at this | exact this) GW632.out)) | (dsimp only; exact zn (zl (by have := zb _ _ hw624_1; first | rwa [za] at this | exact this) GW632.out))) _).trans (hHeld.2.2.2.2.1)))))), ((zr (p := ⟨gb632, _, none⟩) (by first | exact zn (zl (by have := zb _ _ hw625_0; first | rwa [za] at this | exact this) GW632.out) | (rw [za]; exact zn (zl (by have := zb _ _ hw625_0; first | rwa [za] at this | exact this) GW632.out)) | (show (Addr.add _ _).block ≠ _; rw [za]; exact zn (zl (by have := zb _ _ hw625_0; first | rwa [za] at this | exact this) GW632.out)) | (dsimp only; exact zn (zl (by have := zb _ _ hw625_0; first | rwa [za] at this | exact this) GW632.out))) _).trans (((zr (p := ⟨gb632, _, none⟩) (by first | exact zn (zl (by have := zb _ _ hw625_0; first | rwa [za] at this | exact this) GW632.out) | (rw [za]; exact zn (zl (by have := zb _ _ hw625_0; first | rwa [za] at this | exact this) GW632.out)) | (show (Addr.add _ _).block ≠ _; rw [za]; exact zn (zl (by have := zb _ _ hw625_0; first | rwa [za] at this | exact this) GW632.out)) | (dsimp only; exact zn (zl (by have := zb _ _ hw625_0; first | rwa [za] at this | exact this) GW632.out))) _).trans (((zr (p := ⟨gb632, _, none⟩) (by first | exact zn (zl (by have := zb _ _ hw625_0; first | rwa [za] at this | exact this) GW632.out) | (rw [za]; exact zn (zl (by have := zb _ _ hw625_0; first | rwa [za] at this | exact this) GW632.out)) | (show (Addr.add _ _).block ≠ _; rw [za]; exact zn (zl (by have := zb _ _ hw625_0; first | rwa [za] at this | exact this) GW632.out)) | (dsimp only; exact zn (zl (by have := zb _ _ hw625_0; first | rwa [za] at this | exact this) GW632.out))) _).trans (hHeld.2.2.2.2.2.1)))))), ((zr (p := ⟨gb632, _, none⟩) (by first | exact zn (zl (by have := zb _ _ hw625_1; first | rwa [za] at this | exact this) GW632.out) | (rw [za]; exact zn (zl (by have := zb _ _ hw625_1; first | rwa [za] at this | exact this) GW632.out)) | (show (Addr.add _ _).block ≠ _; rw [za]; exact zn (zl (by have := zb _ _ hw625_1; first | rwa [za] at this | exact this) GW632.out)) | (dsimp only; exact zn (zl (by have := zb _ _ hw625_1; first | rwa [za] at this | exact this) GW632.out))) _).trans (((zr (p := ⟨gb632, _, none⟩) (by first | exact zn (zl (by have := zb _ _ hw625_1; first | rwa [za] at this | exact this) GW632.out) | (rw [za]; exact zn (zl (by have := zb _ _ hw625_1; first | rwa [za] at this | exact this) GW632.out)) | (show (Addr.add _ _).block ≠ _; rw [za]; exact zn (zl (by have := zb _ _ hw625_1; first | rwa [za] at this | exact this) GW632.out)) | (dsimp only; exact zn (zl (by have := zb _ _ hw625_1; first | rwa [za] at this | exact this) GW632.out))) _).trans (((zr (p := ⟨gb632, _, none⟩) (by first | exact zn (zl (by have := zb _ _ hw625_1; first | rwa [za] at this | exact this) GW632.out) | (rw [za]; exact zn (zl (by have := zb _ _ hw625_1; first | rwa [za] at this | exact this) GW632.out)) | (show (Addr.add _ _).block ≠ _; rw [za]; exact zn (zl (by have := zb _ _ hw625_1; first | rwa [za] at this | exact this) GW632.out)) | (dsimp only; exact zn (zl (by have := zb _ _ hw625_1; first | rwa [za] at this | exact this) GW632.out))) _).trans (hHeld.2.2.2.2.2.2))))))⟩ (fun hHeld => ?_)
          clear hK K
          refine pure_ (i := 17) (N := some 7) (v := ?_) (a' := ?_) #[true, true, true, true, true, true, true, true, true, true, true, true, true, true, true, true, true, true] rfl rfl (any_of HT_.out (by kernel_rfl)) (fun _ _ _ h => h) (Or.inl ⟨by rfl, ?_⟩) ?_ ?_
          rotate_left
          ·
           intro w'
           go_simp
           with_reducible rfl
          rotate_left
          ·
           simp only [Act.put, List.setIfInBounds_toArray, List.set_cons_zero, List.set_cons_succ, i64_w, i32_w]
           rfl
          refine done_ (done_of HT_.out (by kernel_rfl)) ?_
          have p633 : 0 ≤ (x5_1 : Int) := of_decide_eq_true (by first | (with_reducible assumption) | assumption)
          have q633 : x5_1 < (l0.length : Int) := of_decide_eq_true (by first | (with_reducible assumption) | assumption)
          obtain ⟨ad633, e633, hx633_0, hx633_1⟩ := at_T76 HR0.out x5_1 p633 q633
          obtain rfl : ad624 = ad633 := (by injection e633)
          have hn633_0 : ad624.block ≠ gb632 := zn (zl (by have := zb _ _ hx633_0; first | rwa [za] at this | exact this) GW632.out)
          have hn633_1 : ad624.block ≠ gb632 := zn (zl (by have := zb _ _ hx633_0; first | rwa [za] at this | exact this) GW632.out)
          have hn633_2 : ad624.block ≠ gb632 := zn (zl (by have := zb _ _ hx633_0; first | rwa [za] at this | exact this) GW632.out)
          replace hx633_0 := (HB.out.cell (zb w _ hx633_0)).trans hx633_0
          replace hx633_1 := (HB.out.cell (zb w _ hx633_1)).trans hx633_1
          replace hx633_0 := (zr (p := ⟨gb632, 0, none⟩) (by first | (rw [za]; exact hn633_0) | (show (Addr.add _ _).block ≠ _; rw [za]; exact hn633_0) | exact hn633_0) (.int .u64 t626)).trans hx633_0
          replace hx633_1 := (zr (p := ⟨gb632, 0, none⟩) (by first | (rw [za]; exact hn633_0) | (show (Addr.add _ _).block ≠ _; rw [za]; exact hn633_0) | exact hn633_0) (.int .u64 t626)).trans hx633_1
          replace hx633_0 := (zr (p := ⟨gb632, 1, none⟩) (by first | (rw [za]; exact hn633_1) | (show (Addr.add _ _).block ≠ _; rw [za]; exact hn633_1) | exact hn633_1) (.int .u32 t627)).trans hx633_0
          replace hx633_1 := (zr (p := ⟨gb632, 1, none⟩) (by first | (rw [za]; exact hn633_1) | (show (Addr.add _ _).block ≠ _; rw [za]; exact hn633_1) | exact hn633_1) (.int .u32 t627)).trans hx633_1
          replace hx633_0 := (zr (p := ⟨gb632, 2, none⟩) (by first | (rw [za]; exact hn633_2) | (show (Addr.add _ _).block ≠ _; rw [za]; exact hn633_2) | exact hn633_2) (.slice Ao22 t628.length co22)).trans hx633_0
          replace hx633_1 := (zr (p := ⟨gb632, 2, none⟩) (by first | (rw [za]; exact hn633_2) | (show (Addr.add _ _).block ≠ _; rw [za]; exact hn633_2) | exact hn633_2) (.slice Ao22 t628.length co22)).trans hx633_1
          clear hn633_0
          clear hn633_1
          clear hn633_2
          replace p633 := eq_true p633
          replace q633 := eq_true q633
          try go_wp2_with (first | ((with_reducible refine gate_builtin (b := .append) (xs := #[.tmp 41, .tmp 46]) rfl ?_); at_builtin; refine Kd.R_append k76 (w0 := w) w.heap.size rfl (.tmp 41) (.tmp 46) 74 76 (.agg #[(.int .u64 0), (.int .u64 0)]) 16 rfl Try.underlying74 info76 rfl (by decide) (by omega) u4 x4_1 (⟨(rd_T76 l0 x5_1).f0, (rd_T76 l0 x5_1).f1⟩ : S76) [.int .u64 ((rd_T76 l0 x5_1).f0), .int .u64 ((rd_T76 l0 x5_1).f1)] (fun _ => True) (fun _ => False) rfl (by first | (go_simp; done) | (go_simp; rfl)) ?aP (fun _ hk => hk.elim) ?aF ?aO ?aB ?aS ?aL ?_; (case aP => exact k76_mkM _ _ _ (⟨(rd_T76 l0 x5_1).f0, (rd_T76 l0 x5_1).f1⟩ : S76)); (case aB => exact (by repeat (first | (with_reducible first | exact HB.out | apply ze | apply zd | apply zf | refine zk ?_ GE623.out | refine zk ?_ GE632.out) | exact HB.out))); (case aF => exact (fun _ _ => trivial)); (case aO => exact (by (with_reducible repeat (first | apply zo | apply zp | apply zq)); exact zG (zH (p := ⟨gb632, 2, none⟩) (zH (p := ⟨gb632, 1, none⟩) (zH (p := ⟨gb632, 0, none⟩) (Kd.R_types HO_4.out BK632.out (by decide)) (fun _ hk => hk.2) (.int .u64 t626)) (fun _ hk => hk.2) (.int .u32 t627)) (fun _ hk => hk.2) (.slice Ao22 t628.length co22)) (fun _ hk => trivial))); (case aS => exact (zE (by repeat (first | (with_reducible first | exact HB.out | apply ze | apply zd | apply zf | refine zk ?_ GE623.out | refine zk ?_ GE632.out) | exact HB.out)))); (case aL => have := LMc14.out; omega); intro v635 w24 ho hb hg hat; rw [← Ny634.out] at ho; have n0_ := zm (Kd.R_over' (by (with_reducible repeat (first | apply zo | apply zp | apply zq)); exact (zG (zH (p := ⟨gb632, 2, none⟩) (zH (p := ⟨gb632, 1, none⟩) (zH (p := ⟨gb632, 0, none⟩) (Kd.R_types HO_624002.out BK632.out (by decide)) (fun _ hk => hk.2) (.int .u64 t626)) (fun _ hk => hk.2) (.int .u32 t627)) (fun _ hk => hk.2) (.slice Ao22 t628.length co22)) (fun _ h_ => h_.1))) (Kd.R_typed (by (with_reducible repeat (first | apply zo | apply zp | apply zq)); exact (zG (zH (p := ⟨gb632, 2, none⟩) (zH (p := ⟨gb632, 1, none⟩) (zH (p := ⟨gb632, 0, none⟩) (Kd.R_types HO_4.out BK632.out (by decide)) (fun _ hk => hk.2) (.int .u64 t626)) (fun _ hk => hk.2) (.int .u32 t627)) (fun _ hk => hk.2) (.slice Ao22 t628.length co22)) (fun _ h_ => h_.1)))) (by decide) hg); have n1_ := zm (blk_grown (g := gb623) (o := .cells #[.int .u64 x624000_1, .int .u32 x624001_1, .slice Ao15 x624002_1.length co15] 26 (0, 0)) (by (with_reducible repeat (first | refine zh ?_ _ | refine zj ?_ | refine zi ?_ _)); refine zv ?_ NB623_632.out _; (with_reducible repeat (first | refine zh ?_ _ | refine zj ?_ | refine zi ?_ _)); refine zv ?_ NB623_632.out _; (with_reducible repeat (first | refine zh ?_ _ | refine zj ?_ | refine zi ?_ _)); refine zv ?_ NB623_632.out _; (with_reducible repeat (first | refine zh ?_ _ | refine zj ?_ | refine zi ?_ _)); exact BK623.out) hg (zu HO_4.out BK623.out (by decide))); have n2_ := zm (Kd.R_over' (by (with_reducible repeat (first | apply zo | apply zp | apply zq)); exact (zG (zH (p := ⟨gb632, 2, none⟩) (zH (p := ⟨gb632, 1, none⟩) (zH (p := ⟨gb632, 0, none⟩) (Kd.R_types HO630.out BK632.out (by decide)) (fun _ hk => hk.2) (.int .u64 t626)) (fun _ hk => hk.2) (.int .u32 t627)) (fun _ hk => hk.2) (.slice Ao22 t628.length co22)) (fun _ h_ => h_.1))) (Kd.R_typed (by (with_reducible repeat (first | apply zo | apply zp | apply zq)); exact (zG (zH (p := ⟨gb632, 2, none⟩) (zH (p := ⟨gb632, 1, none⟩) (zH (p := ⟨gb632, 0, none⟩) (Kd.R_types HO_4.out BK632.out (by decide)) (fun _ hk => hk.2) (.int .u64 t626)) (fun _ hk => hk.2) (.int .u32 t627)) (fun _ hk => hk.2) (.slice Ao22 t628.length co22)) (fun _ h_ => h_.1)))) (by decide) hg); have n3_ := zm (blk_grown (g := gb632) (o := .cells #[.int .u64 t626, .int .u32 t627, .slice Ao22 t628.length co22] 26 (0, 0)) (by (with_reducible repeat (first | refine zh ?_ _ | refine zj ?_ | refine zi ?_ _)); refine zw (cs := #[.int .u64 t626, .int .u32 t627, .slice none 0 0]) ?_ 2 _ rfl; (with_reducible repeat (first | refine zh ?_ _ | refine zj ?_ | refine zi ?_ _)); refine zw (cs := #[.int .u64 t626, .int .u32 0, .slice none 0 0]) ?_ 1 _ rfl; (with_reducible repeat (first | refine zh ?_ _ | refine zj ?_ | refine zi ?_ _)); refine zw (cs := #[.int .u64 0, .int .u32 0, .slice none 0 0]) ?_ 0 _ rfl; (with_reducible repeat (first | refine zh ?_ _ | refine zj ?_ | refine zi ?_ _)); exact BK632.out) hg (zu HO_4.out BK632.out (by decide))); have n4_ := zm (hb); have n5_ := zm (ho); clear HO_624002; clear BK623; clear HO630; clear BK632; clear HB; clear HO_4; have HO_624002 := n0_; have BK623 := n1_; have HO630 := n2_; have BK632 := n3_; have HB := n4_; have HO636 := n5_; clear n0_ n1_ n2_ n3_ n4_ n5_; clear ho hb hg hat; have hnb25 := NB632_623.out; have hnc25 := NB623_632.out; have hcz26_0 : w24.cell? ⟨gb632, 0, none⟩ = some (.int .u64 t626) := (zs BK632.out 0).trans rfl; have hcz26_1 : w24.cell? ⟨gb632, 1, none⟩ = some (.int .u32 t627) := (zs BK632.out 1).trans rfl; have hcz26_2 : w24.cell? ⟨gb632, 2, none⟩ = some (.slice Ao22 t628.length co22) := (zs BK632.out 2).trans rfl; have hfz26_0 := zx BK632.out 0; have hfz26_1 := zx BK632.out 1; have hfz26_2 := zx BK632.out 2; have hcz27_0 : w24.cell? ⟨gb623, 0, none⟩ = some (.int .u64 x624000_1) := (zs BK623.out 0).trans rfl; have hcz27_1 : w24.cell? ⟨gb623, 1, none⟩ = some (.int .u32 x624001_1) := (zs BK623.out 1).trans rfl; have hcz27_2 : w24.cell? ⟨gb623, 2, none⟩ = some (.slice Ao15 x624002_1.length co15) := (zs BK623.out 2).trans rfl; have hfz27_0 := zx BK623.out 0; have hfz27_1 := zx BK623.out 1; have hfz27_2 := zx BK623.out 2))
          go_roundg kj6
          case measure => have := HK1.out; have := HJ6.out; omega
          case rel => exact ⟨(y634), (wrap64 (x5_1 + 1)), (t626), (t627), (t628), (.slice Ao22 t628.length co22), (by first | rfl | (simp; done) | (simp [*]; done)), H', ⟨by have := HK1.out; have := HJ6.out; omega⟩, ⟨by (with_reducible repeat (first | apply zo | apply zp | apply zq)); exact zG (zH (p := ⟨gb623, 2, none⟩) (zH (p := ⟨gb623, 1, none⟩) (zH (p := ⟨gb623, 0, none⟩) (Kd.R_types HO636.out BK623.out (by decide)) (fun _ hk => hk.2) (.int .u64 t626)) (fun _ hk => hk.2) (.int .u32 t627)) (fun _ hk => hk.2) (.slice Ao22 t628.length co22)) (fun _ hk => trivial)⟩, ⟨by (with_reducible repeat (first | apply zo | apply zp | apply zq)); exact zG (zH (p := ⟨gb623, 2, none⟩) (zH (p := ⟨gb623, 1, none⟩) (zH (p := ⟨gb623, 0, none⟩) (Kd.R_types HO630.out BK623.out (by decide)) (fun _ hk => hk.2) (.int .u64 t626)) (fun _ hk => hk.2) (.int .u32 t627)) (fun _ hk => hk.2) (.slice Ao22 t628.length co22)) (fun _ hk => trivial)⟩, ⟨by (with_reducible repeat (first | refine zh ?_ _ | refine zj ?_ | refine zi ?_ _)); refine zw (cs := #[.int .u64 t626, .int .u32 t627, .slice Ao15 x624002_1.length co15]) ?_ 2 _ rfl; (with_reducible repeat (first | refine zh ?_ _ | refine zj ?_ | refine zi ?_ _)); refine zw (cs := #[.int .u64 t626, .int .u32 x624001_1, .slice Ao15 x624002_1.length co15]) ?_ 1 _ rfl; (with_reducible repeat (first | refine zh ?_ _ | refine zj ?_ | refine zi ?_ _)); refine zw (cs := #[.int .u64 x624000_1, .int .u32 x624001_1, .slice Ao15 x624002_1.length co15]) ?_ 0 _ rfl; (with_reducible repeat (first | refine zh ?_ _ | refine zj ?_ | refine zi ?_ _)); exact BK623.out⟩, ⟨by repeat (first | (with_reducible first | exact HB.out | apply ze | apply zd | apply zf | refine zk ?_ GE623.out | refine zk ?_ GE632.out) | exact HB.out)⟩⟩
         ·
          rw [if_neg c14] at H
          exact absurd H (by simp)
        ·
         rw [if_neg c13] at H
         have c13b0 : (t631 == 0) = false := beq_eq_false_iff_ne.mpr c13
         have c13b1 : (t631 != 0) = true := bne_iff_ne.mpr c13
         have H' := zm H
         clear H
         obtain ⟨Ao28, co28, eo28⟩ := Kd.R_slice HO_624002.out
         subst eo28
         try go_wp2
         have n0_ := zm (zq HO_4.out)
         have n1_ := zm (zq HO_624002.out)
         have n2_ := zm (zj BK623.out)
         have n3_ := zm (zf HB.out)
         clear HO_4
         clear HO_624002
         clear BK623
         clear HB
         have HO_4 := n0_
         have HO_624002 := n1_
         have BK623 := n2_
         have HB := n3_
         clear n0_ n1_ n2_ n3_
         have p624 : 0 ≤ (x5_1 : Int) := of_decide_eq_true (by first | (with_reducible assumption) | assumption)
         have q624 : x5_1 < (l0.length : Int) := of_decide_eq_true (by first | (with_reducible assumption) | assumption)
         obtain ⟨ad624, e624, hx624_0, hx624_1⟩ := at_T76 HR0.out x5_1 p624 q624
         have hw624_1 := hx624_1
         have hw624_0 := hx624_0
         cases e624
         replace hx624_0 := (HB.out.cell (zb w _ hx624_0)).trans hx624_0
         replace hx624_1 := (HB.out.cell (zb w _ hx624_1)).trans hx624_1
         replace p624 := eq_true p624
         replace q624 := eq_true q624
         have p625 : 0 ≤ (x5_1 : Int) := of_decide_eq_true (by first | (with_reducible assumption) | assumption)
         have q625 : x5_1 < (l0.length : Int) := of_decide_eq_true (by first | (with_reducible assumption) | assumption)
         obtain ⟨ad625, e625, hx625_0, hx625_1⟩ := at_T76 HR0.out x5_1 p625 q625
         have hw625_1 := hx625_1
         have hw625_0 := hx625_0
         obtain rfl : ad624 = ad625 := (by injection e625)
         replace hx625_0 := (HB.out.cell (zb w _ hx625_0)).trans hx625_0
         replace hx625_1 := (HB.out.cell (zb w _ hx625_1)).trans hx625_1
         replace p625 := eq_true p625
         replace q625 := eq_true q625
         refine start_ (n := 18) (S := fun w' => w'.cell? ⟨gb623, 0, none⟩ = some (.int .u64 x624000_1) ∧ w'.cell? ⟨gb623, 1, none⟩ = some (.int .u32 x624001_1) ∧ w'.cell? ⟨gb623, 2, none⟩ = some (.slice Ao28 x624002_1.length co28) ∧ w'.cell? (ad624.add ((x5_1).toNat * 2)) = some (.int .u64 ((rd_T76 l0 x5_1).f0)) ∧ w'.cell? ⟨(ad624.add ((x5_1).toNat * 2)).block, (ad624.add ((x5_1).toNat * 2)).off + 1, none⟩ = some (.int .u64 ((rd_T76 l0 x5_1).f1)) ∧ w'.cell? (ad624.add ((x5_1).toNat * 2)) = some (.int .u64 ((rd_T76 l0 x5_1).f0)) ∧ w'.cell? ⟨(ad624.add ((x5_1).toNat * 2)).block, (ad624.add ((x5_1).toNat * 2)).off + 1, none⟩ = some (.int .u64 ((rd_T76 l0 x5_1).f1))) (ds := []) #[false, false, false, false, false, false, false, false, false, false, false, false, false, false, false, false, false, false] (by kernel_rfl) rfl rfl ⟨(zs BK623.out 0).trans rfl, (zs BK623.out 1).trans rfl, (zs BK623.out 2).trans rfl, ((HB.out.cell (zb w _ hw624_0)).trans hw624_0), ((HB.out.cell (zb w _ hw624_1)).trans hw624_1), ((HB.out.cell (zb w _ hw625_0)).trans hw625_0), ((HB.out.cell (zb w _ hw625_1)).trans hw625_1)⟩ (fun hHeld => ?_); refine with_tabW psalterylaw05_CoderNumsBack.tab6 psalterylaw05_CoderNumsBack.bits6 (fun HT_ HW_ => ?_)
         generalize wc.drew = w29 at HO_4 HO_624002 BK623 HB hx624_0 hx624_1 hx625_0 hx625_1 hHeld ⊢
         refine pure_ (i := 1) (N := some 26) (v := ?_) (a' := ?_) #[false, true, false, false, false, false, false, false, false, false, false, false, false, false, false, false, false, false] rfl rfl (any_of HT_.out (by kernel_rfl)) (fun _ _ _ h => h) (Or.inl ⟨by rfl, ?_⟩) ?_ ?_
         rotate_left
         ·
          intro w'
          go_simp
          with_reducible rfl
         rotate_left
         ·
          simp only [Act.put, List.setIfInBounds_toArray, List.set_cons_zero, List.set_cons_succ, i64_w, i32_w]
          rfl
         refine pure_ (i := 2) (N := some 27) (v := ?_) (a' := ?_) #[false, true, true, false, false, false, false, false, false, false, false, false, false, false, false, false, false, false] rfl rfl (any_of HT_.out (by kernel_rfl)) (fun _ _ _ h => h) (Or.inl ⟨by rfl, ?_⟩) ?_ ?_
         rotate_left
         ·
          intro w'
          go_simp
          with_reducible rfl
         rotate_left
         ·
          simp only [Act.put, List.setIfInBounds_toArray, List.set_cons_zero, List.set_cons_succ, i64_w, i32_w]
          rfl
         refine pure_ (i := 3) (N := some 28) (v := ?_) (a' := ?_) #[false, true, true, true, false, false, false, false, false, false, false, false, false, false, false, false, false, false] rfl rfl (any_of HT_.out (by kernel_rfl)) (fun _ _ _ h => h) (Or.inl ⟨by rfl, ?_⟩) ?_ ?_
         rotate_left
         ·
          intro w'
          go_simp
          with_reducible rfl
         rotate_left
         ·
          simp only [Act.put, List.setIfInBounds_toArray, List.set_cons_zero, List.set_cons_succ, i64_w, i32_w]
          rfl
         refine pure_ (i := 4) (N := some 29) (v := ?_) (a' := ?_) #[false, true, true, true, true, false, false, false, false, false, false, false, false, false, false, false, false, false] rfl rfl (any_of HT_.out (by kernel_rfl)) (fun _ _ _ h => h) (Or.inl ⟨by rfl, ?_⟩) ?_ ?_
         rotate_left
         ·
          intro w'
          go_simp
          with_reducible rfl
         rotate_left
         ·
          simp only [Act.put, List.setIfInBounds_toArray, List.set_cons_zero, List.set_cons_succ, i64_w, i32_w]
          rfl
         refine pure_ (i := 6) (N := some 31) (v := ?_) (a' := ?_) #[false, true, true, true, true, false, true, false, false, false, false, false, false, false, false, false, false, false] rfl rfl (any_of HT_.out (by kernel_rfl)) (fun _ _ _ h => h) (Or.inl ⟨by rfl, ?_⟩) ?_ ?_
         rotate_left
         ·
          intro w'
          go_simp
          with_reducible rfl
         rotate_left
         ·
          simp only [Act.put, List.setIfInBounds_toArray, List.set_cons_zero, List.set_cons_succ, i64_w, i32_w]
          rfl
         refine pure_ (i := 7) (N := some 32) (v := ?_) (a' := ?_) #[false, true, true, true, true, false, true, true, false, false, false, false, false, false, false, false, false, false] rfl rfl (any_of HT_.out (by kernel_rfl)) (fun _ _ _ h => h) (Or.inl ⟨by rfl, ?_⟩) ?_ ?_
         rotate_left
         ·
          intro w'
          go_simp
          with_reducible rfl
         rotate_left
         ·
          simp only [Act.put, List.setIfInBounds_toArray, List.set_cons_zero, List.set_cons_succ, i64_w, i32_w]
          rfl
         refine pure_ (i := 8) (N := some 33) (v := ?_) (a' := ?_) #[false, true, true, true, true, false, true, true, true, false, false, false, false, false, false, false, false, false] rfl rfl (any_of HT_.out (by kernel_rfl)) (fun _ _ _ h => h) (Or.inl ⟨by rfl, ?_⟩) ?_ ?_
         rotate_left
         ·
          intro w'
          go_simp
          with_reducible rfl
         rotate_left
         ·
          simp only [Act.put, List.setIfInBounds_toArray, List.set_cons_zero, List.set_cons_succ, i64_w, i32_w]
          rfl
         refine pure_ (i := 9) (N := some 34) (v := ?_) (a' := ?_) #[false, true, true, true, true, false, true, true, true, true, false, false, false, false, false, false, false, false] rfl rfl (any_of HT_.out (by kernel_rfl)) (fun _ _ _ h => h) (Or.inl ⟨by rfl, ?_⟩) ?_ ?_
         rotate_left
         ·
          intro w'
          go_simp
          with_reducible rfl
         rotate_left
         ·
          simp only [Act.put, List.setIfInBounds_toArray, List.set_cons_zero, List.set_cons_succ, i64_w, i32_w]
          rfl
         refine take_ (i := 0) (N := some 25) (v := ?_) (a' := ?_) #[true, true, true, true, true, false, true, true, true, true, false, false, false, false, false, false, false, false] rfl rfl (take_ofW HT_.out HW_.out (by kernel_rfl)) (fun _ _ _ h => h) (Or.inl ⟨by rfl, ?_⟩) hHeld ?_ ?_
         rotate_left
         ·
          rintro w' ⟨s0, s1, s2, s3, s4, s5, s6⟩
          go_simp
          with_reducible rfl
         rotate_left
         ·
          simp only [Act.put, List.setIfInBounds_toArray, List.set_cons_zero, List.set_cons_succ, i64_w, i32_w]
          rfl
         refine take_ (i := 5) (N := some 30) (v := ?_) (a' := ?_) #[true, true, true, true, true, true, true, true, true, true, false, false, false, false, false, false, false, false] rfl rfl (take_ofW HT_.out HW_.out (by kernel_rfl)) (fun _ _ _ h => h) (Or.inl ⟨by rfl, ?_⟩) hHeld ?_ ?_
         rotate_left
         ·
          rintro w' ⟨s0, s1, s2, s3, s4, s5, s6⟩
          go_simp
          with_reducible rfl
         rotate_left
         ·
          simp only [Act.put, List.setIfInBounds_toArray, List.set_cons_zero, List.set_cons_succ, i64_w, i32_w]
          rfl
         refine take_ (i := 10) (N := some 35) (v := ?_) (a' := ?_) #[true, true, true, true, true, true, true, true, true, true, true, false, false, false, false, false, false, false] rfl rfl (take_ofW HT_.out HW_.out (by kernel_rfl)) (fun _ _ _ h => h) (Or.inl ⟨by rfl, ?_⟩) hHeld ?_ ?_
         rotate_left
         ·
          rintro w' ⟨s0, s1, s2, s3, s4, s5, s6⟩
          go_simp
          with_reducible rfl
         rotate_left
         ·
          simp only [Act.put, List.setIfInBounds_toArray, List.set_cons_zero, List.set_cons_succ, i64_w, i32_w]
          rfl
         refine join_ (σ := Value × Nat) 2 #[true, true, true, true, true, true, true, true, true, true, true, true, true, true, true, true, false, false] (fun s_ => [(36, .tuple #[.agg #[.int .u64 t626, .int .u32 t627, s_.1], .int .i64 t631]), (6, .pointer (some ⟨s_.2, 0, none⟩)), (24, .tuple #[.agg #[.int .u64 t626, .int .u32 t627, s_.1], .int .i64 t631]), (37, .agg #[.int .u64 t626, .int .u32 t627, s_.1]), (38, .int .i64 t631)]) (fun s_ w' => (w'.cell? ⟨gb623, 0, none⟩ = some (.int .u64 x624000_1) ∧ w'.cell? ⟨gb623, 1, none⟩ = some (.int .u32 x624001_1) ∧ w'.cell? ⟨gb623, 2, none⟩ = some (.slice Ao28 x624002_1.length co28) ∧ w'.cell? (ad624.add ((x5_1).toNat * 2)) = some (.int .u64 ((rd_T76 l0 x5_1).f0)) ∧ w'.cell? ⟨(ad624.add ((x5_1).toNat * 2)).block, (ad624.add ((x5_1).toNat * 2)).off + 1, none⟩ = some (.int .u64 ((rd_T76 l0 x5_1).f1)) ∧ w'.cell? (ad624.add ((x5_1).toNat * 2)) = some (.int .u64 ((rd_T76 l0 x5_1).f0)) ∧ w'.cell? ⟨(ad624.add ((x5_1).toNat * 2)).block, (ad624.add ((x5_1).toNat * 2)).off + 1, none⟩ = some (.int .u64 ((rd_T76 l0 x5_1).f1))) ∧ (Kd.R (Kd.int .u8) 5 w' w.heap.size (fun k_ => some k_ ≠ (.slice Ao28 x624002_1.length co28 : Value).ownBlock) s_.1 t628) ∧ (Kd.R k76 76 w' w.heap.size (fun _ => True) u4 x4_1) ∧ (Kd.R (Kd.int .u8) 5 w' w.heap.size (fun k_ => some k_ ≠ (s_.1 : Value).ownBlock) (.slice Ao28 x624002_1.length co28) x624002_1) ∧ (w'.heap[gb623]? = some (.cells #[.int .u64 x624000_1, .int .u32 x624001_1, .slice Ao28 x624002_1.length co28] 26 (0, 0))) ∧ (w'.heap[s_.2]? = some (.cells #[.int .u64 0, .int .u32 0, .slice none 0 0] 26 (0, 0))) ∧ (w.heap.size ≤ s_.2) ∧ (w.heap.size ≤ s_.2) ∧ (gb623 ≠ s_.2) ∧ (s_.2 ≠ gb623) ∧ (Below w.heap.size w w')) ?_ ?_
         rotate_left
         ·
          intro hCont
          refine two_ (i := 11) (j := 15) (Ni := some 36) (Nj := some 6) #[true, true, true, true, true, true, true, true, true, true, true, true, false, false, false, false, false, false] #[true, true, true, true, true, true, true, true, true, true, true, false, false, false, false, true, false, false] rfl rfl rfl rfl (two_of HT_.out (by kernel_rfl)) (by decide) (by decide) (fun K hK => ?_) (fun K hK => ?_)
          ·
           skip
           refine goes_ Try.func37 (by kernel_rfl) rfl #[.agg #[.int .u64 x624000_1, .int .u32 x624001_1, .slice Ao28 x624002_1.length co28], .int .u64 ((rd_T76 l0 x5_1).f0), .int .u64 ((rd_T76 l0 x5_1).f1)] (by rfl) rfl rfl (by (try simp only [List.map_toArray, List.map_cons, List.map_nil]); first | done | rfl | (simp only [List.length_drop, List.length_take]; rfl)) ?_
           with_reducible refine (coder_PutNum.calls kj6 x624000_1 x624001_1 _ _ x624002_1 ((rd_T76 l0 x5_1).f0) ((rd_T76 l0 x5_1).f1) t626 t627 t628 t631 _ ?side1 ?side2 A12.out).mono ?_
           (case side1 => repeat (first | exact (Kd.R_reads' HO_624002.out).2.2 | (with_reducible refine Kd.C_alloc ?_ _) | (with_reducible refine Kd.C_drewN ?_ _) | (with_reducible refine Kd.C_drew ?_)))
           (case side2 => exact (Kd.R_reads' HO_624002.out).2.1)
           rintro e w30 ⟨v629, rfl, ho0, hb⟩
           refine ⟨_, rfl, ?_⟩
           have n0_ := zm (Kd.R_below (by (with_reducible repeat (first | apply zo | apply zp | apply zq)); exact HO_4.out) hb)
           have n1_ := zm (Kd.R_elder' (by (with_reducible repeat (first | apply zo | apply zp | apply zq)); exact HO_624002.out) (Kd.R_base ho0) hb)
           have n2_ := zm (Kd.R_lower (Kd.R_new' ho0 (Kd.R_lt (by (with_reducible repeat (first | apply zo | apply zp | apply zq)); exact HO_624002.out))) (zE (by repeat (first | (with_reducible first | exact HB.out | apply ze | apply zd | apply zf | refine zk ?_ GE623.out) | exact HB.out))))
           have n3_ := zm (zF (g := gb623) (o := .cells #[.int .u64 x624000_1, .int .u32 x624001_1, .slice Ao28 x624002_1.length co28] 26 (0, 0)) (by (with_reducible repeat (first | refine zh ?_ _ | refine zj ?_ | refine zi ?_ _)); exact BK623.out) hb)
           have n4_ := zm (zJ (by repeat (first | (with_reducible first | exact HB.out | apply ze | apply zd | apply zf | refine zk ?_ GE623.out) | exact HB.out)) hb)
           clear HO_4
           clear HO_624002
           clear BK623
           clear HB
           have HO_4 := n0_
           have HO_624002 := n1_
           have HO630 := n2_
           have BK623 := n3_
           have HB := n4_
           clear n0_ n1_ n2_ n3_ n4_
           (try clear hb)
           (try clear hb2)
           (try clear hk)
           (try clear hi)
           (try clear ho0)
           refine hK.out _ _ ⟨(zs BK623.out 0).trans rfl, (zs BK623.out 1).trans rfl, (zs BK623.out 2).trans rfl, ((HB.out.cell (zb w _ hw624_0)).trans hw624_0), ((HB.out.cell (zb w _ hw624_1)).trans hw624_1), ((HB.out.cell (zb w _ hw625_0)).trans hw625_0), ((HB.out.cell (zb w _ hw625_1)).trans hw625_1)⟩ (fun hHeld => ?_)
           clear hK K
           refine norm_ (a' := ?_) ?_ ?_
           rotate_left
           ·
            show Act.put _ (some 36) _ = _
            simp only [Act.put, List.setIfInBounds_toArray, List.set_cons_zero, List.set_cons_succ, i64_w, i32_w]
            rfl
           refine pure_ (i := 12) (N := some 24) (v := ?_) (a' := ?_) #[true, true, true, true, true, true, true, true, true, true, true, true, true, false, false, false, false, false] rfl rfl (any_of HT_.out (by kernel_rfl)) (fun _ _ _ h => h) (Or.inl ⟨by rfl, ?_⟩) ?_ ?_
           rotate_left
           ·
            intro w'
            go_simp
            with_reducible rfl
           rotate_left
           ·
            simp only [Act.put, List.setIfInBounds_toArray, List.set_cons_zero, List.set_cons_succ, i64_w, i32_w]
            rfl
           refine pure_ (i := 13) (N := some 37) (v := ?_) (a' := ?_) #[true, true, true, true, true, true, true, true, true, true, true, true, true, true, false, false, false, false] rfl rfl (any_of HT_.out (by kernel_rfl)) (fun _ _ _ h => h) (Or.inl ⟨by rfl, ?_⟩) ?_ ?_
           rotate_left
           ·
            intro w'
            go_simp
            with_reducible rfl
           rotate_left
           ·
            simp only [Act.put, List.setIfInBounds_toArray, List.set_cons_zero, List.set_cons_succ, i64_w, i32_w]
            rfl
           refine pure_ (i := 14) (N := some 38) (v := ?_) (a' := ?_) #[true, true, true, true, true, true, true, true, true, true, true, true, true, true, true, false, false, false] rfl rfl (any_of HT_.out (by kernel_rfl)) (fun _ _ _ h => h) (Or.inl ⟨by rfl, ?_⟩) ?_ ?_
           rotate_left
           ·
            intro w'
            go_simp
            with_reducible rfl
           rotate_left
           ·
            simp only [Act.put, List.setIfInBounds_toArray, List.set_cons_zero, List.set_cons_succ, i64_w, i32_w]
            rfl
           refine one_ (i := 15) (N := some 6) #[true, true, true, true, true, true, true, true, true, true, true, true, true, true, true, true, false, false] rfl rfl (one_of HT_.out (by kernel_rfl)) (by decide) (fun K hK => ?_)
           refine box_step ?hg (N := 6) ?hd (cs := #[.int .u64 0, .int .u32 0, .slice none 0 0]) (t := 26) ?hr ?_; (case hd => rfl); (case hg => rfl); (case hr => first | (go_simp; done) | (go_simp; rfl))
           intro gb632 hg w31 hbox hb
           have n0_ := zm (Kd.R_below (by (with_reducible repeat (first | apply zo | apply zp | apply zq)); exact HO_4.out) hb)
           have n1_ := zm (Kd.R_below (by (with_reducible repeat (first | apply zo | apply zp | apply zq)); exact HO_624002.out) hb)
           have n2_ := zm (Kd.R_below (by (with_reducible repeat (first | apply zo | apply zp | apply zq)); exact HO630.out) hb)
           have n3_ := zm (zF (g := gb623) (o := .cells #[.int .u64 x624000_1, .int .u32 x624001_1, .slice Ao28 x624002_1.length co28] 26 (0, 0)) (by (with_reducible repeat (first | refine zh ?_ _ | refine zj ?_ | refine zi ?_ _)); exact BK623.out) hb)
           have n4_ := zm (zJ (by repeat (first | (with_reducible first | exact HB.out | apply ze | apply zd | apply zf | refine zk ?_ GE623.out) | exact HB.out)) hb)
           have n5_ := zm (hbox)
           have n6_ := zm ((by rw [hg]; exact (zE (by repeat (first | (with_reducible first | exact HB.out | apply ze | apply zd | apply zf | refine zk ?_ GE623.out) | exact HB.out))) : w.heap.size ≤ gb632))
           have n7_ := zm ((by rw [hg]; exact (zE (by repeat (first | (with_reducible first | exact HB.out | apply ze | apply zd | apply zf | refine zk ?_ GE623.out) | exact HB.out))) : w.heap.size ≤ gb632))
           have n8_ := zm ((by rw [hg]; exact zn (zD (g := gb623) (o := .cells #[.int .u64 x624000_1, .int .u32 x624001_1, .slice Ao28 x624002_1.length co28] 26 (0, 0)) (by (with_reducible repeat (first | refine zh ?_ _ | refine zj ?_ | refine zi ?_ _)); exact BK623.out)) : gb623 ≠ gb632))
           have n9_ := zm ((by rw [hg]; exact zg (zD (g := gb623) (o := .cells #[.int .u64 x624000_1, .int .u32 x624001_1, .slice Ao28 x624002_1.length co28] 26 (0, 0)) (by (with_reducible repeat (first | refine zh ?_ _ | refine zj ?_ | refine zi ?_ _)); exact BK623.out)) : gb632 ≠ gb623))
           clear HO_4
           clear HO_624002
           clear HO630
           clear BK623
           clear HB
           have HO_4 := n0_
           have HO_624002 := n1_
           have HO630 := n2_
           have BK623 := n3_
           have HB := n4_
           have BK632 := n5_
           have GW632 := n6_
           have GE632 := n7_
           have NB623_632 := n8_
           have NB632_623 := n9_
           clear n0_ n1_ n2_ n3_ n4_ n5_ n6_ n7_ n8_ n9_
           clear hb hbox hg
           refine hK.out _ _ ⟨(zs BK623.out 0).trans rfl, (zs BK623.out 1).trans rfl, (zs BK623.out 2).trans rfl, ((HB.out.cell (zb w _ hw624_0)).trans hw624_0), ((HB.out.cell (zb w _ hw624_1)).trans hw624_1), ((HB.out.cell (zb w _ hw625_0)).trans hw625_0), ((HB.out.cell (zb w _ hw625_1)).trans hw625_1)⟩ (fun hHeld => ?_)
           clear hK K
           refine norm_ (a' := ?_) ?_ ?_
           rotate_left
           ·
            show Act.put _ (some 6) _ = _
            simp only [Act.put, List.setIfInBounds_toArray, List.set_cons_zero, List.set_cons_succ, i64_w, i32_w]
            rfl
           exact norm_ (by simp only [putAll, Act.put, List.setIfInBounds_toArray, List.set_cons_zero, List.set_cons_succ]) (hCont (v629, gb632) _ ⟨hHeld, (by (with_reducible repeat (first | apply zo | apply zp | apply zq)); exact zG HO630.out (fun _ hk => hk.2)), (by (with_reducible repeat (first | apply zo | apply zp | apply zq)); exact HO_4.out), (by (with_reducible repeat (first | apply zo | apply zp | apply zq)); exact zG HO_624002.out (fun _ hk => hk.2)), (by (with_reducible repeat (first | refine zh ?_ _ | refine zj ?_ | refine zi ?_ _)); exact BK623.out), (by (with_reducible repeat (first | refine zh ?_ _ | refine zj ?_ | refine zi ?_ _)); exact BK632.out), GW632.out, GE632.out, NB623_632.out, NB632_623.out, (by repeat (first | (with_reducible first | exact HB.out | apply ze | apply zd | apply zf | refine zk ?_ GE623.out | refine zk ?_ GE632.out) | exact HB.out))⟩)
          ·
           skip
           refine box_step ?hg (N := 6) ?hd (cs := #[.int .u64 0, .int .u32 0, .slice none 0 0]) (t := 26) ?hr ?_; (case hd => rfl); (case hg => rfl); (case hr => first | (go_simp; done) | (go_simp; rfl))
           intro gb632 hg w30 hbox hb
           have n0_ := zm (Kd.R_below (by (with_reducible repeat (first | apply zo | apply zp | apply zq)); exact HO_4.out) hb)
           have n1_ := zm (Kd.R_below (by (with_reducible repeat (first | apply zo | apply zp | apply zq)); exact HO_624002.out) hb)
           have n2_ := zm (zF (g := gb623) (o := .cells #[.int .u64 x624000_1, .int .u32 x624001_1, .slice Ao28 x624002_1.length co28] 26 (0, 0)) (by (with_reducible repeat (first | refine zh ?_ _ | refine zj ?_ | refine zi ?_ _)); exact BK623.out) hb)
           have n3_ := zm (zJ (by repeat (first | (with_reducible first | exact HB.out | apply ze | apply zd | apply zf | refine zk ?_ GE623.out) | exact HB.out)) hb)
           have n4_ := zm (hbox)
           have n5_ := zm ((by rw [hg]; exact (zE (by repeat (first | (with_reducible first | exact HB.out | apply ze | apply zd | apply zf | refine zk ?_ GE623.out) | exact HB.out))) : w.heap.size ≤ gb632))
           have n6_ := zm ((by rw [hg]; exact (zE (by repeat (first | (with_reducible first | exact HB.out | apply ze | apply zd | apply zf | refine zk ?_ GE623.out) | exact HB.out))) : w.heap.size ≤ gb632))
           have n7_ := zm ((by rw [hg]; exact zn (zD (g := gb623) (o := .cells #[.int .u64 x624000_1, .int .u32 x624001_1, .slice Ao28 x624002_1.length co28] 26 (0, 0)) (by (with_reducible repeat (first | refine zh ?_ _ | refine zj ?_ | refine zi ?_ _)); exact BK623.out)) : gb623 ≠ gb632))
           have n8_ := zm ((by rw [hg]; exact zg (zD (g := gb623) (o := .cells #[.int .u64 x624000_1, .int .u32 x624001_1, .slice Ao28 x624002_1.length co28] 26 (0, 0)) (by (with_reducible repeat (first | refine zh ?_ _ | refine zj ?_ | refine zi ?_ _)); exact BK623.out)) : gb632 ≠ gb623))
           clear HO_4
           clear HO_624002
           clear BK623
           clear HB
           have HO_4 := n0_
           have HO_624002 := n1_
           have BK623 := n2_
           have HB := n3_
           have BK632 := n4_
           have GW632 := n5_
           have GE632 := n6_
           have NB623_632 := n7_
           have NB632_623 := n8_
           clear n0_ n1_ n2_ n3_ n4_ n5_ n6_ n7_ n8_
           clear hb hbox hg
           refine hK.out _ _ ⟨(zs BK623.out 0).trans rfl, (zs BK623.out 1).trans rfl, (zs BK623.out 2).trans rfl, ((HB.out.cell (zb w _ hw624_0)).trans hw624_0), ((HB.out.cell (zb w _ hw624_1)).trans hw624_1), ((HB.out.cell (zb w _ hw625_0)).trans hw625_0), ((HB.out.cell (zb w _ hw625_1)).trans hw625_1)⟩ (fun hHeld => ?_)
           clear hK K
           refine norm_ (a' := ?_) ?_ ?_
           rotate_left
           ·
            show Act.put _ (some 6) _ = _
            simp only [Act.put, List.setIfInBounds_toArray, List.set_cons_zero, List.set_cons_succ, i64_w, i32_w]
            rfl
           refine one_ (i := 11) (N := some 36) #[true, true, true, true, true, true, true, true, true, true, true, true, false, false, false, true, false, false] rfl rfl (one_of HT_.out (by kernel_rfl)) (by decide) (fun K hK => ?_)
           refine goes_ Try.func37 (by kernel_rfl) rfl #[.agg #[.int .u64 x624000_1, .int .u32 x624001_1, .slice Ao28 x624002_1.length co28], .int .u64 ((rd_T76 l0 x5_1).f0), .int .u64 ((rd_T76 l0 x5_1).f1)] (by rfl) rfl rfl (by (try simp only [List.map_toArray, List.map_cons, List.map_nil]); first | done | rfl | (simp only [List.length_drop, List.length_take]; rfl)) ?_
           with_reducible refine (coder_PutNum.calls kj6 x624000_1 x624001_1 _ _ x624002_1 ((rd_T76 l0 x5_1).f0) ((rd_T76 l0 x5_1).f1) t626 t627 t628 t631 _ ?side1 ?side2 A12.out).mono ?_
           (case side1 => repeat (first | exact (Kd.R_reads' HO_624002.out).2.2 | (with_reducible refine Kd.C_alloc ?_ _) | (with_reducible refine Kd.C_drewN ?_ _) | (with_reducible refine Kd.C_drew ?_)))
           (case side2 => exact (Kd.R_reads' HO_624002.out).2.1)
           rintro e w31 ⟨v629, rfl, ho0, hb⟩
           refine ⟨_, rfl, ?_⟩
           have n0_ := zm (Kd.R_below (by (with_reducible repeat (first | apply zo | apply zp | apply zq)); exact HO_4.out) hb)
           have n1_ := zm (Kd.R_elder' (by (with_reducible repeat (first | apply zo | apply zp | apply zq)); exact HO_624002.out) (Kd.R_base ho0) hb)
           have n2_ := zm (Kd.R_lower (Kd.R_new' ho0 (Kd.R_lt (by (with_reducible repeat (first | apply zo | apply zp | apply zq)); exact HO_624002.out))) (zE (by repeat (first | (with_reducible first | exact HB.out | apply ze | apply zd | apply zf | refine zk ?_ GE623.out | refine zk ?_ GE632.out) | exact HB.out))))
           have n3_ := zm (zF (g := gb623) (o := .cells #[.int .u64 x624000_1, .int .u32 x624001_1, .slice Ao28 x624002_1.length co28] 26 (0, 0)) (by (with_reducible repeat (first | refine zh ?_ _ | refine zj ?_ | refine zi ?_ _)); exact BK623.out) hb)
           have n4_ := zm (zF (g := gb632) (o := .cells #[.int .u64 0, .int .u32 0, .slice none 0 0] 26 (0, 0)) (by (with_reducible repeat (first | refine zh ?_ _ | refine zj ?_ | refine zi ?_ _)); exact BK632.out) hb)
           have n5_ := zm (zJ (by repeat (first | (with_reducible first | exact HB.out | apply ze | apply zd | apply zf | refine zk ?_ GE623.out | refine zk ?_ GE632.out) | exact HB.out)) hb)
           clear HO_4
           clear HO_624002
           clear BK623
           clear BK632
           clear HB
           have HO_4 := n0_
           have HO_624002 := n1_
           have HO630 := n2_
           have BK623 := n3_
           have BK632 := n4_
           have HB := n5_
           clear n0_ n1_ n2_ n3_ n4_ n5_
           (try clear hb)
           (try clear hb2)
           (try clear hk)
           (try clear hi)
           (try clear ho0)
           refine hK.out _ _ ⟨(zs BK623.out 0).trans rfl, (zs BK623.out 1).trans rfl, (zs BK623.out 2).trans rfl, ((HB.out.cell (zb w _ hw624_0)).trans hw624_0), ((HB.out.cell (zb w _ hw624_1)).trans hw624_1), ((HB.out.cell (zb w _ hw625_0)).trans hw625_0), ((HB.out.cell (zb w _ hw625_1)).trans hw625_1)⟩ (fun hHeld => ?_)
           clear hK K
           refine norm_ (a' := ?_) ?_ ?_
           rotate_left
           ·
            show Act.put _ (some 36) _ = _
            simp only [Act.put, List.setIfInBounds_toArray, List.set_cons_zero, List.set_cons_succ, i64_w, i32_w]
            rfl
           refine pure_ (i := 12) (N := some 24) (v := ?_) (a' := ?_) #[true, true, true, true, true, true, true, true, true, true, true, true, true, false, false, true, false, false] rfl rfl (any_of HT_.out (by kernel_rfl)) (fun _ _ _ h => h) (Or.inl ⟨by rfl, ?_⟩) ?_ ?_
           rotate_left
           ·
            intro w'
            go_simp
            with_reducible rfl
           rotate_left
           ·
            simp only [Act.put, List.setIfInBounds_toArray, List.set_cons_zero, List.set_cons_succ, i64_w, i32_w]
            rfl
           refine pure_ (i := 13) (N := some 37) (v := ?_) (a' := ?_) #[true, true, true, true, true, true, true, true, true, true, true, true, true, true, false, true, false, false] rfl rfl (any_of HT_.out (by kernel_rfl)) (fun _ _ _ h => h) (Or.inl ⟨by rfl, ?_⟩) ?_ ?_
           rotate_left
           ·
            intro w'
            go_simp
            with_reducible rfl
           rotate_left
           ·
            simp only [Act.put, List.setIfInBounds_toArray, List.set_cons_zero, List.set_cons_succ, i64_w, i32_w]
            rfl
           refine pure_ (i := 14) (N := some 38) (v := ?_) (a' := ?_) #[true, true, true, true, true, true, true, true, true, true, true, true, true, true, true, true, false, false] rfl rfl (any_of HT_.out (by kernel_rfl)) (fun _ _ _ h => h) (Or.inl ⟨by rfl, ?_⟩) ?_ ?_
           rotate_left
           ·
            intro w'
            go_simp
            with_reducible rfl
           rotate_left
           ·
            simp only [Act.put, List.setIfInBounds_toArray, List.set_cons_zero, List.set_cons_succ, i64_w, i32_w]
            rfl
           exact norm_ (by simp only [putAll, Act.put, List.setIfInBounds_toArray, List.set_cons_zero, List.set_cons_succ]) (hCont (v629, gb632) _ ⟨hHeld, (by (with_reducible repeat (first | apply zo | apply zp | apply zq)); exact zG HO630.out (fun _ hk => hk.2)), (by (with_reducible repeat (first | apply zo | apply zp | apply zq)); exact HO_4.out), (by (with_reducible repeat (first | apply zo | apply zp | apply zq)); exact zG HO_624002.out (fun _ hk => hk.2)), (by (with_reducible repeat (first | refine zh ?_ _ | refine zj ?_ | refine zi ?_ _)); exact BK623.out), (by (with_reducible repeat (first | refine zh ?_ _ | refine zj ?_ | refine zi ?_ _)); exact BK632.out), GW632.out, GE632.out, NB623_632.out, NB632_623.out, (by repeat (first | (with_reducible first | exact HB.out | apply ze | apply zd | apply zf | refine zk ?_ GE623.out | refine zk ?_ GE632.out) | exact HB.out))⟩)
         rintro ⟨v629, gb632⟩ w32 ⟨hS_, h0_, h1_, h2_, h3_, h4_, h5_, h6_, h7_, h8_, h9_⟩
         have n0_ : Aside0 (Kd.R (Kd.int .u8) 5 w32 w.heap.size (fun k_ => some k_ ≠ (.slice Ao28 x624002_1.length co28 : Value).ownBlock) v629 t628) := ⟨h0_⟩
         have n1_ : Aside0 (Kd.R k76 76 w32 w.heap.size (fun _ => True) u4 x4_1) := ⟨h1_⟩
         have n2_ : Aside0 (Kd.R (Kd.int .u8) 5 w32 w.heap.size (fun k_ => some k_ ≠ (v629 : Value).ownBlock) (.slice Ao28 x624002_1.length co28) x624002_1) := ⟨h2_⟩
         have n3_ : Aside0 (w32.heap[gb623]? = some (.cells #[.int .u64 x624000_1, .int .u32 x624001_1, .slice Ao28 x624002_1.length co28] 26 (0, 0))) := ⟨h3_⟩
         have n4_ : Aside0 (w32.heap[gb632]? = some (.cells #[.int .u64 0, .int .u32 0, .slice none 0 0] 26 (0, 0))) := ⟨h4_⟩
         have n5_ : Aside0 (w.heap.size ≤ gb632) := ⟨h5_⟩
         have n6_ : Aside0 (w.heap.size ≤ gb632) := ⟨h6_⟩
         have n7_ : Aside0 (gb623 ≠ gb632) := ⟨h7_⟩
         have n8_ : Aside0 (gb632 ≠ gb623) := ⟨h8_⟩
         have n9_ : Aside0 (Below w.heap.size w w32) := ⟨h9_⟩
         clear HO_4
         clear HO_624002
         clear BK623
         clear HB
         clear h0_ h1_ h2_ h3_ h4_ h5_ h6_ h7_ h8_ h9_
         have HO630 := n0_
         have HO_4 := n1_
         have HO_624002 := n2_
         have BK623 := n3_
         have BK632 := n4_
         have GW632 := n5_
         have GE632 := n6_
         have NB623_632 := n7_
         have NB632_623 := n8_
         have HB := n9_
         clear n0_ n1_ n2_ n3_ n4_ n5_ n6_ n7_ n8_ n9_
         have hHeld : w32.cell? ⟨gb623, 0, none⟩ = some (.int .u64 x624000_1) ∧ w32.cell? ⟨gb623, 1, none⟩ = some (.int .u32 x624001_1) ∧ w32.cell? ⟨gb623, 2, none⟩ = some (.slice Ao28 x624002_1.length co28) ∧ w32.cell? (ad624.add ((x5_1).toNat * 2)) = some (.int .u64 ((rd_T76 l0 x5_1).f0)) ∧ w32.cell? ⟨(ad624.add ((x5_1).toNat * 2)).block, (ad624.add ((x5_1).toNat * 2)).off + 1, none⟩ = some (.int .u64 ((rd_T76 l0 x5_1).f1)) ∧ w32.cell? (ad624.add ((x5_1).toNat * 2)) = some (.int .u64 ((rd_T76 l0 x5_1).f0)) ∧ w32.cell? ⟨(ad624.add ((x5_1).toNat * 2)).block, (ad624.add ((x5_1).toNat * 2)).off + 1, none⟩ = some (.int .u64 ((rd_T76 l0 x5_1).f1)) := hS_
         obtain ⟨Ao35, co35, eo35⟩ := Kd.R_slice HO630.out
         (first | subst eo35 | (injection eo35 with f1_ f2_ f3_; have f4_ := f1_.symm; have f5_ := f3_.symm; clear f1_ f2_ f3_; subst f4_; subst f5_))
         refine norm_ (a' := ?_) ?_ ?_
         rotate_left
         ·
          simp only [putAll, Act.put, List.setIfInBounds_toArray, List.set_cons_zero, List.set_cons_succ]
          rfl
         refine one_ (i := 16) (N := none) #[true, true, true, true, true, true, true, true, true, true, true, true, true, true, true, true, true, false] rfl rfl (one_of HT_.out (by kernel_rfl)) (by decide) (fun K hK => ?_)
         have hs33 : w32.cell? ⟨gb632, 0, none⟩ = some (.int .u64 0) := (zs BK632.out 0).trans rfl
         have hfs33 := zx BK632.out 0
         have hns33_0 := NB623_632.out
         have hms33_0 := NB632_623.out
         have hs34 : w32.cell? ⟨gb632, 1, none⟩ = some (.int .u32 0) := (zs BK632.out 1).trans rfl
         have hfs34 := zx BK632.out 1
         have hns34_0 := NB623_632.out
         have hms34_0 := NB632_623.out
         have hs36 : w32.cell? ⟨gb632, 2, none⟩ = some (.slice none 0 0) := (zs BK632.out 2).trans rfl
         have hfs36 := zx BK632.out 2
         have hns36_0 := NB623_632.out
         have hms36_0 := NB632_623.out
         refine skip_ (w1 := ?_) (by rfl) rfl ?_ ?_
         rotate_left
         ·
          go_simp
          rfl
         refine hK.out _ _ ⟨((zr (p := ⟨gb632, _, none⟩) NB623_632.out _).trans (((zr (p := ⟨gb632, _, none⟩) NB623_632.out _).trans (((zr (p := ⟨gb632, _, none⟩) NB623_632.out _).trans (hHeld.1)))))), ((zr (p := ⟨gb632, _, none⟩) NB623_632.out _).trans (((zr (p := ⟨gb632, _, none⟩) NB623_632.out _).trans (((zr (p := ⟨gb632, _, none⟩) NB623_632.out _).trans (hHeld.2.1)))))), ((zr (p := ⟨gb632, _, none⟩) NB623_632.out _).trans (((zr (p := ⟨gb632, _, none⟩) NB623_632.out _).trans (((zr (p := ⟨gb632, _, none⟩) NB623_632.out _).trans (hHeld.2.2.1)))))), ((zr (p := ⟨gb632, _, none⟩) (by first | exact zn (zl (by have := zb _ _ hw624_0; first | rwa [za] at this | exact this) GW632.out) | (rw [za]; exact zn (zl (by have := zb _ _ hw624_0; first | rwa [za] at this | exact this) GW632.out)) | (show (Addr.add _ _).block ≠ _; rw [za]; exact zn (zl (by have := zb _ _ hw624_0; first | rwa [za] at this | exact this) GW632.out)) | (dsimp only; exact zn (zl (by have := zb _ _ hw624_0; first | rwa [za] at this | exact this) GW632.out))) _).trans (((zr (p := ⟨gb632, _, none⟩) (by first | exact zn (zl (by have := zb _ _ hw624_0; first | rwa [za] at this | exact this) GW632.out) | (rw [za]; exact zn (zl (by have := zb _ _ hw624_0; first | rwa [za] at this | exact this) GW632.out)) | (show (Addr.add _ _).block ≠ _; rw [za]; exact zn (zl (by have := zb _ _ hw624_0; first | rwa [za] at this | exact this) GW632.out)) | (dsimp only; exact zn (zl (by have := zb _ _ hw624_0; first | rwa [za] at this | exact this) GW632.out))) _).trans (((zr (p := ⟨gb632, _, none⟩) (by first | exact zn (zl (by have := zb _ _ hw624_0; first | rwa [za] at this | exact this) GW632.out) | (rw [za]; exact zn (zl (by have := zb _ _ hw624_0; first | rwa [za] at this | exact this) GW632.out)) | (show (Addr.add _ _).block ≠ _; rw [za]; exact zn (zl (by have := zb _ _ hw624_0; first | rwa [za] at this | exact this) GW632.out)) | (dsimp only; exact zn (zl (by have := zb _ _ hw624_0; first | rwa [za] at this | exact this) GW632.out))) _).trans (hHeld.2.2.2.1)))))), ((zr (p := ⟨gb632, _, none⟩) (by first | exact zn (zl (by have := zb _ _ hw624_1; first | rwa [za] at this | exact this) GW632.out) | (rw [za]; exact zn (zl (by have := zb _ _ hw624_1; first | rwa [za] at this | exact this) GW632.out)) | (show (Addr.add _ _).block ≠ _; rw [za]; exact zn (zl (by have := zb _ _ hw624_1; first | rwa [za] at this | exact this) GW632.out)) | (dsimp only; exact zn (zl (by have := zb _ _ hw624_1; first | rwa [za] at this | exact this) GW632.out))) _).trans (((zr (p := ⟨gb632, _, none⟩) (by first | exact zn (zl (by have := zb _ _ hw624_1; first | rwa [za] at this | exact this) GW632.out) | (rw [za]; exact zn (zl (by have := zb _ _ hw624_1; first | rwa [za] at this | exact this) GW632.out)) | (show (Addr.add _ _).block ≠ _; rw [za]; exact zn (zl (by have := zb _ _ hw624_1; first | rwa [za] at this | exact this) GW632.out)) | (dsimp only; exact zn (zl (by have := zb _ _ hw624_1; first | rwa [za] at this | exact this) GW632.out))) _).trans (((zr (p := ⟨gb632, _, none⟩) (by first | exact zn (zl (by have := zb _ _ hw624_1; first | rwa [za] at this | exact this) GW632.out) | (rw [za]; exact zn (zl (by have := zb _ _ hw624_1; first | rwa [za] at this | exact this) GW632.out)) | (show (Addr.add _ _).block ≠ _; rw [za]; exact zn (zl (by have := zb _ _ hw624_1; first | rwa [za] at this | exact this) GW632.out)) | (dsimp only; exact zn (zl (by have := zb _ _ hw624_1; first | rwa [za] at this | exact this) GW632.out))) _).trans (hHeld.2.2.2.2.1)))))), ((zr (p := ⟨gb632, _, none⟩) (by first | exact zn (zl (by have := zb _ _ hw625_0; first | rwa [za] at this | exact this) GW632.out) | (rw [za]; exact zn (zl (by have := zb _ _ hw625_0; first | rwa [za] at this | exact this) GW632.out)) | (show (Addr.add _ _).block ≠ _; rw [za]; exact zn (zl (by have := zb _ _ hw625_0; first | rwa [za] at this | exact this) GW632.out)) | (dsimp only; exact zn (zl (by have := zb _ _ hw625_0; first | rwa [za] at this | exact this) GW632.out))) _).trans (((zr (p := ⟨gb632, _, none⟩) (by first | exact zn (zl (by have := zb _ _ hw625_0; first | rwa [za] at this | exact this) GW632.out) | (rw [za]; exact zn (zl (by have := zb _ _ hw625_0; first | rwa [za] at this | exact this) GW632.out)) | (show (Addr.add _ _).block ≠ _; rw [za]; exact zn (zl (by have := zb _ _ hw625_0; first | rwa [za] at this | exact this) GW632.out)) | (dsimp only; exact zn (zl (by have := zb _ _ hw625_0; first | rwa [za] at this | exact this) GW632.out))) _).trans (((zr (p := ⟨gb632, _, none⟩) (by first | exact zn (zl (by have := zb _ _ hw625_0; first | rwa [za] at this | exact this) GW632.out) | (rw [za]; exact zn (zl (by have := zb _ _ hw625_0; first | rwa [za] at this | exact this) GW632.out)) | (show (Addr.add _ _).block ≠ _; rw [za]; exact zn (zl (by have := zb _ _ hw625_0; first | rwa [za] at this | exact this) GW632.out)) | (dsimp only; exact zn (zl (by have := zb _ _ hw625_0; first | rwa [za] at this | exact this) GW632.out))) _).trans (hHeld.2.2.2.2.2.1)))))), ((zr (p := ⟨gb632, _, none⟩) (by first | exact zn (zl (by have := zb _ _ hw625_1; first | rwa [za] at this | exact this) GW632.out) | (rw [za]; exact zn (zl (by have := zb _ _ hw625_1; first | rwa [za] at this | exact this) GW632.out)) | (show (Addr.add _ _).block ≠ _; rw [za]; exact zn (zl (by have := zb _ _ hw625_1; first | rwa [za] at this | exact this) GW632.out)) | (dsimp only; exact zn (zl (by have := zb _ _ hw625_1; first | rwa [za] at this | exact this) GW632.out))) _).trans (((zr (p := ⟨gb632, _, none⟩) (by first | exact zn (zl (by have := zb _ _ hw625_1; first | rwa [za] at this | exact this) GW632.out) | (rw [za]; exact zn (zl (by have := zb _ _ hw625_1; first | rwa [za] at this | exact this) GW632.out)) | (show (Addr.add _ _).block ≠ _; rw [za]; exact zn (zl (by have := zb _ _ hw625_1; first | rwa [za] at this | exact this) GW632.out)) | (dsimp only; exact zn (zl (by have := zb _ _ hw625_1; first | rwa [za] at this | exact this) GW632.out))) _).trans (((zr (p := ⟨gb632, _, none⟩) (by first | exact zn (zl (by have := zb _ _ hw625_1; first | rwa [za] at this | exact this) GW632.out) | (rw [za]; exact zn (zl (by have := zb _ _ hw625_1; first | rwa [za] at this | exact this) GW632.out)) | (show (Addr.add _ _).block ≠ _; rw [za]; exact zn (zl (by have := zb _ _ hw625_1; first | rwa [za] at this | exact this) GW632.out)) | (dsimp only; exact zn (zl (by have := zb _ _ hw625_1; first | rwa [za] at this | exact this) GW632.out))) _).trans (hHeld.2.2.2.2.2.2))))))⟩ (fun hHeld => ?_)
         clear hK K
         refine pure_ (i := 17) (N := some 7) (v := ?_) (a' := ?_) #[true, true, true, true, true, true, true, true, true, true, true, true, true, true, true, true, true, true] rfl rfl (any_of HT_.out (by kernel_rfl)) (fun _ _ _ h => h) (Or.inl ⟨by rfl, ?_⟩) ?_ ?_
         rotate_left
         ·
          intro w'
          go_simp
          with_reducible rfl
         rotate_left
         ·
          simp only [Act.put, List.setIfInBounds_toArray, List.set_cons_zero, List.set_cons_succ, i64_w, i32_w]
          rfl
         refine done_ (done_of HT_.out (by kernel_rfl)) ?_
         have hnb37 := NB632_623.out
         have hnc37 := NB623_632.out
         have hcz38_0 : w32.cell? ⟨gb632, 0, none⟩ = some (.int .u64 0) := (zs BK632.out 0).trans rfl
         have hcz38_1 : w32.cell? ⟨gb632, 1, none⟩ = some (.int .u32 0) := (zs BK632.out 1).trans rfl
         have hcz38_2 : w32.cell? ⟨gb632, 2, none⟩ = some (.slice none 0 0) := (zs BK632.out 2).trans rfl
         have hfz38_0 := zx BK632.out 0
         have hfz38_1 := zx BK632.out 1
         have hfz38_2 := zx BK632.out 2
         have hcz39_0 : w32.cell? ⟨gb623, 0, none⟩ = some (.int .u64 x624000_1) := (zs BK623.out 0).trans rfl
         have hcz39_1 : w32.cell? ⟨gb623, 1, none⟩ = some (.int .u32 x624001_1) := (zs BK623.out 1).trans rfl
         have hcz39_2 : w32.cell? ⟨gb623, 2, none⟩ = some (.slice Ao28 x624002_1.length co28) := (zs BK623.out 2).trans rfl
         have hfz39_0 := zx BK623.out 0
         have hfz39_1 := zx BK623.out 1
         have hfz39_2 := zx BK623.out 2
         try go_wp2
         go_roundg kj6
         case measure => have := HK1.out; have := HJ6.out; omega
         case rel => exact ⟨(x4_1), (wrap64 (x5_1 + 1)), (t626), (t627), (t628), (.slice Ao35 t628.length co35), (by first | rfl | (simp; done) | (simp [*]; done)), H', ⟨by have := HK1.out; have := HJ6.out; omega⟩, ⟨by (with_reducible repeat (first | apply zo | apply zp | apply zq)); exact zG (zH (p := ⟨gb623, 2, none⟩) (zH (p := ⟨gb623, 1, none⟩) (zH (p := ⟨gb623, 0, none⟩) (zH (p := ⟨gb632, 2, none⟩) (zH (p := ⟨gb632, 1, none⟩) (zH (p := ⟨gb632, 0, none⟩) (Kd.R_types (Kd.R_types HO_4.out BK632.out (by decide)) BK623.out (by decide)) (fun _ hk => hk.1.2) (.int .u64 t626)) (fun _ hk => hk.1.2) (.int .u32 t627)) (fun _ hk => hk.1.2) (.slice Ao35 t628.length co35)) (fun _ hk => hk.2) (.int .u64 t626)) (fun _ hk => hk.2) (.int .u32 t627)) (fun _ hk => hk.2) (.slice Ao35 t628.length co35)) (fun _ hk => trivial)⟩, ⟨by (with_reducible repeat (first | apply zo | apply zp | apply zq)); exact zG (zH (p := ⟨gb623, 2, none⟩) (zH (p := ⟨gb623, 1, none⟩) (zH (p := ⟨gb623, 0, none⟩) (zH (p := ⟨gb632, 2, none⟩) (zH (p := ⟨gb632, 1, none⟩) (zH (p := ⟨gb632, 0, none⟩) (Kd.R_types (Kd.R_types HO630.out BK632.out (by decide)) BK623.out (by decide)) (fun _ hk => hk.1.2) (.int .u64 t626)) (fun _ hk => hk.1.2) (.int .u32 t627)) (fun _ hk => hk.1.2) (.slice Ao35 t628.length co35)) (fun _ hk => hk.2) (.int .u64 t626)) (fun _ hk => hk.2) (.int .u32 t627)) (fun _ hk => hk.2) (.slice Ao35 t628.length co35)) (fun _ hk => trivial)⟩, ⟨by (with_reducible repeat (first | refine zh ?_ _ | refine zj ?_ | refine zi ?_ _)); refine zw (cs := #[.int .u64 t626, .int .u32 t627, .slice Ao28 x624002_1.length co28]) ?_ 2 _ rfl; (with_reducible repeat (first | refine zh ?_ _ | refine zj ?_ | refine zi ?_ _)); refine zw (cs := #[.int .u64 t626, .int .u32 x624001_1, .slice Ao28 x624002_1.length co28]) ?_ 1 _ rfl; (with_reducible repeat (first | refine zh ?_ _ | refine zj ?_ | refine zi ?_ _)); refine zw (cs := #[.int .u64 x624000_1, .int .u32 x624001_1, .slice Ao28 x624002_1.length co28]) ?_ 0 _ rfl; (with_reducible repeat (first | refine zh ?_ _ | refine zj ?_ | refine zi ?_ _)); refine zv ?_ NB623_632.out _; (with_reducible repeat (first | refine zh ?_ _ | refine zj ?_ | refine zi ?_ _)); refine zv ?_ NB623_632.out _; (with_reducible repeat (first | refine zh ?_ _ | refine zj ?_ | refine zi ?_ _)); refine zv ?_ NB623_632.out _; (with_reducible repeat (first | refine zh ?_ _ | refine zj ?_ | refine zi ?_ _)); exact BK623.out⟩, ⟨by repeat (first | (with_reducible first | exact HB.out | apply ze | apply zd | apply zf | refine zk ?_ GE623.out | refine zk ?_ GE632.out) | exact HB.out)⟩⟩
       ·
        rw [if_neg c11] at H
        exact absurd H (by simp)
      ·
       rw [if_neg c10] at H
       exact absurd H (by simp)
     ·
      replace c9 := Bool.eq_false_iff.mpr c9
      subst c9
      have H1 : ((coder_Finish.f x624000_1 x624001_1 x624002_1).bind fun t637 => ((coder_Open.f t637).bind fun bt640 => (psalterylaw05_CoderNumsBack.l1 kj6 x4_1 0 bt640.1 bt640.2.1 bt640.2.2.1 bt640.2.2.2))) = some r := by rw [if_neg (show ¬ (false = true) by decide)] at H; exact H
      clear H
      have H := H1
      clear H1
      replace H := Option.bind_eq_some_iff.mp H
      obtain ⟨t637, A400, H⟩ := H
      replace H : ((coder_Open.f t637).bind fun bt640 => (psalterylaw05_CoderNumsBack.l1 kj6 x4_1 0 bt640.1 bt640.2.1 bt640.2.2.1 bt640.2.2.2)) = some r := H
      have A40 := zm A400
      clear A400
      replace H := Option.bind_eq_some_iff.mp H
      obtain ⟨⟨t640, t641, t642, t645⟩, A410, H⟩ := H
      replace H : (psalterylaw05_CoderNumsBack.l1 kj6 x4_1 0 t640 t641 t642 t645) = some r := H
      have A41 := zm A410
      clear A410
      have H' := zm H
      clear H
      have hcz42_0 : wc.cell? ⟨gb623, 0, none⟩ = some (.int .u64 x624000_1) := (zs BK623.out 0).trans rfl
      have hcz42_1 : wc.cell? ⟨gb623, 1, none⟩ = some (.int .u32 x624001_1) := (zs BK623.out 1).trans rfl
      have hcz42_2 : wc.cell? ⟨gb623, 2, none⟩ = some (u624002) := (zs BK623.out 2).trans rfl
      have hfz42_0 := zx BK623.out 0
      have hfz42_1 := zx BK623.out 1
      have hfz42_2 := zx BK623.out 2
      obtain ⟨Ao43, co43, eo43⟩ := Kd.R_slice HO_624002.out
      subst eo43
      go_wp2_with (first | ((with_reducible refine gate_callee (f := 24) rfl ?_); refine goesL_ (some 50) rfl rfl Try.func24 (by kernel_rfl) rfl #[.agg #[.int .u64 x624000_1, .int .u32 x624001_1, .slice Ao43 x624002_1.length co43]] rfl (by (try simp only [List.map_toArray, List.map_cons, List.map_nil]); first | done | rfl | (simp only [List.length_drop, List.length_take]; rfl)) ?_; (with_reducible refine (coder_Finish.calls x624000_1 x624001_1 _ _ x624002_1 t637 _ ?side1 ?side2 A40.out).mono ?_); (case side1 => repeat (first | exact (Kd.R_reads' HO_624002.out).2.2 | (with_reducible refine Kd.C_alloc ?_ _) | (with_reducible refine Kd.C_drewN ?_ _) | (with_reducible refine Kd.C_drew ?_))); (case side2 => exact (Kd.R_reads' HO_624002.out).2.1); rintro e w44 ⟨v638, rfl, ho0, hb⟩; refine ⟨_, rfl, ?_⟩; have n0_ := zm (Kd.R_below (by (with_reducible repeat (first | apply zo | apply zp | apply zq)); exact HO_4.out) hb); have n1_ := zm (Kd.R_elder' (by (with_reducible repeat (first | apply zo | apply zp | apply zq)); exact HO_624002.out) (Kd.R_base ho0) hb); have n2_ := zm (Kd.R_lower (Kd.R_new' ho0 (Kd.R_lt (by (with_reducible repeat (first | apply zo | apply zp | apply zq)); exact HO_624002.out))) (zE (by repeat (first | (with_reducible first | exact HB.out | apply ze | apply zd | apply zf | refine zk ?_ GE623.out) | exact HB.out)))); have n3_ := zm (zF (g := gb623) (o := .cells #[.int .u64 x624000_1, .int .u32 x624001_1, .slice Ao43 x624002_1.length co43] 26 (0, 0)) (by (with_reducible repeat (first | refine zh ?_ _ | refine zj ?_ | refine zi ?_ _)); exact BK623.out) hb); have n4_ := zm (zJ (by repeat (first | (with_reducible first | exact HB.out | apply ze | apply zd | apply zf | refine zk ?_ GE623.out) | exact HB.out)) hb); clear HO_4; clear HO_624002; clear BK623; clear HB; have HO_4 := n0_; have HO_624002 := n1_; have HO639 := n2_; have BK623 := n3_; have HB := n4_; clear n0_ n1_ n2_ n3_ n4_; (try clear hb); (try clear hb2); (try clear hk); (try clear hi); (try clear ho0); obtain ⟨Ao45, co45, eo45⟩ := Kd.R_slice HO639.out; subst eo45) | ((with_reducible refine gate_callee (f := 26) rfl ?_); refine goesL_ (some 51) rfl rfl Try.func26 (by kernel_rfl) rfl #[.slice Ao45 t637.length co45] rfl (by (try simp only [List.map_toArray, List.map_cons, List.map_nil]); first | done | rfl | (simp only [List.length_drop, List.length_take]; rfl)) ?_; (with_reducible refine (coder_Open.calls (fun k_ => some k_ = (.slice Ao45 t637.length co45 : Value).ownBlock) _ _ t637 t640 t641 t642 t645 _ ?side1 A41.out).mono ?_); (case side1 => exact Kd.R_V (Kd.R_tight rfl (Kd.R_types (Kd.R_apart' (HO639.out) (Kd.R_typed HO_4.out) (by decide)) BK623.out (by decide)))); rintro e w46 ⟨v643, rfl, ho0, hb⟩; refine ⟨_, rfl, ?_⟩; have n0_ := zm (Kd.R_below (by (with_reducible repeat (first | apply zo | apply zp | apply zq)); exact HO_4.out) hb); have n1_ := zm (Kd.R_below (by (with_reducible repeat (first | apply zo | apply zp | apply zq)); exact HO_624002.out) hb); have n2_ := zm (Kd.R_below (by (with_reducible repeat (first | apply zo | apply zp | apply zq)); exact HO639.out) hb); have n3_ := zm (Kd.V_lower (zy (ok' := fun k_ => some k_ ≠ (u4 : Value).ownBlock ∧ some k_ ≠ (.slice Ao43 x624002_1.length co43 : Value).ownBlock ∧ k_ ≠ gb623) ho0 (fun k_ hk_ => ⟨Or.elim hk_ (fun hs_ => ((Kd.R_types (Kd.R_apart' (HO639.out) (Kd.R_typed HO_4.out) (by decide)) BK623.out (by decide)).1 k_ hs_.symm).1.2) (fun hn_ => (Kd.fresh' (Kd.R_lt (by (with_reducible repeat (first | apply zo | apply zp | apply zq)); exact HO_4.out)) k_ hn_)), Or.elim hk_ (fun hs_ => ((Kd.R_types (Kd.R_apart' (HO639.out) (Kd.R_typed HO_4.out) (by decide)) BK623.out (by decide)).1 k_ hs_.symm).1.1.2) (fun hn_ => (Kd.fresh' (Kd.R_lt (by (with_reducible repeat (first | apply zo | apply zp | apply zq)); exact HO_624002.out)) k_ hn_)), Or.elim hk_ (fun hs_ => ((Kd.R_types (Kd.R_apart' (HO639.out) (Kd.R_typed HO_4.out) (by decide)) BK623.out (by decide)).1 k_ hs_.symm).2) (fun hn_ => (Kd.freshB (g := gb623) (o := .cells #[.int .u64 x624000_1, .int .u32 x624001_1, .slice Ao43 x624002_1.length co43] 26 (0, 0)) (by (with_reducible repeat (first | refine zh ?_ _ | refine zj ?_ | refine zi ?_ _)); exact BK623.out) k_ hn_))⟩)) (zE (by repeat (first | (with_reducible first | exact HB.out | apply ze | apply zd | apply zf | refine zk ?_ GE623.out) | exact HB.out)))); have n4_ := zm (zF (g := gb623) (o := .cells #[.int .u64 x624000_1, .int .u32 x624001_1, .slice Ao43 x624002_1.length co43] 26 (0, 0)) (by (with_reducible repeat (first | refine zh ?_ _ | refine zj ?_ | refine zi ?_ _)); exact BK623.out) hb); have n5_ := zm (zJ (by repeat (first | (with_reducible first | exact HB.out | apply ze | apply zd | apply zf | refine zk ?_ GE623.out) | exact HB.out)) hb); clear HO_4; clear HO_624002; clear HO639; clear BK623; clear HB; have HO_4 := n0_; have HO_624002 := n1_; have HO639 := n2_; have HO644 := n3_; have BK623 := n4_; have HB := n5_; clear n0_ n1_ n2_ n3_ n4_ n5_; (try clear hb); (try clear hb2); (try clear hk); (try clear hi); (try clear ho0)) | ((with_reducible refine gate_dst (N := 8) rfl ?_); refine box_event ?hg (N := 8) ?hd (cs := #[.int .u64 0, .int .u32 0, .slice none 0 0, .int .i64 0]) (t := 43) ?hr ?_; (case hd => rfl); (case hg => rfl); (case hr => first | (go_simp; done) | (go_simp; rfl)); intro gb646 hg w47 hbox hb; have n0_ := zm (Kd.R_below (by (with_reducible repeat (first | apply zo | apply zp | apply zq)); exact HO_4.out) hb); have n1_ := zm (Kd.R_below (by (with_reducible repeat (first | apply zo | apply zp | apply zq)); exact HO_624002.out) hb); have n2_ := zm (Kd.R_below (by (with_reducible repeat (first | apply zo | apply zp | apply zq)); exact HO639.out) hb); have n3_ := zm (Kd.V_below (Kd.V_elderB (by (with_reducible repeat (first | apply zA | apply zB | apply zC)); exact HO644.out) gb646 (Nat.le_of_eq hg.symm)) hb); have n4_ := zm (zF (g := gb623) (o := .cells #[.int .u64 x624000_1, .int .u32 x624001_1, .slice Ao43 x624002_1.length co43] 26 (0, 0)) (by (with_reducible repeat (first | refine zh ?_ _ | refine zj ?_ | refine zi ?_ _)); exact BK623.out) hb); have n5_ := zm (zJ (by repeat (first | (with_reducible first | exact HB.out | apply ze | apply zd | apply zf | refine zk ?_ GE623.out) | exact HB.out)) hb); have n6_ := zm (hbox); have n7_ := zm ((by rw [hg]; exact (zE (by repeat (first | (with_reducible first | exact HB.out | apply ze | apply zd | apply zf | refine zk ?_ GE623.out) | exact HB.out))) : w.heap.size ≤ gb646)); have n8_ := zm ((by rw [hg]; exact (zE (by repeat (first | (with_reducible first | exact HB.out | apply ze | apply zd | apply zf | refine zk ?_ GE623.out) | exact HB.out))) : w.heap.size ≤ gb646)); have n9_ := zm ((by rw [hg]; exact zn (zD (g := gb623) (o := .cells #[.int .u64 x624000_1, .int .u32 x624001_1, .slice Ao43 x624002_1.length co43] 26 (0, 0)) (by (with_reducible repeat (first | refine zh ?_ _ | refine zj ?_ | refine zi ?_ _)); exact BK623.out)) : gb623 ≠ gb646)); have n10_ := zm ((by rw [hg]; exact zg (zD (g := gb623) (o := .cells #[.int .u64 x624000_1, .int .u32 x624001_1, .slice Ao43 x624002_1.length co43] 26 (0, 0)) (by (with_reducible repeat (first | refine zh ?_ _ | refine zj ?_ | refine zi ?_ _)); exact BK623.out)) : gb646 ≠ gb623)); clear HO_4; clear HO_624002; clear HO639; clear HO644; clear BK623; clear HB; have HO_4 := n0_; have HO_624002 := n1_; have HO639 := n2_; have HO644 := n3_; have BK623 := n4_; have HB := n5_; have BK646 := n6_; have GW646 := n7_; have GE646 := n8_; have NB623_646 := n9_; have NB646_623 := n10_; clear n0_ n1_ n2_ n3_ n4_ n5_ n6_ n7_ n8_ n9_ n10_; clear hb hbox hg; have hnb48 := NB646_623.out; have hnc48 := NB623_646.out; have hcz49_0 : w47.cell? ⟨gb646, 0, none⟩ = some (.int .u64 0) := (zs BK646.out 0).trans rfl; have hcz49_1 : w47.cell? ⟨gb646, 1, none⟩ = some (.int .u32 0) := (zs BK646.out 1).trans rfl; have hcz49_2 : w47.cell? ⟨gb646, 2, none⟩ = some (.slice none 0 0) := (zs BK646.out 2).trans rfl; have hcz49_3 : w47.cell? ⟨gb646, 3, none⟩ = some (.int .i64 0) := (zs BK646.out 3).trans rfl; have hfz49_0 := zx BK646.out 0; have hfz49_1 := zx BK646.out 1; have hfz49_2 := zx BK646.out 2; have hfz49_3 := zx BK646.out 3; obtain ⟨Ao50, co50, eo50⟩ := Kd.V_slice HO644.out; subst eo50))
      go_loopg [9] kj6 (fun kq v9 w' => ∃ (x9_3 : Int) (x647000_3 : Int) (x647001_3 : Int) (x647002_3 : List Int) (x647003_3 : Int) (u647002 : Value), v9 = .int .i64 x9_3 ∧ Aside0 (psalterylaw05_CoderNumsBack.l1 kq x4_1 x9_3 x647000_3 x647001_3 x647002_3 x647003_3 = some r) ∧ Aside0 (kq ≤ kj6) ∧ Aside0 (Kd.R k76 76 w' w.heap.size (fun _ => True) u4 x4_1) ∧ Aside0 (Kd.R (Kd.int .u8) 5 w' w.heap.size (fun _ => True) (.slice Ao43 x624002_1.length co43) x624002_1) ∧ Aside0 (Kd.V (Kd.int .u8) 5 w' w.heap.size (fun k_ => some k_ ≠ (u4 : Value).ownBlock ∧ some k_ ≠ ((.slice Ao43 x624002_1.length co43) : Value).ownBlock ∧ k_ ≠ gb623 ∧ k_ ≠ gb646) u647002 x647002_3) ∧ Aside0 (w'.heap[gb623]? = some (.cells #[.int .u64 x624000_1, .int .u32 x624001_1, (.slice Ao43 x624002_1.length co43)] 26 (0, 0))) ∧ Aside0 (w'.heap[gb646]? = some (.cells #[.int .u64 x647000_3, .int .u32 x647001_3, u647002, .int .i64 x647003_3] 43 (0, 0))) ∧ Aside0 (Below w.heap.size w w'))
      case atStart => exact ⟨(0), (t640), (t641), (t642), (t645), (.slice Ao50 t642.length co50), (by first | rfl | (simp; done) | (simp [*]; done)), H', ⟨Nat.le_refl _⟩, ⟨by (with_reducible repeat (first | apply zo | apply zp | apply zq)); exact zG (zH (p := ⟨gb646, 3, none⟩) (zH (p := ⟨gb646, 2, none⟩) (zH (p := ⟨gb646, 1, none⟩) (zH (p := ⟨gb646, 0, none⟩) (Kd.R_types HO_4.out BK646.out (by decide)) (fun _ hk => hk.2) (.int .u64 t640)) (fun _ hk => hk.2) (.int .u32 t641)) (fun _ hk => hk.2) (.slice Ao50 t642.length co50)) (fun _ hk => hk.2) (.int .i64 t645)) (fun _ hk => trivial)⟩, ⟨by (with_reducible repeat (first | apply zo | apply zp | apply zq)); exact zG (zH (p := ⟨gb646, 3, none⟩) (zH (p := ⟨gb646, 2, none⟩) (zH (p := ⟨gb646, 1, none⟩) (zH (p := ⟨gb646, 0, none⟩) (Kd.R_types HO_624002.out BK646.out (by decide)) (fun _ hk => hk.2) (.int .u64 t640)) (fun _ hk => hk.2) (.int .u32 t641)) (fun _ hk => hk.2) (.slice Ao50 t642.length co50)) (fun _ hk => hk.2) (.int .i64 t645)) (fun _ hk => trivial)⟩, ⟨by (with_reducible repeat (first | apply zA | apply zB | apply zC)); exact zy (zI (p := ⟨gb646, 3, none⟩) (zI (p := ⟨gb646, 2, none⟩) (zI (p := ⟨gb646, 1, none⟩) (zI (p := ⟨gb646, 0, none⟩) (zy HO644.out (fun k_ hk => (⟨hk, hk.2⟩ : _ ∧ k_ ≠ gb646))) (fun _ hk => hk.2) (.int .u64 t640)) (fun _ hk => hk.2) (.int .u32 t641)) (fun _ hk => hk.2) (.slice Ao50 t642.length co50)) (fun _ hk => hk.2) (.int .i64 t645)) (fun _ hk => ⟨hk.1.1.1, ⟨hk.1.1.2.1, ⟨hk.1.1.2.2, hk.1.2⟩⟩⟩)⟩, ⟨by (with_reducible repeat (first | refine zh ?_ _ | refine zj ?_ | refine zi ?_ _)); refine zv ?_ NB623_646.out _; (with_reducible repeat (first | refine zh ?_ _ | refine zj ?_ | refine zi ?_ _)); refine zv ?_ NB623_646.out _; (with_reducible repeat (first | refine zh ?_ _ | refine zj ?_ | refine zi ?_ _)); refine zv ?_ NB623_646.out _; (with_reducible repeat (first | refine zh ?_ _ | refine zj ?_ | refine zi ?_ _)); refine zv ?_ NB623_646.out _; (with_reducible repeat (first | refine zh ?_ _ | refine zj ?_ | refine zi ?_ _)); exact BK623.out⟩, ⟨by (with_reducible repeat (first | refine zh ?_ _ | refine zj ?_ | refine zi ?_ _)); refine zw (cs := #[.int .u64 t640, .int .u32 t641, .slice Ao50 t642.length co50, .int .i64 0]) ?_ 3 _ rfl; (with_reducible repeat (first | refine zh ?_ _ | refine zj ?_ | refine zi ?_ _)); refine zw (cs := #[.int .u64 t640, .int .u32 t641, .slice none 0 0, .int .i64 0]) ?_ 2 _ rfl; (with_reducible repeat (first | refine zh ?_ _ | refine zj ?_ | refine zi ?_ _)); refine zw (cs := #[.int .u64 t640, .int .u32 0, .slice none 0 0, .int .i64 0]) ?_ 1 _ rfl; (with_reducible repeat (first | refine zh ?_ _ | refine zj ?_ | refine zi ?_ _)); refine zw (cs := #[.int .u64 0, .int .u32 0, .slice none 0 0, .int .i64 0]) ?_ 0 _ rfl; (with_reducible repeat (first | refine zh ?_ _ | refine zj ?_ | refine zi ?_ _)); exact BK646.out⟩, ⟨by repeat (first | (with_reducible first | exact HB.out | apply ze | apply zd | apply zf | refine zk ?_ GE623.out | refine zk ?_ GE646.out) | exact HB.out)⟩⟩
      case round =>
       clear H'
       try clear c1
       try clear c2
       try clear p2
       try clear c3
       try clear c4
       try clear p6
       try clear q6
       try clear hx6
       try clear c9
       try clear c10
       try clear c11
       try clear c13
       try clear c13b0
       try clear c13b1
       try clear c14
       try clear c24
       try clear c25
       try clear c26
       try clear c37
       try clear c48
       try clear hcz26_0
       try clear hcz26_1
       try clear hcz26_2
       try clear hcz27_0
       try clear hcz27_1
       try clear hcz27_2
       try clear hcz38_0
       try clear hcz38_1
       try clear hcz38_2
       try clear hcz39_0
       try clear hcz39_1
       try clear hcz39_2
       try clear hcz42_0
       try clear hcz42_1
       try clear hcz42_2
       try clear hcz49_0
       try clear hcz49_1
       try clear hcz49_2
       try clear hcz49_3
       try clear hfz26_0
       try clear hfz26_1
       try clear hfz26_2
       try clear hfz27_0
       try clear hfz27_1
       try clear hfz27_2
       try clear hfz38_0
       try clear hfz38_1
       try clear hfz38_2
       try clear hfz39_0
       try clear hfz39_1
       try clear hfz39_2
       try clear hfz42_0
       try clear hfz42_1
       try clear hfz42_2
       try clear hfz49_0
       try clear hfz49_1
       try clear hfz49_2
       try clear hfz49_3
       try clear hx624_0
       try clear hx624_1
       try clear hx625_0
       try clear hx625_1
       try clear hx633_0
       try clear hx633_1
       try clear p624
       try clear p625
       try clear p633
       try clear q624
       try clear q625
       try clear q633
       obtain ⟨x9_3, x647000_3, x647001_3, x647002_3, x647003_3, u647002, rfl, HA, HK3, HO_4, HO_624002, HO_647002, BK623, BK646, HB⟩ := hrel
       cases gk with
       | zero => exact absurd HA.out (by simp [psalterylaw05_CoderNumsBack.l1])
       | succ k3 =>
        have H := HA.out
        clear HA
        simp only [psalterylaw05_CoderNumsBack.l1] at H
        by_cases c51 : x9_3 < (x4_1.length : Int)
        ·
         rw [if_pos c51] at H
         have c51b0 : decide (x9_3 < (x4_1.length : Int)) = true := decide_eq_true c51
         clear c51
         by_cases c52 : 0 ≤ x9_3
         ·
          rw [if_pos c52] at H
          have c52b0 : decide (0 ≤ x9_3) = true := decide_eq_true c52
          clear c52
          replace H := Option.bind_eq_some_iff.mp H
          obtain ⟨⟨t649, t650, t651, t654, t655, t656⟩, A530, H⟩ := H
          replace H : (if t656 = 0 then (psalterylaw05_CoderNumsBack.j3 k3 x4_1 x9_3 (t655 != ((rd_T76 x4_1 x9_3).f0)) t649 t650 t651 t654) else (psalterylaw05_CoderNumsBack.j3 k3 x4_1 x9_3 true t649 t650 t651 t654)) = some r := H
          have A53 := zm A530
          clear A530
          have HC54 := zm H
          clear H
          obtain ⟨Ao55, co55, eo55⟩ := Kd.R_slice HO_4.out
          subst eo55
          obtain ⟨Ao56, co56, eo56⟩ := Kd.V_slice HO_647002.out
          subst eo56
          try go_wp2
          have n0_ := zm (zq HO_4.out)
          have n1_ := zm (zq HO_624002.out)
          have n2_ := zm (zC HO_647002.out)
          have n3_ := zm (zj BK623.out)
          have n4_ := zm (zj BK646.out)
          have n5_ := zm (zf HB.out)
          clear HO_4
          clear HO_624002
          clear HO_647002
          clear BK623
          clear BK646
          clear HB
          have HO_4 := n0_
          have HO_624002 := n1_
          have HO_647002 := n2_
          have BK623 := n3_
          have BK646 := n4_
          have HB := n5_
          clear n0_ n1_ n2_ n3_ n4_ n5_
          have p648 : 0 ≤ (x9_3 : Int) := of_decide_eq_true (by first | (with_reducible assumption) | assumption)
          have q648 : x9_3 < (x4_1.length : Int) := of_decide_eq_true (by first | (with_reducible assumption) | assumption)
          obtain ⟨ad648, e648, hx648_0, hx648_1⟩ := at_T76 (Kd.R_reads' HO_4.out).2.2 x9_3 p648 q648
          cases e648
          replace p648 := eq_true p648
          replace q648 := eq_true q648
          refine start_ (n := 15) (S := fun w' => w'.cell? ⟨gb646, 0, none⟩ = some (.int .u64 x647000_3) ∧ w'.cell? ⟨gb646, 1, none⟩ = some (.int .u32 x647001_3) ∧ w'.cell? ⟨gb646, 2, none⟩ = some (.slice Ao56 x647002_3.length co56) ∧ w'.cell? ⟨gb646, 3, none⟩ = some (.int .i64 x647003_3) ∧ w'.cell? (ad648.add ((x9_3).toNat * 2)) = some (.int .u64 ((rd_T76 x4_1 x9_3).f0)) ∧ w'.cell? ⟨(ad648.add ((x9_3).toNat * 2)).block, (ad648.add ((x9_3).toNat * 2)).off + 1, none⟩ = some (.int .u64 ((rd_T76 x4_1 x9_3).f1))) (ds := []) #[false, false, false, false, false, false, false, false, false, false, false, false, false, false, false] (by kernel_rfl) rfl rfl ⟨(zs BK646.out 0).trans rfl, (zs BK646.out 1).trans rfl, (zs BK646.out 2).trans rfl, (zs BK646.out 3).trans rfl, hx648_0, hx648_1⟩ (fun hHeld => ?_); refine with_tabW psalterylaw05_CoderNumsBack.tab14 psalterylaw05_CoderNumsBack.bits14 (fun HT_ HW_ => ?_)
          generalize wr.drew = w57 at HO_4 HO_624002 HO_647002 BK623 BK646 HB hx648_0 hx648_1 hHeld ⊢
          refine pure_ (i := 1) (N := some 60) (v := ?_) (a' := ?_) #[false, true, false, false, false, false, false, false, false, false, false, false, false, false, false] rfl rfl (any_of HT_.out (by kernel_rfl)) (fun _ _ _ h => h) (Or.inl ⟨by rfl, ?_⟩) ?_ ?_
          rotate_left
          ·
           intro w'
           go_simp
           with_reducible rfl
          rotate_left
          ·
           simp only [Act.put, List.setIfInBounds_toArray, List.set_cons_zero, List.set_cons_succ, i64_w, i32_w]
           rfl
          refine pure_ (i := 2) (N := some 61) (v := ?_) (a' := ?_) #[false, true, true, false, false, false, false, false, false, false, false, false, false, false, false] rfl rfl (any_of HT_.out (by kernel_rfl)) (fun _ _ _ h => h) (Or.inl ⟨by rfl, ?_⟩) ?_ ?_
          rotate_left
          ·
           intro w'
           go_simp
           with_reducible rfl
          rotate_left
          ·
           simp only [Act.put, List.setIfInBounds_toArray, List.set_cons_zero, List.set_cons_succ, i64_w, i32_w]
           rfl
          refine pure_ (i := 3) (N := some 62) (v := ?_) (a' := ?_) #[false, true, true, true, false, false, false, false, false, false, false, false, false, false, false] rfl rfl (any_of HT_.out (by kernel_rfl)) (fun _ _ _ h => h) (Or.inl ⟨by rfl, ?_⟩) ?_ ?_
          rotate_left
          ·
           intro w'
           go_simp
           with_reducible rfl
          rotate_left
          ·
           simp only [Act.put, List.setIfInBounds_toArray, List.set_cons_zero, List.set_cons_succ, i64_w, i32_w]
           rfl
          refine pure_ (i := 4) (N := some 63) (v := ?_) (a' := ?_) #[false, true, true, true, true, false, false, false, false, false, false, false, false, false, false] rfl rfl (any_of HT_.out (by kernel_rfl)) (fun _ _ _ h => h) (Or.inl ⟨by rfl, ?_⟩) ?_ ?_
          rotate_left
          ·
           intro w'
           go_simp
           with_reducible rfl
          rotate_left
          ·
           simp only [Act.put, List.setIfInBounds_toArray, List.set_cons_zero, List.set_cons_succ, i64_w, i32_w]
           rfl
          refine take_ (i := 0) (N := some 59) (v := ?_) (a' := ?_) #[true, true, true, true, true, false, false, false, false, false, false, false, false, false, false] rfl rfl (take_ofW HT_.out HW_.out (by kernel_rfl)) (fun _ _ _ h => h) (Or.inl ⟨by rfl, ?_⟩) hHeld ?_ ?_
          rotate_left
          ·
           rintro w' ⟨s0, s1, s2, s3, s4, s5⟩
           go_simp
           with_reducible rfl
          rotate_left
          ·
           simp only [Act.put, List.setIfInBounds_toArray, List.set_cons_zero, List.set_cons_succ, i64_w, i32_w]
           rfl
          refine take_ (i := 5) (N := some 64) (v := ?_) (a' := ?_) #[true, true, true, true, true, true, false, false, false, false, false, false, false, false, false] rfl rfl (take_ofW HT_.out HW_.out (by kernel_rfl)) (fun _ _ _ h => h) (Or.inl ⟨by rfl, ?_⟩) hHeld ?_ ?_
          rotate_left
          ·
           rintro w' ⟨s0, s1, s2, s3, s4, s5⟩
           go_simp
           with_reducible rfl
          rotate_left
          ·
           simp only [Act.put, List.setIfInBounds_toArray, List.set_cons_zero, List.set_cons_succ, i64_w, i32_w]
           rfl
          refine join_ (σ := Value × Nat) 3 #[true, true, true, true, true, true, true, true, true, true, true, true, false, false, false] (fun s_ => [(65, .tuple #[.agg #[.int .u64 t649, .int .u32 t650, s_.1, .int .i64 t654], .int .u64 t655, .int .i64 t656]), (10, .pointer (some ⟨s_.2, 0, none⟩)), (58, .tuple #[.agg #[.int .u64 t649, .int .u32 t650, s_.1, .int .i64 t654], .int .u64 t655, .int .i64 t656]), (66, .agg #[.int .u64 t649, .int .u32 t650, s_.1, .int .i64 t654]), (67, .int .u64 t655), (68, .int .i64 t656)]) (fun s_ w' => (w'.cell? ⟨gb646, 0, none⟩ = some (.int .u64 x647000_3) ∧ w'.cell? ⟨gb646, 1, none⟩ = some (.int .u32 x647001_3) ∧ w'.cell? ⟨gb646, 2, none⟩ = some (.slice Ao56 x647002_3.length co56) ∧ w'.cell? ⟨gb646, 3, none⟩ = some (.int .i64 x647003_3) ∧ w'.cell? (ad648.add ((x9_3).toNat * 2)) = some (.int .u64 ((rd_T76 x4_1 x9_3).f0)) ∧ w'.cell? ⟨(ad648.add ((x9_3).toNat * 2)).block, (ad648.add ((x9_3).toNat * 2)).off + 1, none⟩ = some (.int .u64 ((rd_T76 x4_1 x9_3).f1))) ∧ (Kd.V (Kd.int .u8) 5 w' w.heap.size (fun k_ => some k_ ≠ (.slice (some ad648) x4_1.length co55 : Value).ownBlock ∧ some k_ ≠ (.slice Ao43 x624002_1.length co43 : Value).ownBlock ∧ k_ ≠ gb623 ∧ k_ ≠ gb646 ∧ k_ ≠ s_.2) s_.1 t651) ∧ (Kd.R k76 76 w' w.heap.size (fun _ => True) (.slice (some ad648) x4_1.length co55) x4_1) ∧ (Kd.R (Kd.int .u8) 5 w' w.heap.size (fun _ => True) (.slice Ao43 x624002_1.length co43) x624002_1) ∧ (Kd.V (Kd.int .u8) 5 w' w.heap.size (fun k_ => some k_ ≠ (.slice (some ad648) x4_1.length co55 : Value).ownBlock ∧ some k_ ≠ (.slice Ao43 x624002_1.length co43 : Value).ownBlock ∧ k_ ≠ gb623 ∧ k_ ≠ gb646 ∧ k_ ≠ s_.2) (.slice Ao56 x647002_3.length co56) x647002_3) ∧ (w'.heap[gb623]? = some (.cells #[.int .u64 x624000_1, .int .u32 x624001_1, .slice Ao43 x624002_1.length co43] 26 (0, 0))) ∧ (w'.heap[gb646]? = some (.cells #[.int .u64 x647000_3, .int .u32 x647001_3, .slice Ao56 x647002_3.length co56, .int .i64 x647003_3] 43 (0, 0))) ∧ (w'.heap[s_.2]? = some (.cells #[.int .u64 0, .int .u32 0, .slice none 0 0, .int .i64 0] 43 (0, 0))) ∧ (w.heap.size ≤ s_.2) ∧ (w.heap.size ≤ s_.2) ∧ (gb623 ≠ s_.2) ∧ (s_.2 ≠ gb623) ∧ (gb646 ≠ s_.2) ∧ (s_.2 ≠ gb646) ∧ (Below w.heap.size w w')) ?_ ?_
          rotate_left
          ·
           intro hCont
           refine two_ (i := 6) (j := 11) (Ni := some 65) (Nj := some 10) #[true, true, true, true, true, true, true, false, false, false, false, false, false, false, false] #[true, true, true, true, true, true, false, false, false, false, false, true, false, false, false] rfl rfl rfl rfl (two_of HT_.out (by kernel_rfl)) (by decide) (by decide) (fun K hK => ?_) (fun K hK => ?_)
           ·
            skip
            refine goes_ Try.func39 (by kernel_rfl) rfl #[.agg #[.int .u64 x647000_3, .int .u32 x647001_3, .slice Ao56 x647002_3.length co56, .int .i64 x647003_3], .int .u64 ((rd_T76 x4_1 x9_3).f1)] (by rfl) rfl rfl (by (try simp only [List.map_toArray, List.map_cons, List.map_nil]); first | done | rfl | (simp only [List.length_drop, List.length_take]; rfl)) ?_
            with_reducible refine (coder_TakeNum.calls k3 x647000_3 x647001_3 (fun k_ => (some k_ ≠ (.slice (some ad648) x4_1.length co55 : Value).ownBlock ∧ (some k_ ≠ (.slice Ao43 x624002_1.length co43 : Value).ownBlock ∧ (k_ ≠ gb623 ∧ k_ ≠ gb646)))) _ _ x647002_3 x647003_3 ((rd_T76 x4_1 x9_3).f1) t649 t650 t651 t654 t655 t656 _ ?side1 A53.out).mono ?_
            (case side1 => exact HO_647002.out)
            rintro e w58 ⟨v652, rfl, ho0, hb⟩
            have HS4_ := (hb.cell (zb _ _ (hHeld.2.2.2.2.1))).trans (hHeld.2.2.2.2.1)
            have HS5_ := (hb.cell (zb _ _ (hHeld.2.2.2.2.2))).trans (hHeld.2.2.2.2.2)
            refine ⟨_, rfl, ?_⟩
            have n0_ := zm (Kd.R_below (by (with_reducible repeat (first | apply zo | apply zp | apply zq)); exact HO_4.out) hb)
            have n1_ := zm (Kd.R_below (by (with_reducible repeat (first | apply zo | apply zp | apply zq)); exact HO_624002.out) hb)
            have n2_ := zm (Kd.V_below (by (with_reducible repeat (first | apply zA | apply zB | apply zC)); exact HO_647002.out) hb)
            have n3_ := zm (Kd.V_lower (zy (ok' := fun k_ => some k_ ≠ (.slice (some ad648) x4_1.length co55 : Value).ownBlock ∧ some k_ ≠ (.slice Ao43 x624002_1.length co43 : Value).ownBlock ∧ k_ ≠ gb623 ∧ k_ ≠ gb646) ho0 (fun k_ hk_ => ⟨Or.elim hk_ (fun hs_ => hs_.1) (fun hn_ => (Kd.fresh' (Kd.R_lt (by (with_reducible repeat (first | apply zo | apply zp | apply zq)); exact HO_4.out)) k_ hn_)), Or.elim hk_ (fun hs_ => hs_.2.1) (fun hn_ => (Kd.fresh' (Kd.R_lt (by (with_reducible repeat (first | apply zo | apply zp | apply zq)); exact HO_624002.out)) k_ hn_)), Or.elim hk_ (fun hs_ => hs_.2.2.1) (fun hn_ => (Kd.freshB (g := gb623) (o := .cells #[.int .u64 x624000_1, .int .u32 x624001_1, .slice Ao43 x624002_1.length co43] 26 (0, 0)) (by (with_reducible repeat (first | refine zh ?_ _ | refine zj ?_ | refine zi ?_ _)); exact BK623.out) k_ hn_)), Or.elim hk_ (fun hs_ => hs_.2.2.2) (fun hn_ => (Kd.freshB (g := gb646) (o := .cells #[.int .u64 x647000_3, .int .u32 x647001_3, .slice Ao56 x647002_3.length co56, .int .i64 x647003_3] 43 (0, 0)) (by (with_reducible repeat (first | refine zh ?_ _ | refine zj ?_ | refine zi ?_ _)); exact BK646.out) k_ hn_))⟩)) (zE (by repeat (first | (with_reducible first | exact HB.out | apply ze | apply zd | apply zf | refine zk ?_ GE623.out | refine zk ?_ GE646.out) | exact HB.out))))
            have n4_ := zm (zF (g := gb623) (o := .cells #[.int .u64 x624000_1, .int .u32 x624001_1, .slice Ao43 x624002_1.length co43] 26 (0, 0)) (by (with_reducible repeat (first | refine zh ?_ _ | refine zj ?_ | refine zi ?_ _)); exact BK623.out) hb)
            have n5_ := zm (zF (g := gb646) (o := .cells #[.int .u64 x647000_3, .int .u32 x647001_3, .slice Ao56 x647002_3.length co56, .int .i64 x647003_3] 43 (0, 0)) (by (with_reducible repeat (first | refine zh ?_ _ | refine zj ?_ | refine zi ?_ _)); exact BK646.out) hb)
            have n6_ := zm (zJ (by repeat (first | (with_reducible first | exact HB.out | apply ze | apply zd | apply zf | refine zk ?_ GE623.out | refine zk ?_ GE646.out) | exact HB.out)) hb)
            clear HO_4
            clear HO_624002
            clear HO_647002
            clear BK623
            clear BK646
            clear HB
            have HO_4 := n0_
            have HO_624002 := n1_
            have HO_647002 := n2_
            have HO653 := n3_
            have BK623 := n4_
            have BK646 := n5_
            have HB := n6_
            clear n0_ n1_ n2_ n3_ n4_ n5_ n6_
            (try clear hb)
            (try clear hb2)
            (try clear hk)
            (try clear hi)
            (try clear ho0)
            refine hK.out _ _ ⟨(zs BK646.out 0).trans rfl, (zs BK646.out 1).trans rfl, (zs BK646.out 2).trans rfl, (zs BK646.out 3).trans rfl, HS4_, HS5_⟩ (fun hHeld => ?_)
            clear hK K
            refine norm_ (a' := ?_) ?_ ?_
            rotate_left
            ·
             show Act.put _ (some 65) _ = _
             simp only [Act.put, List.setIfInBounds_toArray, List.set_cons_zero, List.set_cons_succ, i64_w, i32_w]
             rfl
            refine pure_ (i := 7) (N := some 58) (v := ?_) (a' := ?_) #[true, true, true, true, true, true, true, true, false, false, false, false, false, false, false] rfl rfl (any_of HT_.out (by kernel_rfl)) (fun _ _ _ h => h) (Or.inl ⟨by rfl, ?_⟩) ?_ ?_
            rotate_left
            ·
             intro w'
             go_simp
             with_reducible rfl
            rotate_left
            ·
             simp only [Act.put, List.setIfInBounds_toArray, List.set_cons_zero, List.set_cons_succ, i64_w, i32_w]
             rfl
            refine pure_ (i := 8) (N := some 66) (v := ?_) (a' := ?_) #[true, true, true, true, true, true, true, true, true, false, false, false, false, false, false] rfl rfl (any_of HT_.out (by kernel_rfl)) (fun _ _ _ h => h) (Or.inl ⟨by rfl, ?_⟩) ?_ ?_
            rotate_left
            ·
             intro w'
             go_simp
             with_reducible rfl
            rotate_left
            ·
             simp only [Act.put, List.setIfInBounds_toArray, List.set_cons_zero, List.set_cons_succ, i64_w, i32_w]
             rfl
            refine pure_ (i := 9) (N := some 67) (v := ?_) (a' := ?_) #[true, true, true, true, true, true, true, true, true, true, false, false, false, false, false] rfl rfl (any_of HT_.out (by kernel_rfl)) (fun _ _ _ h => h) (Or.inl ⟨by rfl, ?_⟩) ?_ ?_
            rotate_left
            ·
             intro w'
             go_simp
             with_reducible rfl
            rotate_left
            ·
             simp only [Act.put, List.setIfInBounds_toArray, List.set_cons_zero, List.set_cons_succ, i64_w, i32_w]
             rfl
            refine pure_ (i := 10) (N := some 68) (v := ?_) (a' := ?_) #[true, true, true, true, true, true, true, true, true, true, true, false, false, false, false] rfl rfl (any_of HT_.out (by kernel_rfl)) (fun _ _ _ h => h) (Or.inl ⟨by rfl, ?_⟩) ?_ ?_
            rotate_left
            ·
             intro w'
             go_simp
             with_reducible rfl
            rotate_left
            ·
             simp only [Act.put, List.setIfInBounds_toArray, List.set_cons_zero, List.set_cons_succ, i64_w, i32_w]
             rfl
            refine one_ (i := 11) (N := some 10) #[true, true, true, true, true, true, true, true, true, true, true, true, false, false, false] rfl rfl (one_of HT_.out (by kernel_rfl)) (by decide) (fun K hK => ?_)
            refine box_step ?hg (N := 10) ?hd (cs := #[.int .u64 0, .int .u32 0, .slice none 0 0, .int .i64 0]) (t := 43) ?hr ?_; (case hd => rfl); (case hg => rfl); (case hr => first | (go_simp; done) | (go_simp; rfl))
            intro gb657 hg w59 hbox hb
            have HS4_ := (hb.cell (zb _ _ (hHeld.2.2.2.2.1))).trans (hHeld.2.2.2.2.1)
            have HS5_ := (hb.cell (zb _ _ (hHeld.2.2.2.2.2))).trans (hHeld.2.2.2.2.2)
            have n0_ := zm (Kd.R_below (by (with_reducible repeat (first | apply zo | apply zp | apply zq)); exact HO_4.out) hb)
            have n1_ := zm (Kd.R_below (by (with_reducible repeat (first | apply zo | apply zp | apply zq)); exact HO_624002.out) hb)
            have n2_ := zm (Kd.V_below (Kd.V_elderB (by (with_reducible repeat (first | apply zA | apply zB | apply zC)); exact HO_647002.out) gb657 (Nat.le_of_eq hg.symm)) hb)
            have n3_ := zm (Kd.V_below (Kd.V_elderB (by (with_reducible repeat (first | apply zA | apply zB | apply zC)); exact HO653.out) gb657 (Nat.le_of_eq hg.symm)) hb)
            have n4_ := zm (zF (g := gb623) (o := .cells #[.int .u64 x624000_1, .int .u32 x624001_1, .slice Ao43 x624002_1.length co43] 26 (0, 0)) (by (with_reducible repeat (first | refine zh ?_ _ | refine zj ?_ | refine zi ?_ _)); exact BK623.out) hb)
            have n5_ := zm (zF (g := gb646) (o := .cells #[.int .u64 x647000_3, .int .u32 x647001_3, .slice Ao56 x647002_3.length co56, .int .i64 x647003_3] 43 (0, 0)) (by (with_reducible repeat (first | refine zh ?_ _ | refine zj ?_ | refine zi ?_ _)); exact BK646.out) hb)
            have n6_ := zm (zJ (by repeat (first | (with_reducible first | exact HB.out | apply ze | apply zd | apply zf | refine zk ?_ GE623.out | refine zk ?_ GE646.out) | exact HB.out)) hb)
            have n7_ := zm (hbox)
            have n8_ := zm ((by rw [hg]; exact (zE (by repeat (first | (with_reducible first | exact HB.out | apply ze | apply zd | apply zf | refine zk ?_ GE623.out | refine zk ?_ GE646.out) | exact HB.out))) : w.heap.size ≤ gb657))
            have n9_ := zm ((by rw [hg]; exact (zE (by repeat (first | (with_reducible first | exact HB.out | apply ze | apply zd | apply zf | refine zk ?_ GE623.out | refine zk ?_ GE646.out) | exact HB.out))) : w.heap.size ≤ gb657))
            have n10_ := zm ((by rw [hg]; exact zn (zD (g := gb623) (o := .cells #[.int .u64 x624000_1, .int .u32 x624001_1, .slice Ao43 x624002_1.length co43] 26 (0, 0)) (by (with_reducible repeat (first | refine zh ?_ _ | refine zj ?_ | refine zi ?_ _)); exact BK623.out)) : gb623 ≠ gb657))
            have n11_ := zm ((by rw [hg]; exact zg (zD (g := gb623) (o := .cells #[.int .u64 x624000_1, .int .u32 x624001_1, .slice Ao43 x624002_1.length co43] 26 (0, 0)) (by (with_reducible repeat (first | refine zh ?_ _ | refine zj ?_ | refine zi ?_ _)); exact BK623.out)) : gb657 ≠ gb623))
            have n12_ := zm ((by rw [hg]; exact zn (zD (g := gb646) (o := .cells #[.int .u64 x647000_3, .int .u32 x647001_3, .slice Ao56 x647002_3.length co56, .int .i64 x647003_3] 43 (0, 0)) (by (with_reducible repeat (first | refine zh ?_ _ | refine zj ?_ | refine zi ?_ _)); exact BK646.out)) : gb646 ≠ gb657))
            have n13_ := zm ((by rw [hg]; exact zg (zD (g := gb646) (o := .cells #[.int .u64 x647000_3, .int .u32 x647001_3, .slice Ao56 x647002_3.length co56, .int .i64 x647003_3] 43 (0, 0)) (by (with_reducible repeat (first | refine zh ?_ _ | refine zj ?_ | refine zi ?_ _)); exact BK646.out)) : gb657 ≠ gb646))
            clear HO_4
            clear HO_624002
            clear HO_647002
            clear HO653
            clear BK623
            clear BK646
            clear HB
            have HO_4 := n0_
            have HO_624002 := n1_
            have HO_647002 := n2_
            have HO653 := n3_
            have BK623 := n4_
            have BK646 := n5_
            have HB := n6_
            have BK657 := n7_
            have GW657 := n8_
            have GE657 := n9_
            have NB623_657 := n10_
            have NB657_623 := n11_
            have NB646_657 := n12_
            have NB657_646 := n13_
            clear n0_ n1_ n2_ n3_ n4_ n5_ n6_ n7_ n8_ n9_ n10_ n11_ n12_ n13_
            clear hb hbox hg
            refine hK.out _ _ ⟨(zs BK646.out 0).trans rfl, (zs BK646.out 1).trans rfl, (zs BK646.out 2).trans rfl, (zs BK646.out 3).trans rfl, HS4_, HS5_⟩ (fun hHeld => ?_)
            clear hK K
            refine norm_ (a' := ?_) ?_ ?_
            rotate_left
            ·
             show Act.put _ (some 10) _ = _
             simp only [Act.put, List.setIfInBounds_toArray, List.set_cons_zero, List.set_cons_succ, i64_w, i32_w]
             rfl
            exact norm_ (by simp only [putAll, Act.put, List.setIfInBounds_toArray, List.set_cons_zero, List.set_cons_succ]) (hCont (v652, gb657) _ ⟨hHeld, (by (with_reducible repeat (first | apply zA | apply zB | apply zC)); exact zy HO653.out (fun _ hk => ⟨hk.1.1, ⟨hk.1.2.1, ⟨hk.1.2.2.1, ⟨hk.1.2.2.2, hk.2⟩⟩⟩⟩)), (by (with_reducible repeat (first | apply zo | apply zp | apply zq)); exact HO_4.out), (by (with_reducible repeat (first | apply zo | apply zp | apply zq)); exact HO_624002.out), (by (with_reducible repeat (first | apply zA | apply zB | apply zC)); exact zy HO_647002.out (fun _ hk => ⟨hk.1.1, ⟨hk.1.2.1, ⟨hk.1.2.2.1, ⟨hk.1.2.2.2, hk.2⟩⟩⟩⟩)), (by (with_reducible repeat (first | refine zh ?_ _ | refine zj ?_ | refine zi ?_ _)); exact BK623.out), (by (with_reducible repeat (first | refine zh ?_ _ | refine zj ?_ | refine zi ?_ _)); exact BK646.out), (by (with_reducible repeat (first | refine zh ?_ _ | refine zj ?_ | refine zi ?_ _)); exact BK657.out), GW657.out, GE657.out, NB623_657.out, NB657_623.out, NB646_657.out, NB657_646.out, (by repeat (first | (with_reducible first | exact HB.out | apply ze | apply zd | apply zf | refine zk ?_ GE623.out | refine zk ?_ GE646.out | refine zk ?_ GE657.out) | exact HB.out))⟩)
           ·
            skip
            refine box_step ?hg (N := 10) ?hd (cs := #[.int .u64 0, .int .u32 0, .slice none 0 0, .int .i64 0]) (t := 43) ?hr ?_; (case hd => rfl); (case hg => rfl); (case hr => first | (go_simp; done) | (go_simp; rfl))
            intro gb657 hg w58 hbox hb
            have HS4_ := (hb.cell (zb _ _ (hHeld.2.2.2.2.1))).trans (hHeld.2.2.2.2.1)
            have HS5_ := (hb.cell (zb _ _ (hHeld.2.2.2.2.2))).trans (hHeld.2.2.2.2.2)
            have n0_ := zm (Kd.R_below (by (with_reducible repeat (first | apply zo | apply zp | apply zq)); exact HO_4.out) hb)
            have n1_ := zm (Kd.R_below (by (with_reducible repeat (first | apply zo | apply zp | apply zq)); exact HO_624002.out) hb)
            have n2_ := zm (Kd.V_below (Kd.V_elderB (by (with_reducible repeat (first | apply zA | apply zB | apply zC)); exact HO_647002.out) gb657 (Nat.le_of_eq hg.symm)) hb)
            have n3_ := zm (zF (g := gb623) (o := .cells #[.int .u64 x624000_1, .int .u32 x624001_1, .slice Ao43 x624002_1.length co43] 26 (0, 0)) (by (with_reducible repeat (first | refine zh ?_ _ | refine zj ?_ | refine zi ?_ _)); exact BK623.out) hb)
            have n4_ := zm (zF (g := gb646) (o := .cells #[.int .u64 x647000_3, .int .u32 x647001_3, .slice Ao56 x647002_3.length co56, .int .i64 x647003_3] 43 (0, 0)) (by (with_reducible repeat (first | refine zh ?_ _ | refine zj ?_ | refine zi ?_ _)); exact BK646.out) hb)
            have n5_ := zm (zJ (by repeat (first | (with_reducible first | exact HB.out | apply ze | apply zd | apply zf | refine zk ?_ GE623.out | refine zk ?_ GE646.out) | exact HB.out)) hb)
            have n6_ := zm (hbox)
            have n7_ := zm ((by rw [hg]; exact (zE (by repeat (first | (with_reducible first | exact HB.out | apply ze | apply zd | apply zf | refine zk ?_ GE623.out | refine zk ?_ GE646.out) | exact HB.out))) : w.heap.size ≤ gb657))
            have n8_ := zm ((by rw [hg]; exact (zE (by repeat (first | (with_reducible first | exact HB.out | apply ze | apply zd | apply zf | refine zk ?_ GE623.out | refine zk ?_ GE646.out) | exact HB.out))) : w.heap.size ≤ gb657))
            have n9_ := zm ((by rw [hg]; exact zn (zD (g := gb623) (o := .cells #[.int .u64 x624000_1, .int .u32 x624001_1, .slice Ao43 x624002_1.length co43] 26 (0, 0)) (by (with_reducible repeat (first | refine zh ?_ _ | refine zj ?_ | refine zi ?_ _)); exact BK623.out)) : gb623 ≠ gb657))
            have n10_ := zm ((by rw [hg]; exact zg (zD (g := gb623) (o := .cells #[.int .u64 x624000_1, .int .u32 x624001_1, .slice Ao43 x624002_1.length co43] 26 (0, 0)) (by (with_reducible repeat (first | refine zh ?_ _ | refine zj ?_ | refine zi ?_ _)); exact BK623.out)) : gb657 ≠ gb623))
            have n11_ := zm ((by rw [hg]; exact zn (zD (g := gb646) (o := .cells #[.int .u64 x647000_3, .int .u32 x647001_3, .slice Ao56 x647002_3.length co56, .int .i64 x647003_3] 43 (0, 0)) (by (with_reducible repeat (first | refine zh ?_ _ | refine zj ?_ | refine zi ?_ _)); exact BK646.out)) : gb646 ≠ gb657))
            have n12_ := zm ((by rw [hg]; exact zg (zD (g := gb646) (o := .cells #[.int .u64 x647000_3, .int .u32 x647001_3, .slice Ao56 x647002_3.length co56, .int .i64 x647003_3] 43 (0, 0)) (by (with_reducible repeat (first | refine zh ?_ _ | refine zj ?_ | refine zi ?_ _)); exact BK646.out)) : gb657 ≠ gb646))
            clear HO_4
            clear HO_624002
            clear HO_647002
            clear BK623
            clear BK646
            clear HB
            have HO_4 := n0_
            have HO_624002 := n1_
            have HO_647002 := n2_
            have BK623 := n3_
            have BK646 := n4_
            have HB := n5_
            have BK657 := n6_
            have GW657 := n7_
            have GE657 := n8_
            have NB623_657 := n9_
            have NB657_623 := n10_
            have NB646_657 := n11_
            have NB657_646 := n12_
            clear n0_ n1_ n2_ n3_ n4_ n5_ n6_ n7_ n8_ n9_ n10_ n11_ n12_
            clear hb hbox hg
            refine hK.out _ _ ⟨(zs BK646.out 0).trans rfl, (zs BK646.out 1).trans rfl, (zs BK646.out 2).trans rfl, (zs BK646.out 3).trans rfl, HS4_, HS5_⟩ (fun hHeld => ?_)
            clear hK K
            refine norm_ (a' := ?_) ?_ ?_
            rotate_left
            ·
             show Act.put _ (some 10) _ = _
             simp only [Act.put, List.setIfInBounds_toArray, List.set_cons_zero, List.set_cons_succ, i64_w, i32_w]
             rfl
            refine one_ (i := 6) (N := some 65) #[true, true, true, true, true, true, true, false, false, false, false, true, false, false, false] rfl rfl (one_of HT_.out (by kernel_rfl)) (by decide) (fun K hK => ?_)
            refine goes_ Try.func39 (by kernel_rfl) rfl #[.agg #[.int .u64 x647000_3, .int .u32 x647001_3, .slice Ao56 x647002_3.length co56, .int .i64 x647003_3], .int .u64 ((rd_T76 x4_1 x9_3).f1)] (by rfl) rfl rfl (by (try simp only [List.map_toArray, List.map_cons, List.map_nil]); first | done | rfl | (simp only [List.length_drop, List.length_take]; rfl)) ?_
            with_reducible refine (coder_TakeNum.calls k3 x647000_3 x647001_3 (fun k_ => ((some k_ ≠ (.slice (some ad648) x4_1.length co55 : Value).ownBlock ∧ (some k_ ≠ (.slice Ao43 x624002_1.length co43 : Value).ownBlock ∧ (k_ ≠ gb623 ∧ k_ ≠ gb646))) ∧ k_ ≠ gb657)) _ _ x647002_3 x647003_3 ((rd_T76 x4_1 x9_3).f1) t649 t650 t651 t654 t655 t656 _ ?side1 A53.out).mono ?_
            (case side1 => exact HO_647002.out)
            rintro e w59 ⟨v652, rfl, ho0, hb⟩
            have HS4_ := (hb.cell (zb _ _ (hHeld.2.2.2.2.1))).trans (hHeld.2.2.2.2.1)
            have HS5_ := (hb.cell (zb _ _ (hHeld.2.2.2.2.2))).trans (hHeld.2.2.2.2.2)
            refine ⟨_, rfl, ?_⟩
            have n0_ := zm (Kd.R_below (by (with_reducible repeat (first | apply zo | apply zp | apply zq)); exact HO_4.out) hb)
            have n1_ := zm (Kd.R_below (by (with_reducible repeat (first | apply zo | apply zp | apply zq)); exact HO_624002.out) hb)
            have n2_ := zm (Kd.V_below (by (with_reducible repeat (first | apply zA | apply zB | apply zC)); exact HO_647002.out) hb)
            have n3_ := zm (Kd.V_lower (zy (ok' := fun k_ => some k_ ≠ (.slice (some ad648) x4_1.length co55 : Value).ownBlock ∧ some k_ ≠ (.slice Ao43 x624002_1.length co43 : Value).ownBlock ∧ k_ ≠ gb623 ∧ k_ ≠ gb646 ∧ k_ ≠ gb657) ho0 (fun k_ hk_ => ⟨Or.elim hk_ (fun hs_ => hs_.1.1) (fun hn_ => (Kd.fresh' (Kd.R_lt (by (with_reducible repeat (first | apply zo | apply zp | apply zq)); exact HO_4.out)) k_ hn_)), Or.elim hk_ (fun hs_ => hs_.1.2.1) (fun hn_ => (Kd.fresh' (Kd.R_lt (by (with_reducible repeat (first | apply zo | apply zp | apply zq)); exact HO_624002.out)) k_ hn_)), Or.elim hk_ (fun hs_ => hs_.1.2.2.1) (fun hn_ => (Kd.freshB (g := gb623) (o := .cells #[.int .u64 x624000_1, .int .u32 x624001_1, .slice Ao43 x624002_1.length co43] 26 (0, 0)) (by (with_reducible repeat (first | refine zh ?_ _ | refine zj ?_ | refine zi ?_ _)); exact BK623.out) k_ hn_)), Or.elim hk_ (fun hs_ => hs_.1.2.2.2) (fun hn_ => (Kd.freshB (g := gb646) (o := .cells #[.int .u64 x647000_3, .int .u32 x647001_3, .slice Ao56 x647002_3.length co56, .int .i64 x647003_3] 43 (0, 0)) (by (with_reducible repeat (first | refine zh ?_ _ | refine zj ?_ | refine zi ?_ _)); exact BK646.out) k_ hn_)), Or.elim hk_ (fun hs_ => hs_.2) (fun hn_ => (Kd.freshB (g := gb657) (o := .cells #[.int .u64 0, .int .u32 0, .slice none 0 0, .int .i64 0] 43 (0, 0)) (by (with_reducible repeat (first | refine zh ?_ _ | refine zj ?_ | refine zi ?_ _)); exact BK657.out) k_ hn_))⟩)) (zE (by repeat (first | (with_reducible first | exact HB.out | apply ze | apply zd | apply zf | refine zk ?_ GE623.out | refine zk ?_ GE646.out | refine zk ?_ GE657.out) | exact HB.out))))
            have n4_ := zm (zF (g := gb623) (o := .cells #[.int .u64 x624000_1, .int .u32 x624001_1, .slice Ao43 x624002_1.length co43] 26 (0, 0)) (by (with_reducible repeat (first | refine zh ?_ _ | refine zj ?_ | refine zi ?_ _)); exact BK623.out) hb)
            have n5_ := zm (zF (g := gb646) (o := .cells #[.int .u64 x647000_3, .int .u32 x647001_3, .slice Ao56 x647002_3.length co56, .int .i64 x647003_3] 43 (0, 0)) (by (with_reducible repeat (first | refine zh ?_ _ | refine zj ?_ | refine zi ?_ _)); exact BK646.out) hb)
            have n6_ := zm (zF (g := gb657) (o := .cells #[.int .u64 0, .int .u32 0, .slice none 0 0, .int .i64 0] 43 (0, 0)) (by (with_reducible repeat (first | refine zh ?_ _ | refine zj ?_ | refine zi ?_ _)); exact BK657.out) hb)
            have n7_ := zm (zJ (by repeat (first | (with_reducible first | exact HB.out | apply ze | apply zd | apply zf | refine zk ?_ GE623.out | refine zk ?_ GE646.out | refine zk ?_ GE657.out) | exact HB.out)) hb)
            clear HO_4
            clear HO_624002
            clear HO_647002
            clear BK623
            clear BK646
            clear BK657
            clear HB
            have HO_4 := n0_
            have HO_624002 := n1_
            have HO_647002 := n2_
            have HO653 := n3_
            have BK623 := n4_
            have BK646 := n5_
            have BK657 := n6_
            have HB := n7_
            clear n0_ n1_ n2_ n3_ n4_ n5_ n6_ n7_
            (try clear hb)
            (try clear hb2)
            (try clear hk)
            (try clear hi)
            (try clear ho0)
            refine hK.out _ _ ⟨(zs BK646.out 0).trans rfl, (zs BK646.out 1).trans rfl, (zs BK646.out 2).trans rfl, (zs BK646.out 3).trans rfl, HS4_, HS5_⟩ (fun hHeld => ?_)
            clear hK K
            refine norm_ (a' := ?_) ?_ ?_
            rotate_left
            ·
             show Act.put _ (some 65) _ = _
             simp only [Act.put, List.setIfInBounds_toArray, List.set_cons_zero, List.set_cons_succ, i64_w, i32_w]
             rfl
            refine pure_ (i := 7) (N := some 58) (v := ?_) (a' := ?_) #[true, true, true, true, true, true, true, true, false, false, false, true, false, false, false] rfl rfl (any_of HT_.out (by kernel_rfl)) (fun _ _ _ h => h) (Or.inl ⟨by rfl, ?_⟩) ?_ ?_
            rotate_left
            ·
             intro w'
             go_simp
             with_reducible rfl
            rotate_left
            ·
             simp only [Act.put, List.setIfInBounds_toArray, List.set_cons_zero, List.set_cons_succ, i64_w, i32_w]
             rfl
            refine pure_ (i := 8) (N := some 66) (v := ?_) (a' := ?_) #[true, true, true, true, true, true, true, true, true, false, false, true, false, false, false] rfl rfl (any_of HT_.out (by kernel_rfl)) (fun _ _ _ h => h) (Or.inl ⟨by rfl, ?_⟩) ?_ ?_
            rotate_left
            ·
             intro w'
             go_simp
             with_reducible rfl
            rotate_left
            ·
             simp only [Act.put, List.setIfInBounds_toArray, List.set_cons_zero, List.set_cons_succ, i64_w, i32_w]
             rfl
            refine pure_ (i := 9) (N := some 67) (v := ?_) (a' := ?_) #[true, true, true, true, true, true, true, true, true, true, false, true, false, false, false] rfl rfl (any_of HT_.out (by kernel_rfl)) (fun _ _ _ h => h) (Or.inl ⟨by rfl, ?_⟩) ?_ ?_
            rotate_left
            ·
             intro w'
             go_simp
             with_reducible rfl
            rotate_left
            ·
             simp only [Act.put, List.setIfInBounds_toArray, List.set_cons_zero, List.set_cons_succ, i64_w, i32_w]
             rfl
            refine pure_ (i := 10) (N := some 68) (v := ?_) (a' := ?_) #[true, true, true, true, true, true, true, true, true, true, true, true, false, false, false] rfl rfl (any_of HT_.out (by kernel_rfl)) (fun _ _ _ h => h) (Or.inl ⟨by rfl, ?_⟩) ?_ ?_
            rotate_left
            ·
             intro w'
             go_simp
             with_reducible rfl
            rotate_left
            ·
             simp only [Act.put, List.setIfInBounds_toArray, List.set_cons_zero, List.set_cons_succ, i64_w, i32_w]
             rfl
            exact norm_ (by simp only [putAll, Act.put, List.setIfInBounds_toArray, List.set_cons_zero, List.set_cons_succ]) (hCont (v652, gb657) _ ⟨hHeld, (by (with_reducible repeat (first | apply zA | apply zB | apply zC)); exact HO653.out), (by (with_reducible repeat (first | apply zo | apply zp | apply zq)); exact HO_4.out), (by (with_reducible repeat (first | apply zo | apply zp | apply zq)); exact HO_624002.out), (by (with_reducible repeat (first | apply zA | apply zB | apply zC)); exact zy HO_647002.out (fun _ hk => ⟨hk.1.1, ⟨hk.1.2.1, ⟨hk.1.2.2.1, ⟨hk.1.2.2.2, hk.2⟩⟩⟩⟩)), (by (with_reducible repeat (first | refine zh ?_ _ | refine zj ?_ | refine zi ?_ _)); exact BK623.out), (by (with_reducible repeat (first | refine zh ?_ _ | refine zj ?_ | refine zi ?_ _)); exact BK646.out), (by (with_reducible repeat (first | refine zh ?_ _ | refine zj ?_ | refine zi ?_ _)); exact BK657.out), GW657.out, GE657.out, NB623_657.out, NB657_623.out, NB646_657.out, NB657_646.out, (by repeat (first | (with_reducible first | exact HB.out | apply ze | apply zd | apply zf | refine zk ?_ GE623.out | refine zk ?_ GE646.out | refine zk ?_ GE657.out) | exact HB.out))⟩)
          rintro ⟨v652, gb657⟩ w60 ⟨hS_, h0_, h1_, h2_, h3_, h4_, h5_, h6_, h7_, h8_, h9_, h10_, h11_, h12_, h13_⟩
          have n0_ : Aside0 (Kd.V (Kd.int .u8) 5 w60 w.heap.size (fun k_ => some k_ ≠ (.slice (some ad648) x4_1.length co55 : Value).ownBlock ∧ some k_ ≠ (.slice Ao43 x624002_1.length co43 : Value).ownBlock ∧ k_ ≠ gb623 ∧ k_ ≠ gb646 ∧ k_ ≠ gb657) v652 t651) := ⟨h0_⟩
          have n1_ : Aside0 (Kd.R k76 76 w60 w.heap.size (fun _ => True) (.slice (some ad648) x4_1.length co55) x4_1) := ⟨h1_⟩
          have n2_ : Aside0 (Kd.R (Kd.int .u8) 5 w60 w.heap.size (fun _ => True) (.slice Ao43 x624002_1.length co43) x624002_1) := ⟨h2_⟩
          have n3_ : Aside0 (Kd.V (Kd.int .u8) 5 w60 w.heap.size (fun k_ => some k_ ≠ (.slice (some ad648) x4_1.length co55 : Value).ownBlock ∧ some k_ ≠ (.slice Ao43 x624002_1.length co43 : Value).ownBlock ∧ k_ ≠ gb623 ∧ k_ ≠ gb646 ∧ k_ ≠ gb657) (.slice Ao56 x647002_3.length co56) x647002_3) := ⟨h3_⟩
          have n4_ : Aside0 (w60.heap[gb623]? = some (.cells #[.int .u64 x624000_1, .int .u32 x624001_1, .slice Ao43 x624002_1.length co43] 26 (0, 0))) := ⟨h4_⟩
          have n5_ : Aside0 (w60.heap[gb646]? = some (.cells #[.int .u64 x647000_3, .int .u32 x647001_3, .slice Ao56 x647002_3.length co56, .int .i64 x647003_3] 43 (0, 0))) := ⟨h5_⟩
          have n6_ : Aside0 (w60.heap[gb657]? = some (.cells #[.int .u64 0, .int .u32 0, .slice none 0 0, .int .i64 0] 43 (0, 0))) := ⟨h6_⟩
          have n7_ : Aside0 (w.heap.size ≤ gb657) := ⟨h7_⟩
          have n8_ : Aside0 (w.heap.size ≤ gb657) := ⟨h8_⟩
          have n9_ : Aside0 (gb623 ≠ gb657) := ⟨h9_⟩
          have n10_ : Aside0 (gb657 ≠ gb623) := ⟨h10_⟩
          have n11_ : Aside0 (gb646 ≠ gb657) := ⟨h11_⟩
          have n12_ : Aside0 (gb657 ≠ gb646) := ⟨h12_⟩
          have n13_ : Aside0 (Below w.heap.size w w60) := ⟨h13_⟩
          clear HO_4
          clear HO_624002
          clear HO_647002
          clear BK623
          clear BK646
          clear HB
          clear h0_ h1_ h2_ h3_ h4_ h5_ h6_ h7_ h8_ h9_ h10_ h11_ h12_ h13_
          have HO653 := n0_
          have HO_4 := n1_
          have HO_624002 := n2_
          have HO_647002 := n3_
          have BK623 := n4_
          have BK646 := n5_
          have BK657 := n6_
          have GW657 := n7_
          have GE657 := n8_
          have NB623_657 := n9_
          have NB657_623 := n10_
          have NB646_657 := n11_
          have NB657_646 := n12_
          have HB := n13_
          clear n0_ n1_ n2_ n3_ n4_ n5_ n6_ n7_ n8_ n9_ n10_ n11_ n12_ n13_
          have hHeld : w60.cell? ⟨gb646, 0, none⟩ = some (.int .u64 x647000_3) ∧ w60.cell? ⟨gb646, 1, none⟩ = some (.int .u32 x647001_3) ∧ w60.cell? ⟨gb646, 2, none⟩ = some (.slice Ao56 x647002_3.length co56) ∧ w60.cell? ⟨gb646, 3, none⟩ = some (.int .i64 x647003_3) ∧ w60.cell? (ad648.add ((x9_3).toNat * 2)) = some (.int .u64 ((rd_T76 x4_1 x9_3).f0)) ∧ w60.cell? ⟨(ad648.add ((x9_3).toNat * 2)).block, (ad648.add ((x9_3).toNat * 2)).off + 1, none⟩ = some (.int .u64 ((rd_T76 x4_1 x9_3).f1)) := hS_
          obtain ⟨Ao63, co63, eo63⟩ := Kd.V_slice HO653.out
          (first | subst eo63 | (injection eo63 with f1_ f2_ f3_; have f4_ := f1_.symm; have f5_ := f3_.symm; clear f1_ f2_ f3_; subst f4_; subst f5_))
          refine norm_ (a' := ?_) ?_ ?_
          rotate_left
          ·
           simp only [putAll, Act.put, List.setIfInBounds_toArray, List.set_cons_zero, List.set_cons_succ]
           rfl
          refine one_ (i := 12) (N := none) #[true, true, true, true, true, true, true, true, true, true, true, true, true, false, false] rfl rfl (one_of HT_.out (by kernel_rfl)) (by decide) (fun K hK => ?_)
          have hs61 : w60.cell? ⟨gb657, 0, none⟩ = some (.int .u64 0) := (zs BK657.out 0).trans rfl
          have hfs61 := zx BK657.out 0
          have hns61_0 := NB623_657.out
          have hns61_1 := NB646_657.out
          have hms61_0 := NB657_623.out
          have hms61_1 := NB657_646.out
          have hs62 : w60.cell? ⟨gb657, 1, none⟩ = some (.int .u32 0) := (zs BK657.out 1).trans rfl
          have hfs62 := zx BK657.out 1
          have hns62_0 := NB623_657.out
          have hns62_1 := NB646_657.out
          have hms62_0 := NB657_623.out
          have hms62_1 := NB657_646.out
          have hs64 : w60.cell? ⟨gb657, 2, none⟩ = some (.slice none 0 0) := (zs BK657.out 2).trans rfl
          have hfs64 := zx BK657.out 2
          have hns64_0 := NB623_657.out
          have hns64_1 := NB646_657.out
          have hms64_0 := NB657_623.out
          have hms64_1 := NB657_646.out
          have hs65 : w60.cell? ⟨gb657, 3, none⟩ = some (.int .i64 0) := (zs BK657.out 3).trans rfl
          have hfs65 := zx BK657.out 3
          have hns65_0 := NB623_657.out
          have hns65_1 := NB646_657.out
          have hms65_0 := NB657_623.out
          have hms65_1 := NB657_646.out
          refine skip_ (w1 := ?_) (by rfl) rfl ?_ ?_
          rotate_left
          ·
           go_simp
           rfl
          refine hK.out _ _ ⟨((zr (p := ⟨gb657, _, none⟩) NB646_657.out _).trans (((zr (p := ⟨gb657, _, none⟩) NB646_657.out _).trans (((zr (p := ⟨gb657, _, none⟩) NB646_657.out _).trans (((zr (p := ⟨gb657, _, none⟩) NB646_657.out _).trans (hHeld.1)))))))), ((zr (p := ⟨gb657, _, none⟩) NB646_657.out _).trans (((zr (p := ⟨gb657, _, none⟩) NB646_657.out _).trans (((zr (p := ⟨gb657, _, none⟩) NB646_657.out _).trans (((zr (p := ⟨gb657, _, none⟩) NB646_657.out _).trans (hHeld.2.1)))))))), ((zr (p := ⟨gb657, _, none⟩) NB646_657.out _).trans (((zr (p := ⟨gb657, _, none⟩) NB646_657.out _).trans (((zr (p := ⟨gb657, _, none⟩) NB646_657.out _).trans (((zr (p := ⟨gb657, _, none⟩) NB646_657.out _).trans (hHeld.2.2.1)))))))), ((zr (p := ⟨gb657, _, none⟩) NB646_657.out _).trans (((zr (p := ⟨gb657, _, none⟩) NB646_657.out _).trans (((zr (p := ⟨gb657, _, none⟩) NB646_657.out _).trans (((zr (p := ⟨gb657, _, none⟩) NB646_657.out _).trans (hHeld.2.2.2.1)))))))), ((zr (p := ⟨gb657, _, none⟩) (by first | exact zt (zu HO_4.out BK657.out (by decide)) | (rw [za]; exact zt (zu HO_4.out BK657.out (by decide))) | (show (Addr.add _ _).block ≠ _; rw [za]; exact zt (zu HO_4.out BK657.out (by decide))) | (dsimp only; exact zt (zu HO_4.out BK657.out (by decide)))) _).trans (((zr (p := ⟨gb657, _, none⟩) (by first | exact zt (zu HO_4.out BK657.out (by decide)) | (rw [za]; exact zt (zu HO_4.out BK657.out (by decide))) | (show (Addr.add _ _).block ≠ _; rw [za]; exact zt (zu HO_4.out BK657.out (by decide))) | (dsimp only; exact zt (zu HO_4.out BK657.out (by decide)))) _).trans (((zr (p := ⟨gb657, _, none⟩) (by first | exact zt (zu HO_4.out BK657.out (by decide)) | (rw [za]; exact zt (zu HO_4.out BK657.out (by decide))) | (show (Addr.add _ _).block ≠ _; rw [za]; exact zt (zu HO_4.out BK657.out (by decide))) | (dsimp only; exact zt (zu HO_4.out BK657.out (by decide)))) _).trans (((zr (p := ⟨gb657, _, none⟩) (by first | exact zt (zu HO_4.out BK657.out (by decide)) | (rw [za]; exact zt (zu HO_4.out BK657.out (by decide))) | (show (Addr.add _ _).block ≠ _; rw [za]; exact zt (zu HO_4.out BK657.out (by decide))) | (dsimp only; exact zt (zu HO_4.out BK657.out (by decide)))) _).trans (hHeld.2.2.2.2.1)))))))), ((zr (p := ⟨gb657, _, none⟩) (by first | exact zt (zu HO_4.out BK657.out (by decide)) | (rw [za]; exact zt (zu HO_4.out BK657.out (by decide))) | (show (Addr.add _ _).block ≠ _; rw [za]; exact zt (zu HO_4.out BK657.out (by decide))) | (dsimp only; exact zt (zu HO_4.out BK657.out (by decide)))) _).trans (((zr (p := ⟨gb657, _, none⟩) (by first | exact zt (zu HO_4.out BK657.out (by decide)) | (rw [za]; exact zt (zu HO_4.out BK657.out (by decide))) | (show (Addr.add _ _).block ≠ _; rw [za]; exact zt (zu HO_4.out BK657.out (by decide))) | (dsimp only; exact zt (zu HO_4.out BK657.out (by decide)))) _).trans (((zr (p := ⟨gb657, _, none⟩) (by first | exact zt (zu HO_4.out BK657.out (by decide)) | (rw [za]; exact zt (zu HO_4.out BK657.out (by decide))) | (show (Addr.add _ _).block ≠ _; rw [za]; exact zt (zu HO_4.out BK657.out (by decide))) | (dsimp only; exact zt (zu HO_4.out BK657.out (by decide)))) _).trans (((zr (p := ⟨gb657, _, none⟩) (by first | exact zt (zu HO_4.out BK657.out (by decide)) | (rw [za]; exact zt (zu HO_4.out BK657.out (by decide))) | (show (Addr.add _ _).block ≠ _; rw [za]; exact zt (zu HO_4.out BK657.out (by decide))) | (dsimp only; exact zt (zu HO_4.out BK657.out (by decide)))) _).trans (hHeld.2.2.2.2.2))))))))⟩ (fun hHeld => ?_)
          clear hK K
          refine pure_ (i := 13) (N := some 11) (v := ?_) (a' := ?_) #[true, true, true, true, true, true, true, true, true, true, true, true, true, true, false] rfl rfl (any_of HT_.out (by kernel_rfl)) (fun _ _ _ h => h) (Or.inl ⟨by rfl, ?_⟩) ?_ ?_
          rotate_left
          ·
           intro w'
           go_simp
           with_reducible rfl
          rotate_left
          ·
           simp only [Act.put, List.setIfInBounds_toArray, List.set_cons_zero, List.set_cons_succ, i64_w, i32_w]
           rfl
          refine pure_ (i := 14) (N := some 12) (v := ?_) (a' := ?_) #[true, true, true, true, true, true, true, true, true, true, true, true, true, true, true] rfl rfl (any_of HT_.out (by kernel_rfl)) (fun _ _ _ h => h) (Or.inl ⟨by rfl, ?_⟩) ?_ ?_
          rotate_left
          ·
           intro w'
           go_simp
           with_reducible rfl
          rotate_left
          ·
           simp only [Act.put, List.setIfInBounds_toArray, List.set_cons_zero, List.set_cons_succ, i64_w, i32_w]
           rfl
          refine done_ (done_of HT_.out (by kernel_rfl)) ?_
          go_upto_region 15 with (fail)
          go_cut [79] (fun v79 wc => ∃ (kq : Nat) (x79_53 : Bool), v79 = .bool x79_53 ∧ Aside0 (psalterylaw05_CoderNumsBack.j3 kq x4_1 x9_3 x79_53 t649 t650 t651 t654 = some r) ∧ Aside0 (kq ≤ k3) ∧ Aside0 (Kd.R k76 76 wc w.heap.size (fun _ => True) (.slice (some ad648) x4_1.length co55) x4_1) ∧ Aside0 (Kd.R (Kd.int .u8) 5 wc w.heap.size (fun _ => True) (.slice Ao43 x624002_1.length co43) x624002_1) ∧ Aside0 (Kd.V (Kd.int .u8) 5 wc w.heap.size (fun k_ => some k_ ≠ ((.slice (some ad648) x4_1.length co55) : Value).ownBlock ∧ some k_ ≠ ((.slice Ao43 x624002_1.length co43) : Value).ownBlock ∧ k_ ≠ gb623 ∧ k_ ≠ gb646 ∧ k_ ≠ gb657) (.slice Ao56 x647002_3.length co56) x647002_3) ∧ Aside0 (Kd.V (Kd.int .u8) 5 wc w.heap.size (fun k_ => some k_ ≠ ((.slice (some ad648) x4_1.length co55) : Value).ownBlock ∧ some k_ ≠ ((.slice Ao43 x624002_1.length co43) : Value).ownBlock ∧ k_ ≠ gb623 ∧ k_ ≠ gb646 ∧ k_ ≠ gb657) (.slice Ao63 t651.length co63) t651) ∧ Aside0 (wc.heap[gb623]? = some (.cells #[.int .u64 x624000_1, .int .u32 x624001_1, (.slice Ao43 x624002_1.length co43)] 26 (0, 0))) ∧ Aside0 (wc.heap[gb646]? = some (.cells #[.int .u64 x647000_3, .int .u32 x647001_3, (.slice Ao56 x647002_3.length co56), .int .i64 x647003_3] 43 (0, 0))) ∧ Aside0 (wc.heap[gb657]? = some (.cells #[.int .u64 t649, .int .u32 t650, (.slice Ao63 t651.length co63), .int .i64 t654] 43 (0, 0))) ∧ Aside0 (Below w.heap.size w wc))
          case first =>
           have H := HC54.out
           clear HC54
           by_cases c66 : t656 = 0
           ·
            rw [if_pos c66] at H
            have c66b0 : (t656 == 0) = true := beq_iff_eq.mpr c66
            have c66b1 : (t656 != 0) = false := bne_eq_false_iff_eq.mpr c66
            clear c66
            (first | rw [c66b0] | (simp only [i64_w, i32_w]; rw [c66b0]) | skip)
            have H' := zm H
            clear H
            have p658 : 0 ≤ (x9_3 : Int) := of_decide_eq_true (by first | (with_reducible assumption) | assumption)
            have q658 : x9_3 < (x4_1.length : Int) := of_decide_eq_true (by first | (with_reducible assumption) | assumption)
            obtain ⟨ad658, e658, hx658_0, hx658_1⟩ := at_T76 (Kd.R_reads' HO_4.out).2.2 x9_3 p658 q658
            obtain rfl : ad648 = ad658 := (by injection e658)
            have hn658_0 : ad648.block ≠ gb657 := zt (zu HO_4.out BK657.out (by decide))
            have hn658_1 : ad648.block ≠ gb657 := zt (zu HO_4.out BK657.out (by decide))
            have hn658_2 : ad648.block ≠ gb657 := zt (zu HO_4.out BK657.out (by decide))
            have hn658_3 : ad648.block ≠ gb657 := zt (zu HO_4.out BK657.out (by decide))
            replace hx658_0 := (zr (p := ⟨gb657, 0, none⟩) (by first | (rw [za]; exact hn658_0) | (show (Addr.add _ _).block ≠ _; rw [za]; exact hn658_0) | exact hn658_0) (.int .u64 t649)).trans hx658_0
            replace hx658_1 := (zr (p := ⟨gb657, 0, none⟩) (by first | (rw [za]; exact hn658_0) | (show (Addr.add _ _).block ≠ _; rw [za]; exact hn658_0) | exact hn658_0) (.int .u64 t649)).trans hx658_1
            replace hx658_0 := (zr (p := ⟨gb657, 1, none⟩) (by first | (rw [za]; exact hn658_1) | (show (Addr.add _ _).block ≠ _; rw [za]; exact hn658_1) | exact hn658_1) (.int .u32 t650)).trans hx658_0
            replace hx658_1 := (zr (p := ⟨gb657, 1, none⟩) (by first | (rw [za]; exact hn658_1) | (show (Addr.add _ _).block ≠ _; rw [za]; exact hn658_1) | exact hn658_1) (.int .u32 t650)).trans hx658_1
            replace hx658_0 := (zr (p := ⟨gb657, 2, none⟩) (by first | (rw [za]; exact hn658_2) | (show (Addr.add _ _).block ≠ _; rw [za]; exact hn658_2) | exact hn658_2) (.slice Ao63 t651.length co63)).trans hx658_0
            replace hx658_1 := (zr (p := ⟨gb657, 2, none⟩) (by first | (rw [za]; exact hn658_2) | (show (Addr.add _ _).block ≠ _; rw [za]; exact hn658_2) | exact hn658_2) (.slice Ao63 t651.length co63)).trans hx658_1
            replace hx658_0 := (zr (p := ⟨gb657, 3, none⟩) (by first | (rw [za]; exact hn658_3) | (show (Addr.add _ _).block ≠ _; rw [za]; exact hn658_3) | exact hn658_3) (.int .i64 t654)).trans hx658_0
            replace hx658_1 := (zr (p := ⟨gb657, 3, none⟩) (by first | (rw [za]; exact hn658_3) | (show (Addr.add _ _).block ≠ _; rw [za]; exact hn658_3) | exact hn658_3) (.int .i64 t654)).trans hx658_1
            clear hn658_0
            clear hn658_1
            clear hn658_2
            clear hn658_3
            replace p658 := eq_true p658
            replace q658 := eq_true q658
            go_wp2
            go_meet
            case rel => exact ⟨_, ((t655 != ((rd_T76 x4_1 x9_3).f0))), (by first | rfl | (simp; done) | (simp [*]; done)), H', ⟨by have := HK1.out; have := HJ6.out; have := HK3.out; first | omega | exact Nat.le_refl _⟩, ⟨by (with_reducible repeat (first | apply zo | apply zp | apply zq)); exact zG (zH (p := ⟨gb657, 3, none⟩) (zH (p := ⟨gb657, 2, none⟩) (zH (p := ⟨gb657, 1, none⟩) (zH (p := ⟨gb657, 0, none⟩) (Kd.R_types HO_4.out BK657.out (by decide)) (fun _ hk => hk.2) (.int .u64 t649)) (fun _ hk => hk.2) (.int .u32 t650)) (fun _ hk => hk.2) (.slice Ao63 t651.length co63)) (fun _ hk => hk.2) (.int .i64 t654)) (fun _ hk => trivial)⟩, ⟨by (with_reducible repeat (first | apply zo | apply zp | apply zq)); exact zG (zH (p := ⟨gb657, 3, none⟩) (zH (p := ⟨gb657, 2, none⟩) (zH (p := ⟨gb657, 1, none⟩) (zH (p := ⟨gb657, 0, none⟩) (Kd.R_types HO_624002.out BK657.out (by decide)) (fun _ hk => hk.2) (.int .u64 t649)) (fun _ hk => hk.2) (.int .u32 t650)) (fun _ hk => hk.2) (.slice Ao63 t651.length co63)) (fun _ hk => hk.2) (.int .i64 t654)) (fun _ hk => trivial)⟩, ⟨by (with_reducible repeat (first | apply zA | apply zB | apply zC)); exact zy (zI (p := ⟨gb657, 3, none⟩) (zI (p := ⟨gb657, 2, none⟩) (zI (p := ⟨gb657, 1, none⟩) (zI (p := ⟨gb657, 0, none⟩) (zy HO_647002.out (fun k_ hk => (⟨hk, hk.2.2.2.2⟩ : _ ∧ k_ ≠ gb657))) (fun _ hk => hk.2) (.int .u64 t649)) (fun _ hk => hk.2) (.int .u32 t650)) (fun _ hk => hk.2) (.slice Ao63 t651.length co63)) (fun _ hk => hk.2) (.int .i64 t654)) (fun _ hk => ⟨hk.1.1, ⟨hk.1.2.1, ⟨hk.1.2.2.1, ⟨hk.1.2.2.2.1, hk.1.2.2.2.2⟩⟩⟩⟩)⟩, ⟨by (with_reducible repeat (first | apply zA | apply zB | apply zC)); exact zy (zI (p := ⟨gb657, 3, none⟩) (zI (p := ⟨gb657, 2, none⟩) (zI (p := ⟨gb657, 1, none⟩) (zI (p := ⟨gb657, 0, none⟩) (zy HO653.out (fun k_ hk => (⟨hk, hk.2.2.2.2⟩ : _ ∧ k_ ≠ gb657))) (fun _ hk => hk.2) (.int .u64 t649)) (fun _ hk => hk.2) (.int .u32 t650)) (fun _ hk => hk.2) (.slice Ao63 t651.length co63)) (fun _ hk => hk.2) (.int .i64 t654)) (fun _ hk => ⟨hk.1.1, ⟨hk.1.2.1, ⟨hk.1.2.2.1, ⟨hk.1.2.2.2.1, hk.1.2.2.2.2⟩⟩⟩⟩)⟩, ⟨by (with_reducible repeat (first | refine zh ?_ _ | refine zj ?_ | refine zi ?_ _)); refine zv ?_ NB623_657.out _; (with_reducible repeat (first | refine zh ?_ _ | refine zj ?_ | refine zi ?_ _)); refine zv ?_ NB623_657.out _; (with_reducible repeat (first | refine zh ?_ _ | refine zj ?_ | refine zi ?_ _)); refine zv ?_ NB623_657.out _; (with_reducible repeat (first | refine zh ?_ _ | refine zj ?_ | refine zi ?_ _)); refine zv ?_ NB623_657.out _; (with_reducible repeat (first | refine zh ?_ _ | refine zj ?_ | refine zi ?_ _)); exact BK623.out⟩, ⟨by (with_reducible repeat (first | refine zh ?_ _ | refine zj ?_ | refine zi ?_ _)); refine zv ?_ NB646_657.out _; (with_reducible repeat (first | refine zh ?_ _ | refine zj ?_ | refine zi ?_ _)); refine zv ?_ NB646_657.out _; (with_reducible repeat (first | refine zh ?_ _ | refine zj ?_ | refine zi ?_ _)); refine zv ?_ NB646_657.out _; (with_reducible repeat (first | refine zh ?_ _ | refine zj ?_ | refine zi ?_ _)); refine zv ?_ NB646_657.out _; (with_reducible repeat (first | refine zh ?_ _ | refine zj ?_ | refine zi ?_ _)); exact BK646.out⟩, ⟨by (with_reducible repeat (first | refine zh ?_ _ | refine zj ?_ | refine zi ?_ _)); refine zw (cs := #[.int .u64 t649, .int .u32 t650, .slice Ao63 t651.length co63, .int .i64 0]) ?_ 3 _ rfl; (with_reducible repeat (first | refine zh ?_ _ | refine zj ?_ | refine zi ?_ _)); refine zw (cs := #[.int .u64 t649, .int .u32 t650, .slice none 0 0, .int .i64 0]) ?_ 2 _ rfl; (with_reducible repeat (first | refine zh ?_ _ | refine zj ?_ | refine zi ?_ _)); refine zw (cs := #[.int .u64 t649, .int .u32 0, .slice none 0 0, .int .i64 0]) ?_ 1 _ rfl; (with_reducible repeat (first | refine zh ?_ _ | refine zj ?_ | refine zi ?_ _)); refine zw (cs := #[.int .u64 0, .int .u32 0, .slice none 0 0, .int .i64 0]) ?_ 0 _ rfl; (with_reducible repeat (first | refine zh ?_ _ | refine zj ?_ | refine zi ?_ _)); exact BK657.out⟩, ⟨by repeat (first | (with_reducible first | exact HB.out | apply ze | apply zd | apply zf | refine zk ?_ GE623.out | refine zk ?_ GE646.out | refine zk ?_ GE657.out) | exact HB.out)⟩⟩
           ·
            rw [if_neg c66] at H
            have c66b0 : (t656 == 0) = false := beq_eq_false_iff_ne.mpr c66
            have c66b1 : (t656 != 0) = true := bne_iff_ne.mpr c66
            (first | rw [c66b0] | (simp only [i64_w, i32_w]; rw [c66b0]) | skip)
            have H' := zm H
            clear H
            go_wp2
            go_meet
            case rel => exact ⟨_, (true), (by first | rfl | (simp; done) | (simp [*]; done)), H', ⟨by have := HK1.out; have := HJ6.out; have := HK3.out; first | omega | exact Nat.le_refl _⟩, ⟨by (with_reducible repeat (first | apply zo | apply zp | apply zq)); exact zG (zH (p := ⟨gb657, 3, none⟩) (zH (p := ⟨gb657, 2, none⟩) (zH (p := ⟨gb657, 1, none⟩) (zH (p := ⟨gb657, 0, none⟩) (Kd.R_types HO_4.out BK657.out (by decide)) (fun _ hk => hk.2) (.int .u64 t649)) (fun _ hk => hk.2) (.int .u32 t650)) (fun _ hk => hk.2) (.slice Ao63 t651.length co63)) (fun _ hk => hk.2) (.int .i64 t654)) (fun _ hk => trivial)⟩, ⟨by (with_reducible repeat (first | apply zo | apply zp | apply zq)); exact zG (zH (p := ⟨gb657, 3, none⟩) (zH (p := ⟨gb657, 2, none⟩) (zH (p := ⟨gb657, 1, none⟩) (zH (p := ⟨gb657, 0, none⟩) (Kd.R_types HO_624002.out BK657.out (by decide)) (fun _ hk => hk.2) (.int .u64 t649)) (fun _ hk => hk.2) (.int .u32 t650)) (fun _ hk => hk.2) (.slice Ao63 t651.length co63)) (fun _ hk => hk.2) (.int .i64 t654)) (fun _ hk => trivial)⟩, ⟨by (with_reducible repeat (first | apply zA | apply zB | apply zC)); exact zy (zI (p := ⟨gb657, 3, none⟩) (zI (p := ⟨gb657, 2, none⟩) (zI (p := ⟨gb657, 1, none⟩) (zI (p := ⟨gb657, 0, none⟩) (zy HO_647002.out (fun k_ hk => (⟨hk, hk.2.2.2.2⟩ : _ ∧ k_ ≠ gb657))) (fun _ hk => hk.2) (.int .u64 t649)) (fun _ hk => hk.2) (.int .u32 t650)) (fun _ hk => hk.2) (.slice Ao63 t651.length co63)) (fun _ hk => hk.2) (.int .i64 t654)) (fun _ hk => ⟨hk.1.1, ⟨hk.1.2.1, ⟨hk.1.2.2.1, ⟨hk.1.2.2.2.1, hk.1.2.2.2.2⟩⟩⟩⟩)⟩, ⟨by (with_reducible repeat (first | apply zA | apply zB | apply zC)); exact zy (zI (p := ⟨gb657, 3, none⟩) (zI (p := ⟨gb657, 2, none⟩) (zI (p := ⟨gb657, 1, none⟩) (zI (p := ⟨gb657, 0, none⟩) (zy HO653.out (fun k_ hk => (⟨hk, hk.2.2.2.2⟩ : _ ∧ k_ ≠ gb657))) (fun _ hk => hk.2) (.int .u64 t649)) (fun _ hk => hk.2) (.int .u32 t650)) (fun _ hk => hk.2) (.slice Ao63 t651.length co63)) (fun _ hk => hk.2) (.int .i64 t654)) (fun _ hk => ⟨hk.1.1, ⟨hk.1.2.1, ⟨hk.1.2.2.1, ⟨hk.1.2.2.2.1, hk.1.2.2.2.2⟩⟩⟩⟩)⟩, ⟨by (with_reducible repeat (first | refine zh ?_ _ | refine zj ?_ | refine zi ?_ _)); refine zv ?_ NB623_657.out _; (with_reducible repeat (first | refine zh ?_ _ | refine zj ?_ | refine zi ?_ _)); refine zv ?_ NB623_657.out _; (with_reducible repeat (first | refine zh ?_ _ | refine zj ?_ | refine zi ?_ _)); refine zv ?_ NB623_657.out _; (with_reducible repeat (first | refine zh ?_ _ | refine zj ?_ | refine zi ?_ _)); refine zv ?_ NB623_657.out _; (with_reducible repeat (first | refine zh ?_ _ | refine zj ?_ | refine zi ?_ _)); exact BK623.out⟩, ⟨by (with_reducible repeat (first | refine zh ?_ _ | refine zj ?_ | refine zi ?_ _)); refine zv ?_ NB646_657.out _; (with_reducible repeat (first | refine zh ?_ _ | refine zj ?_ | refine zi ?_ _)); refine zv ?_ NB646_657.out _; (with_reducible repeat (first | refine zh ?_ _ | refine zj ?_ | refine zi ?_ _)); refine zv ?_ NB646_657.out _; (with_reducible repeat (first | refine zh ?_ _ | refine zj ?_ | refine zi ?_ _)); refine zv ?_ NB646_657.out _; (with_reducible repeat (first | refine zh ?_ _ | refine zj ?_ | refine zi ?_ _)); exact BK646.out⟩, ⟨by (with_reducible repeat (first | refine zh ?_ _ | refine zj ?_ | refine zi ?_ _)); refine zw (cs := #[.int .u64 t649, .int .u32 t650, .slice Ao63 t651.length co63, .int .i64 0]) ?_ 3 _ rfl; (with_reducible repeat (first | refine zh ?_ _ | refine zj ?_ | refine zi ?_ _)); refine zw (cs := #[.int .u64 t649, .int .u32 t650, .slice none 0 0, .int .i64 0]) ?_ 2 _ rfl; (with_reducible repeat (first | refine zh ?_ _ | refine zj ?_ | refine zi ?_ _)); refine zw (cs := #[.int .u64 t649, .int .u32 0, .slice none 0 0, .int .i64 0]) ?_ 1 _ rfl; (with_reducible repeat (first | refine zh ?_ _ | refine zj ?_ | refine zi ?_ _)); refine zw (cs := #[.int .u64 0, .int .u32 0, .slice none 0 0, .int .i64 0]) ?_ 0 _ rfl; (with_reducible repeat (first | refine zh ?_ _ | refine zj ?_ | refine zi ?_ _)); exact BK657.out⟩, ⟨by repeat (first | (with_reducible first | exact HB.out | apply ze | apply zd | apply zf | refine zk ?_ GE623.out | refine zk ?_ GE646.out | refine zk ?_ GE657.out) | exact HB.out)⟩⟩
          case rest =>
           clear HC54
           try clear c1
           try clear c2
           try clear p2
           try clear c3
           try clear c4
           try clear c5
           try clear c6
           try clear p6
           try clear q6
           try clear hx6
           try clear c9
           try clear c10
           try clear c11
           try clear c13
           try clear c13b0
           try clear c13b1
           try clear c14
           try clear c24
           try clear c25
           try clear c26
           try clear c37
           try clear c39
           try clear c48
           try clear c51
           try clear c51b0
           try clear c52
           try clear c52b0
           try clear p62
           try clear q62
           try clear hx62
           try clear p63
           try clear q63
           try clear hx63
           try clear p64
           try clear q64
           try clear hx64
           try clear p65
           try clear q65
           try clear hx65
           try clear c66
           try clear c66b0
           try clear c66b1
           try clear hcz26_0
           try clear hcz26_1
           try clear hcz26_2
           try clear hcz27_0
           try clear hcz27_1
           try clear hcz27_2
           try clear hcz38_0
           try clear hcz38_1
           try clear hcz38_2
           try clear hcz39_0
           try clear hcz39_1
           try clear hcz39_2
           try clear hcz42_0
           try clear hcz42_1
           try clear hcz42_2
           try clear hcz49_0
           try clear hcz49_1
           try clear hcz49_2
           try clear hcz49_3
           try clear hfz26_0
           try clear hfz26_1
           try clear hfz26_2
           try clear hfz27_0
           try clear hfz27_1
           try clear hfz27_2
           try clear hfz38_0
           try clear hfz38_1
           try clear hfz38_2
           try clear hfz39_0
           try clear hfz39_1
           try clear hfz39_2
           try clear hfz42_0
           try clear hfz42_1
           try clear hfz42_2
           try clear hfz49_0
           try clear hfz49_1
           try clear hfz49_2
           try clear hfz49_3
           try clear hx624_0
           try clear hx624_1
           try clear hx625_0
           try clear hx625_1
           try clear hx633_0
           try clear hx633_1
           try clear hx648_0
           try clear hx648_1
           try clear hx658_0
           try clear hx658_1
           try clear p2
           try clear p6
           try clear p624
           try clear p625
           try clear p633
           try clear p648
           try clear p658
           try clear q6
           try clear q624
           try clear q625
           try clear q633
           try clear q648
           try clear q658
           obtain ⟨kq, x79_53, rfl, HA, HJ53, HO_4, HO_624002, HO_647002, HO_658002, BK623, BK646, BK657, HB⟩ := hcut
           cases kq with
           | zero => exact absurd HA.out (by simp [psalterylaw05_CoderNumsBack.j3])
           | succ kj53 =>
            have H := HA.out
            clear HA
            simp only [psalterylaw05_CoderNumsBack.j3] at H
            by_cases c67 : x79_53 = true
            ·
             subst c67
             have H1 : (none) = some r := by rw [if_pos rfl] at H; exact H
             clear H
             have H := H1
             clear H1
             exact absurd H (by simp)
            ·
             replace c67 := Bool.eq_false_iff.mpr c67
             subst c67
             have H1 : (psalterylaw05_CoderNumsBack.l1 kj53 x4_1 (wrap64 (x9_3 + 1)) t649 t650 t651 t654) = some r := by rw [if_neg (show ¬ (false = true) by decide)] at H; exact H
             clear H
             have H := H1
             clear H1
             have H' := zm H
             clear H
             have hnb68 := NB657_623.out
             have hnc68 := NB623_657.out
             have hnb69 := NB657_646.out
             have hnc69 := NB646_657.out
             have hcz70_0 : wc.cell? ⟨gb657, 0, none⟩ = some (.int .u64 t649) := (zs BK657.out 0).trans rfl
             have hcz70_1 : wc.cell? ⟨gb657, 1, none⟩ = some (.int .u32 t650) := (zs BK657.out 1).trans rfl
             have hcz70_2 : wc.cell? ⟨gb657, 2, none⟩ = some (.slice Ao63 t651.length co63) := (zs BK657.out 2).trans rfl
             have hcz70_3 : wc.cell? ⟨gb657, 3, none⟩ = some (.int .i64 t654) := (zs BK657.out 3).trans rfl
             have hfz70_0 := zx BK657.out 0
             have hfz70_1 := zx BK657.out 1
             have hfz70_2 := zx BK657.out 2
             have hfz70_3 := zx BK657.out 3
             have hnb71 := NB646_623.out
             have hnc71 := NB623_646.out
             have hcz72_0 : wc.cell? ⟨gb646, 0, none⟩ = some (.int .u64 x647000_3) := (zs BK646.out 0).trans rfl
             have hcz72_1 : wc.cell? ⟨gb646, 1, none⟩ = some (.int .u32 x647001_3) := (zs BK646.out 1).trans rfl
             have hcz72_2 : wc.cell? ⟨gb646, 2, none⟩ = some (.slice Ao56 x647002_3.length co56) := (zs BK646.out 2).trans rfl
             have hcz72_3 : wc.cell? ⟨gb646, 3, none⟩ = some (.int .i64 x647003_3) := (zs BK646.out 3).trans rfl
             have hfz72_0 := zx BK646.out 0
             have hfz72_1 := zx BK646.out 1
             have hfz72_2 := zx BK646.out 2
             have hfz72_3 := zx BK646.out 3
             go_wp2
             go_roundg kj53
             case measure => have := HK1.out; have := HJ6.out; have := HK3.out; have := HJ53.out; omega
             case rel => exact ⟨(wrap64 (x9_3 + 1)), (t649), (t650), (t651), (t654), (.slice Ao63 t651.length co63), (by first | rfl | (simp; done) | (simp [*]; done)), H', ⟨by have := HK1.out; have := HJ6.out; have := HK3.out; have := HJ53.out; omega⟩, ⟨by (with_reducible repeat (first | apply zo | apply zp | apply zq)); exact zG (zH (p := ⟨gb646, 3, none⟩) (zH (p := ⟨gb646, 2, none⟩) (zH (p := ⟨gb646, 1, none⟩) (zH (p := ⟨gb646, 0, none⟩) (Kd.R_types HO_4.out BK646.out (by decide)) (fun _ hk => hk.2) (.int .u64 t649)) (fun _ hk => hk.2) (.int .u32 t650)) (fun _ hk => hk.2) (.slice Ao63 t651.length co63)) (fun _ hk => hk.2) (.int .i64 t654)) (fun _ hk => trivial)⟩, ⟨by (with_reducible repeat (first | apply zo | apply zp | apply zq)); exact zG (zH (p := ⟨gb646, 3, none⟩) (zH (p := ⟨gb646, 2, none⟩) (zH (p := ⟨gb646, 1, none⟩) (zH (p := ⟨gb646, 0, none⟩) (Kd.R_types HO_624002.out BK646.out (by decide)) (fun _ hk => hk.2) (.int .u64 t649)) (fun _ hk => hk.2) (.int .u32 t650)) (fun _ hk => hk.2) (.slice Ao63 t651.length co63)) (fun _ hk => hk.2) (.int .i64 t654)) (fun _ hk => trivial)⟩, ⟨by (with_reducible repeat (first | apply zA | apply zB | apply zC)); exact zy (zI (p := ⟨gb646, 3, none⟩) (zI (p := ⟨gb646, 2, none⟩) (zI (p := ⟨gb646, 1, none⟩) (zI (p := ⟨gb646, 0, none⟩) (zy HO_658002.out (fun k_ hk => (⟨hk, hk.2.2.2.1⟩ : _ ∧ k_ ≠ gb646))) (fun _ hk => hk.2) (.int .u64 t649)) (fun _ hk => hk.2) (.int .u32 t650)) (fun _ hk => hk.2) (.slice Ao63 t651.length co63)) (fun _ hk => hk.2) (.int .i64 t654)) (fun _ hk => ⟨hk.1.1, ⟨hk.1.2.1, ⟨hk.1.2.2.1, hk.1.2.2.2.1⟩⟩⟩)⟩, ⟨by (with_reducible repeat (first | refine zh ?_ _ | refine zj ?_ | refine zi ?_ _)); refine zv ?_ NB623_646.out _; (with_reducible repeat (first | refine zh ?_ _ | refine zj ?_ | refine zi ?_ _)); refine zv ?_ NB623_646.out _; (with_reducible repeat (first | refine zh ?_ _ | refine zj ?_ | refine zi ?_ _)); refine zv ?_ NB623_646.out _; (with_reducible repeat (first | refine zh ?_ _ | refine zj ?_ | refine zi ?_ _)); refine zv ?_ NB623_646.out _; (with_reducible repeat (first | refine zh ?_ _ | refine zj ?_ | refine zi ?_ _)); exact BK623.out⟩, ⟨by (with_reducible repeat (first | refine zh ?_ _ | refine zj ?_ | refine zi ?_ _)); refine zw (cs := #[.int .u64 t649, .int .u32 t650, .slice Ao63 t651.length co63, .int .i64 x647003_3]) ?_ 3 _ rfl; (with_reducible repeat (first | refine zh ?_ _ | refine zj ?_ | refine zi ?_ _)); refine zw (cs := #[.int .u64 t649, .int .u32 t650, .slice Ao56 x647002_3.length co56, .int .i64 x647003_3]) ?_ 2 _ rfl; (with_reducible repeat (first | refine zh ?_ _ | refine zj ?_ | refine zi ?_ _)); refine zw (cs := #[.int .u64 t649, .int .u32 x647001_3, .slice Ao56 x647002_3.length co56, .int .i64 x647003_3]) ?_ 1 _ rfl; (with_reducible repeat (first | refine zh ?_ _ | refine zj ?_ | refine zi ?_ _)); refine zw (cs := #[.int .u64 x647000_3, .int .u32 x647001_3, .slice Ao56 x647002_3.length co56, .int .i64 x647003_3]) ?_ 0 _ rfl; (with_reducible repeat (first | refine zh ?_ _ | refine zj ?_ | refine zi ?_ _)); exact BK646.out⟩, ⟨by repeat (first | (with_reducible first | exact HB.out | apply ze | apply zd | apply zf | refine zk ?_ GE623.out | refine zk ?_ GE646.out | refine zk ?_ GE657.out) | exact HB.out)⟩⟩
         ·
          rw [if_neg c52] at H
          exact absurd H (by simp)
        ·
         rw [if_neg c51] at H
         have c51b0 : decide (x9_3 < (x4_1.length : Int)) = false := decide_eq_false c51
         clear c51
         replace H := Option.bind_eq_some_iff.mp H
         obtain ⟨t647, A730, H⟩ := H
         replace H : (some t647) = some r := H
         have A73 := zm A730
         clear A730
         obtain rfl := Option.some.inj H
         obtain ⟨Ao74, co74, eo74⟩ := Kd.R_slice HO_4.out
         subst eo74
         go_wp2_with (first | ((with_reducible refine gate_callee (f := 17) rfl ?_); refine goesL_ (some 81) rfl rfl Try.func17 (by kernel_rfl) rfl #[] rfl (by (try simp only [List.map_toArray, List.map_cons, List.map_nil]); first | done | rfl | (simp only [List.length_drop, List.length_take]; rfl)) ?_; (with_reducible refine (psalterylaw05_knows.calls k3  t647 _ A73.out).mono ?_); rintro e w75 ⟨rfl, hb⟩; refine ⟨_, rfl, ?_⟩; have n0_ := zm (Kd.R_below (by (with_reducible repeat (first | apply zo | apply zp | apply zq)); exact HO_4.out) hb); have n1_ := zm (Kd.R_below (by (with_reducible repeat (first | apply zo | apply zp | apply zq)); exact HO_624002.out) hb); have n2_ := zm (Kd.V_below (by (with_reducible repeat (first | apply zA | apply zB | apply zC)); exact HO_647002.out) hb); have n3_ := zm (zF (g := gb623) (o := .cells #[.int .u64 x624000_1, .int .u32 x624001_1, .slice Ao43 x624002_1.length co43] 26 (0, 0)) (by (with_reducible repeat (first | refine zh ?_ _ | refine zj ?_ | refine zi ?_ _)); exact BK623.out) hb); have n4_ := zm (zF (g := gb646) (o := .cells #[.int .u64 x647000_3, .int .u32 x647001_3, u647002, .int .i64 x647003_3] 43 (0, 0)) (by (with_reducible repeat (first | refine zh ?_ _ | refine zj ?_ | refine zi ?_ _)); exact BK646.out) hb); have n5_ := zm (zJ (by repeat (first | (with_reducible first | exact HB.out | apply ze | apply zd | apply zf | refine zk ?_ GE623.out | refine zk ?_ GE646.out) | exact HB.out)) hb); clear HO_4; clear HO_624002; clear HO_647002; clear BK623; clear BK646; clear HB; have HO_4 := n0_; have HO_624002 := n1_; have HO_647002 := n2_; have BK623 := n3_; have BK646 := n4_; have HB := n5_; clear n0_ n1_ n2_ n3_ n4_ n5_; (try clear hb); (try clear hb2); (try clear hk); (try clear hi)))
         go_ret
         exact ⟨by first | rfl | (simp [errW_none, errW_some] <;> rfl) | (simp [*, errW_none, errW_some] <;> rfl), by repeat (first | (with_reducible first | exact HB.out | apply ze | apply zd | apply zf | refine zk ?_ GE623.out | refine zk ?_ GE646.out) | exact HB.out)⟩

end Go.Proofs.Ytkaoiblgfpphoaa.Prt
