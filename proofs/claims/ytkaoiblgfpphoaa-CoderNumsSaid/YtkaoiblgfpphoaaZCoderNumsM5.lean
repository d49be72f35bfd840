-- Functions of the program and of the document as plain Lean, each with the proof that the code comes to it. Written by a program of this session (wip/tools/myprint.py, pack.py) over the kit's printer; Lean checks it.
import Derived.Test.YtkaoiblgfpphoaaZCoderNumsPrt0
import Derived.Test.YtkaoiblgfpphoaaZCoderNumsM1
import Derived.Test.YtkaoiblgfpphoaaZCoderNumsM2
import Derived.Test.YtkaoiblgfpphoaaZCoderNumsM3
import Derived.Test.YtkaoiblgfpphoaaZCoderNumsM4
namespace Go.Proofs.Ytkaoiblgfpphoaa.Prt
open Go.RowKit Go.Proofs.YtkaoiblgfpphoaaW.PrintWords Go.Proofs.YtkaoiblgfpphoaaW.PrintLast Go.Proofs.YtkaoiblgfpphoaaW.PrintMore
attribute [local go_sem] max2_int min2_int max_two min_two max_three min_three max_four min_four   -- for this text's walks alone
set_option linter.unusedVariables false
set_option linter.unusedSimpArgs false

/-! ### psalterylaw05_CoderNums: function 9 -/
mutual
def psalterylaw05_CoderNums.j0 : Nat → Int → Int → Bool → Int → Int → List Int → Int → Int → List Int → Int → Option (Bool)
 | 0, _, _, _, _, _, _, _, _, _, _ => none
 | k + 1, x2, x3, x27, x565000, x565001, x565002, x566000, x566001, x566002, x566003 => if x27 = true then ((psalterylaw05_knows.f k).bind fun t566 => (some t566)) else ((coder_PutNum.f k x565000 x565001 x565002 x2 x3).bind fun bt567 => ((psalterylaw05_AsEnc.f k x565000 x565001 x565002).bind fun bt574 => ((psalteryref05_PutNum.f k bt574.1 bt574.2 x2 x3).bind fun bt578 => (if bt567.2.2.2 = bt578.2.2 then ((psalterylaw05_SameEnc.f k bt567.1 bt567.2.1 bt567.2.2.1 bt578.1 bt578.2.1).bind fun t584 => (psalterylaw05_CoderNums.j1 k x3 (!t584) x566000 x566001 x566002 x566003)) else (psalterylaw05_CoderNums.j1 k x3 true x566000 x566001 x566002 x566003)))))
def psalterylaw05_CoderNums.j1 : Nat → Int → Bool → Int → Int → List Int → Int → Option (Bool)
 | 0, _, _, _, _, _, _ => none
 | k + 1, x3, x52, x566000, x566001, x566002, x566003 => if x52 = true then (none) else ((coder_TakeNum.f k x566000 x566001 x566002 x566003 x3).bind fun bt585 => (if x3 = 0 then (psalterylaw05_CoderNums.j2 k x3 bt585.2.2.2.2.1 bt585.2.2.2.2.2 true x566000 x566001 x566002 x566003 bt585.1 bt585.2.1 bt585.2.2.1 bt585.2.2.2.1) else (psalterylaw05_CoderNums.j2 k x3 bt585.2.2.2.2.1 bt585.2.2.2.2.2 (decide (x3 > 4294967296)) x566000 x566001 x566002 x566003 bt585.1 bt585.2.1 bt585.2.2.1 bt585.2.2.2.1)))
def psalterylaw05_CoderNums.j2 : Nat → Int → Int → Int → Bool → Int → Int → List Int → Int → Int → Int → List Int → Int → Option (Bool)
 | 0, _, _, _, _, _, _, _, _, _, _, _, _ => none
 | k + 1, x3, x14, x15, x65, x566000, x566001, x566002, x566003, x594000, x594001, x594002, x594003 => if x65 = true then (if x14 = 0 then (if x15 = 1 then ((psalterylaw05_AsDec.f k x566000 x566001 x566002 x566003).bind fun bt594 => ((psalterylaw05_SameDec.f x594000 x594001 x594002 x594003 bt594.1 bt594.2.1 bt594.2.2.1 bt594.2.2.2).bind fun t600 => (if t600 = true then ((psalterylaw05_knows.f k).bind fun t601 => (some t601)) else (none)))) else (none)) else (none)) else ((psalterylaw05_AsDec.f k x566000 x566001 x566002 x566003).bind fun bt602 => ((psalteryref05_TakeNum.f k bt602.1 bt602.2.1 bt602.2.2.1 bt602.2.2.2 x3).bind fun bt608 => (if x14 = bt608.2.2.2.2 then (if x15 = 0 then ((psalterylaw05_SameDec.f x594000 x594001 x594002 x594003 bt608.1 bt608.2.1 bt608.2.2.1 bt608.2.2.2.1).bind fun t616 => (if t616 = true then ((psalterylaw05_knows.f k).bind fun t617 => (some t617)) else (none))) else (none)) else (none))))
end
def psalterylaw05_CoderNums.f (k : Nat) (a0_0 : Int) (a0_1 : Int) (l0_2 : List Int) (a1_0 : Int) (a1_1 : Int) (l1_2 : List Int) (a1_3 : Int) (a2 : Int) (a3 : Int) : Option (Bool) := if (l0_2.length : Int) > 5000 then (psalterylaw05_CoderNums.j0 k a2 a3 true a0_0 a0_1 l0_2 a1_0 a1_1 l1_2 a1_3) else (psalterylaw05_CoderNums.j0 k a2 a3 (decide ((l1_2.length : Int) > 5000)) a0_0 a0_1 l0_2 a1_0 a1_1 l1_2 a1_3)
theorem psalterylaw05_CoderNums.mono_l : ∀ k, (∀ y0 y1 y2 y3 y4 y5 y6 y7 y8 y9, LeO (psalterylaw05_CoderNums.j0 k y0 y1 y2 y3 y4 y5 y6 y7 y8 y9) (psalterylaw05_CoderNums.j0 (k + 1) y0 y1 y2 y3 y4 y5 y6 y7 y8 y9)) ∧ (∀ y0 y1 y2 y3 y4 y5, LeO (psalterylaw05_CoderNums.j1 k y0 y1 y2 y3 y4 y5) (psalterylaw05_CoderNums.j1 (k + 1) y0 y1 y2 y3 y4 y5)) ∧ (∀ y0 y1 y2 y3 y4 y5 y6 y7 y8 y9 y10 y11, LeO (psalterylaw05_CoderNums.j2 k y0 y1 y2 y3 y4 y5 y6 y7 y8 y9 y10 y11) (psalterylaw05_CoderNums.j2 (k + 1) y0 y1 y2 y3 y4 y5 y6 y7 y8 y9 y10 y11))
 | 0 => ⟨fun _ _ _ _ _ _ _ _ _ _ r h => by simp [psalterylaw05_CoderNums.j0] at h, fun _ _ _ _ _ _ r h => by simp [psalterylaw05_CoderNums.j1] at h, fun _ _ _ _ _ _ _ _ _ _ _ _ r h => by simp [psalterylaw05_CoderNums.j2] at h⟩
 | k + 1 => by
  obtain ⟨ih0, ih1, ih2⟩ := psalterylaw05_CoderNums.mono_l k
  refine ⟨?_, ?_, ?_⟩
  ·
   intro y0 y1 y2 y3 y4 y5 y6 y7 y8 y9
   unfold psalterylaw05_CoderNums.j0
   repeat' first
   | (with_reducible exact ih0 _ _ _ _ _ _ _ _ _ _)
   | (with_reducible exact ih1 _ _ _ _ _ _)
   | (with_reducible exact ih2 _ _ _ _ _ _ _ _ _ _ _ _)
   | (with_reducible exact coder_PutNum.mono _ _ _ _ _ _)
   | (with_reducible exact coder_TakeNum.mono _ _ _ _ _ _)
   | (with_reducible exact psalterylaw05_AsDec.mono _ _ _ _ _)
   | (with_reducible exact psalterylaw05_AsEnc.mono _ _ _ _)
   | (with_reducible exact psalterylaw05_SameEnc.mono _ _ _ _ _ _)
   | (with_reducible exact psalterylaw05_knows.mono _)
   | (with_reducible exact psalteryref05_PutNum.mono _ _ _ _ _)
   | (with_reducible exact psalteryref05_TakeNum.mono _ _ _ _ _ _)
   | (with_reducible exact LeO.refl _)
   | (with_reducible exact LeO.none _)
   | (with_reducible refine LeO.ite ?_ ?_)
   | (with_reducible refine LeO.bind ?_ (fun _ => ?_))
   | exact ih0 _ _ _ _ _ _ _ _ _ _
   | exact ih1 _ _ _ _ _ _
   | exact ih2 _ _ _ _ _ _ _ _ _ _ _ _
   | exact coder_PutNum.mono _ _ _ _ _ _
   | exact coder_TakeNum.mono _ _ _ _ _ _
   | exact psalterylaw05_AsDec.mono _ _ _ _ _
   | exact psalterylaw05_AsEnc.mono _ _ _ _
   | exact psalterylaw05_SameEnc.mono _ _ _ _ _ _
   | exact psalterylaw05_knows.mono _
   | exact psalteryref05_PutNum.mono _ _ _ _ _
   | exact psalteryref05_TakeNum.mono _ _ _ _ _ _
   | exact LeO.none _
   | refine LeO.ite ?_ ?_
   | refine LeO.bind ?_ (fun _ => ?_)
  ·
   intro y0 y1 y2 y3 y4 y5
   unfold psalterylaw05_CoderNums.j1
   repeat' first
   | (with_reducible exact ih0 _ _ _ _ _ _ _ _ _ _)
   | (with_reducible exact ih1 _ _ _ _ _ _)
   | (with_reducible exact ih2 _ _ _ _ _ _ _ _ _ _ _ _)
   | (with_reducible exact coder_PutNum.mono _ _ _ _ _ _)
   | (with_reducible exact coder_TakeNum.mono _ _ _ _ _ _)
   | (with_reducible exact psalterylaw05_AsDec.mono _ _ _ _ _)
   | (with_reducible exact psalterylaw05_AsEnc.mono _ _ _ _)
   | (with_reducible exact psalterylaw05_SameEnc.mono _ _ _ _ _ _)
   | (with_reducible exact psalterylaw05_knows.mono _)
   | (with_reducible exact psalteryref05_PutNum.mono _ _ _ _ _)
   | (with_reducible exact psalteryref05_TakeNum.mono _ _ _ _ _ _)
   | (with_reducible exact LeO.refl _)
   | (with_reducible exact LeO.none _)
   | (with_reducible refine LeO.ite ?_ ?_)
   | (with_reducible refine LeO.bind ?_ (fun _ => ?_))
   | exact ih0 _ _ _ _ _ _ _ _ _ _
   | exact ih1 _ _ _ _ _ _
   | exact ih2 _ _ _ _ _ _ _ _ _ _ _ _
   | exact coder_PutNum.mono _ _ _ _ _ _
   | exact coder_TakeNum.mono _ _ _ _ _ _
   | exact psalterylaw05_AsDec.mono _ _ _ _ _
   | exact psalterylaw05_AsEnc.mono _ _ _ _
   | exact psalterylaw05_SameEnc.mono _ _ _ _ _ _
   | exact psalterylaw05_knows.mono _
   | exact psalteryref05_PutNum.mono _ _ _ _ _
   | exact psalteryref05_TakeNum.mono _ _ _ _ _ _
   | exact LeO.none _
   | refine LeO.ite ?_ ?_
   | refine LeO.bind ?_ (fun _ => ?_)
  ·
   intro y0 y1 y2 y3 y4 y5 y6 y7 y8 y9 y10 y11
   unfold psalterylaw05_CoderNums.j2
   repeat' first
   | (with_reducible exact ih0 _ _ _ _ _ _ _ _ _ _)
   | (with_reducible exact ih1 _ _ _ _ _ _)
   | (with_reducible exact ih2 _ _ _ _ _ _ _ _ _ _ _ _)
   | (with_reducible exact coder_PutNum.mono _ _ _ _ _ _)
   | (with_reducible exact coder_TakeNum.mono _ _ _ _ _ _)
   | (with_reducible exact psalterylaw05_AsDec.mono _ _ _ _ _)
   | (with_reducible exact psalterylaw05_AsEnc.mono _ _ _ _)
   | (with_reducible exact psalterylaw05_SameEnc.mono _ _ _ _ _ _)
   | (with_reducible exact psalterylaw05_knows.mono _)
   | (with_reducible exact psalteryref05_PutNum.mono _ _ _ _ _)
   | (with_reducible exact psalteryref05_TakeNum.mono _ _ _ _ _ _)
   | (with_reducible exact LeO.refl _)
   | (with_reducible exact LeO.none _)
   | (with_reducible refine LeO.ite ?_ ?_)
   | (with_reducible refine LeO.bind ?_ (fun _ => ?_))
   | exact ih0 _ _ _ _ _ _ _ _ _ _
   | exact ih1 _ _ _ _ _ _
   | exact ih2 _ _ _ _ _ _ _ _ _ _ _ _
   | exact coder_PutNum.mono _ _ _ _ _ _
   | exact coder_TakeNum.mono _ _ _ _ _ _
   | exact psalterylaw05_AsDec.mono _ _ _ _ _
   | exact psalterylaw05_AsEnc.mono _ _ _ _
   | exact psalterylaw05_SameEnc.mono _ _ _ _ _ _
   | exact psalterylaw05_knows.mono _
   | exact psalteryref05_PutNum.mono _ _ _ _ _
   | exact psalteryref05_TakeNum.mono _ _ _ _ _ _
   | exact LeO.none _
   | refine LeO.ite ?_ ?_
   | refine LeO.bind ?_ (fun _ => ?_)
theorem psalterylaw05_CoderNums.mono : ∀ a0 a1 a2 a3 a4 a5 a6 a7 a8 k, LeO (psalterylaw05_CoderNums.f k a0 a1 a2 a3 a4 a5 a6 a7 a8) (psalterylaw05_CoderNums.f (k + 1) a0 a1 a2 a3 a4 a5 a6 a7 a8) := by
 intro a0 a1 a2 a3 a4 a5 a6 a7 a8 k
 obtain ⟨ih0, ih1, ih2⟩ := psalterylaw05_CoderNums.mono_l k
 unfold psalterylaw05_CoderNums.f
 repeat' first
   | (with_reducible exact ih0 _ _ _ _ _ _ _ _ _ _)
   | (with_reducible exact ih1 _ _ _ _ _ _)
   | (with_reducible exact ih2 _ _ _ _ _ _ _ _ _ _ _ _)
   | (with_reducible exact coder_PutNum.mono _ _ _ _ _ _)
   | (with_reducible exact coder_TakeNum.mono _ _ _ _ _ _)
   | (with_reducible exact psalterylaw05_AsDec.mono _ _ _ _ _)
   | (with_reducible exact psalterylaw05_AsEnc.mono _ _ _ _)
   | (with_reducible exact psalterylaw05_SameEnc.mono _ _ _ _ _ _)
   | (with_reducible exact psalterylaw05_knows.mono _)
   | (with_reducible exact psalteryref05_PutNum.mono _ _ _ _ _)
   | (with_reducible exact psalteryref05_TakeNum.mono _ _ _ _ _ _)
   | (with_reducible exact LeO.refl _)
   | (with_reducible exact LeO.none _)
   | (with_reducible refine LeO.ite ?_ ?_)
   | (with_reducible refine LeO.bind ?_ (fun _ => ?_))
   | exact ih0 _ _ _ _ _ _ _ _ _ _
   | exact ih1 _ _ _ _ _ _
   | exact ih2 _ _ _ _ _ _ _ _ _ _ _ _
   | exact coder_PutNum.mono _ _ _ _ _ _
   | exact coder_TakeNum.mono _ _ _ _ _ _
   | exact psalterylaw05_AsDec.mono _ _ _ _ _
   | exact psalterylaw05_AsEnc.mono _ _ _ _
   | exact psalterylaw05_SameEnc.mono _ _ _ _ _ _
   | exact psalterylaw05_knows.mono _
   | exact psalteryref05_PutNum.mono _ _ _ _ _
   | exact psalteryref05_TakeNum.mono _ _ _ _ _ _
   | exact LeO.none _
   | refine LeO.ite ?_ ?_
   | refine LeO.bind ?_ (fun _ => ?_)
def psalterylaw05_CoderNums.T9 : Bool × List (List Nat × List Nat) := (true, [([], []), ([0], [0]), ([1], [1]), ([2], [2]), ([3, 2], [2, 3]), ([2, 4], [2, 4]), ([5, 2], [5]), ([6], [6]), ([6], [6]), ([8, 6, 6], [6, 8]), ([7, 9, 9, 6], [6, 7, 9]), ([6, 10], [6, 10]), ([11, 10], [11]), ([12, 12], [12]), ([12, 13], [12, 13]), ([14, 13, 0, 1, 2, 3, 4, 5, 6, 7, 8, 9, 10, 11, 12, 13, 14], [14])])
def psalterylaw05_CoderNums.B9 : List Nat := [0, 1, 3, 7, 15, 31, 63, 127, 127, 383, 1023, 2047, 4095, 8191, 16383, 32767]
theorem psalterylaw05_CoderNums.tab9 : rtab .any (opsOf Try.f9 9) = psalterylaw05_CoderNums.T9 := by kernel_rfl
theorem psalterylaw05_CoderNums.bits9 : waitsOk psalterylaw05_CoderNums.T9.2 psalterylaw05_CoderNums.B9 = true := by kernel_rfl
set_option maxHeartbeats 8000000 in
set_option maxRecDepth 100000 in
theorem psalterylaw05_CoderNums.calls (k : Nat) (a0_0 : Int) (a0_1 : Int) (A0_2 : Option Addr) (c0_2 : Nat) (l0_2 : List Int) (a1_0 : Int) (a1_1 : Int) (A1_2 : Option Addr) (c1_2 : Nat) (l1_2 : List Int) (a1_3 : Int) (a2 : Int) (a3 : Int) (r : Bool) (w : World) (hr0_2 : Kd.C (Kd.int .u8) w A0_2 l0_2.length l0_2) (hc0_2 : l0_2.length ≤ c0_2) (hr1_2 : Kd.C (Kd.int .u8) w A1_2 l1_2.length l1_2) (hc1_2 : l1_2.length ≤ c1_2) (h : psalterylaw05_CoderNums.f k a0_0 a0_1 l0_2 a1_0 a1_1 l1_2 a1_3 a2 a3 = some r) :
  Calls Try.prog 9 #[.agg #[.int .u64 a0_0, .int .u32 a0_1, .slice A0_2 l0_2.length c0_2], .agg #[.int .u64 a1_0, .int .u32 a1_1, .slice A1_2 l1_2.length c1_2, .int .i64 a1_3], .int .u64 a2, .int .u64 a3] w fun e w' => e = .returned (.bool r) ∧ Below w.heap.size w w' := by
 have hu26 := Try.underlying26
 have hu43 := Try.underlying43
 have hu33 := Try.underlying33
 have hu46 := Try.underlying46
 have HR0_2 := zm hr0_2
 have HC0_2 := zm hc0_2
 clear hr0_2 hc0_2
 have HR1_2 := zm hr1_2
 have HC1_2 := zm hc1_2
 clear hr1_2 hc1_2
 have HB := zm (Below.refl w.heap.size w)
 have H : (if (l0_2.length : Int) > 5000 then (psalterylaw05_CoderNums.j0 k a2 a3 true a0_0 a0_1 l0_2 a1_0 a1_1 l1_2 a1_3) else (psalterylaw05_CoderNums.j0 k a2 a3 (decide ((l1_2.length : Int) > 5000)) a0_0 a0_1 l0_2 a1_0 a1_1 l1_2 a1_3)) = some r := h
 clear h
 have HC5 := zm H
 clear H
 go_enter Try.func9, Try.ntmps9
 go_upto_region 1 with (first | ((with_reducible refine gate_dst (N := 4) rfl ?_); (try (refine gate_guard (by rfl) ?_; dsimp only)); refine box_event ?hg (N := 4) ?hd (cs := #[.int .u64 a0_0, .int .u32 a0_1, .slice A0_2 l0_2.length c0_2]) (t := 26) ?hr ?_; (case hd => rfl); (case hg => rfl); (case hr => first | (go_simp; done) | (go_simp; rfl)); intro gb564 hg w6 hbox hb; have n0_ := zm (zJ (by repeat (first | (with_reducible first | exact HB.out | apply ze | apply zd | apply zf) | exact HB.out)) hb); have n1_ := zm (hbox); have n2_ := zm ((by rw [hg]; exact (zE (by repeat (first | (with_reducible first | exact HB.out | apply ze | apply zd | apply zf) | exact HB.out))) : w.heap.size ≤ gb564)); have n3_ := zm ((by rw [hg]; exact (zE (by repeat (first | (with_reducible first | exact HB.out | apply ze | apply zd | apply zf) | exact HB.out))) : w.heap.size ≤ gb564)); clear HB; have HB := n0_; have BK564 := n1_; have GW564 := n2_; have GE564 := n3_; clear n0_ n1_ n2_ n3_; clear hb hbox hg) | ((with_reducible refine gate_dst (N := 5) rfl ?_); (try (refine gate_guard (by rfl) ?_; dsimp only)); refine box_event ?hg (N := 5) ?hd (cs := #[.int .u64 a1_0, .int .u32 a1_1, .slice A1_2 l1_2.length c1_2, .int .i64 a1_3]) (t := 43) ?hr ?_; (case hd => rfl); (case hg => rfl); (case hr => first | (go_simp; done) | (go_simp; rfl)); intro gb565 hg w7 hbox hb; have n0_ := zm (zF (g := gb564) (o := .cells #[.int .u64 a0_0, .int .u32 a0_1, .slice A0_2 l0_2.length c0_2] 26 (0, 0)) (by (with_reducible repeat (first | refine zh ?_ _ | refine zj ?_ | refine zi ?_ _)); exact BK564.out) hb); have n1_ := zm (zJ (by repeat (first | (with_reducible first | exact HB.out | apply ze | apply zd | apply zf | refine zk ?_ GE564.out) | exact HB.out)) hb); have n2_ := zm (hbox); have n3_ := zm ((by rw [hg]; exact (zE (by repeat (first | (with_reducible first | exact HB.out | apply ze | apply zd | apply zf | refine zk ?_ GE564.out) | exact HB.out))) : w.heap.size ≤ gb565)); have n4_ := zm ((by rw [hg]; exact (zE (by repeat (first | (with_reducible first | exact HB.out | apply ze | apply zd | apply zf | refine zk ?_ GE564.out) | exact HB.out))) : w.heap.size ≤ gb565)); have n5_ := zm ((by rw [hg]; exact zn (zD (g := gb564) (o := .cells #[.int .u64 a0_0, .int .u32 a0_1, .slice A0_2 l0_2.length c0_2] 26 (0, 0)) (by (with_reducible repeat (first | refine zh ?_ _ | refine zj ?_ | refine zi ?_ _)); exact BK564.out)) : gb564 ≠ gb565)); have n6_ := zm ((by rw [hg]; exact zg (zD (g := gb564) (o := .cells #[.int .u64 a0_0, .int .u32 a0_1, .slice A0_2 l0_2.length c0_2] 26 (0, 0)) (by (with_reducible repeat (first | refine zh ?_ _ | refine zj ?_ | refine zi ?_ _)); exact BK564.out)) : gb565 ≠ gb564)); clear BK564; clear HB; have BK564 := n0_; have HB := n1_; have BK565 := n2_; have GW565 := n3_; have GE565 := n4_; have NB564_565 := n5_; have NB565_564 := n6_; clear n0_ n1_ n2_ n3_ n4_ n5_ n6_; clear hb hbox hg))
 (try simp only [Act.put, List.setIfInBounds_toArray, List.set_cons_zero, List.set_cons_succ])
 go_cut [27] (fun v27 wc => ∃ (kq : Nat) (x27_4 : Bool), v27 = .bool x27_4 ∧ Aside0 (psalterylaw05_CoderNums.j0 kq a2 a3 x27_4 a0_0 a0_1 l0_2 a1_0 a1_1 l1_2 a1_3 = some r) ∧ Aside0 (kq ≤ k) ∧ Aside0 (wc.heap[gb564]? = some (.cells #[.int .u64 a0_0, .int .u32 a0_1, (.slice A0_2 l0_2.length c0_2)] 26 (0, 0))) ∧ Aside0 (wc.heap[gb565]? = some (.cells #[.int .u64 a1_0, .int .u32 a1_1, (.slice A1_2 l1_2.length c1_2), .int .i64 a1_3] 43 (0, 0))) ∧ Aside0 (Below w.heap.size w wc))
 case first =>
  have H := HC5.out
  clear HC5
  by_cases c8 : (l0_2.length : Int) > 5000
  ·
   rw [if_pos c8] at H
   have c8b0 : decide (5000 < (l0_2.length : Int)) = true := decide_eq_true c8
   have c8b1 : decide (5000 < l0_2.length) = true := decide_eq_true (by omega)
   clear c8
   (first | rw [c8b0] | (simp only [i64_w, i32_w]; rw [c8b0]) | skip)
   have H' := zm H
   clear H
   have hnb9 := NB564_565.out
   have hnc9 := NB565_564.out
   have hcz10_0 : w7.cell? ⟨gb564, 0, none⟩ = some (.int .u64 a0_0) := (zs BK564.out 0).trans rfl
   have hcz10_1 : w7.cell? ⟨gb564, 1, none⟩ = some (.int .u32 a0_1) := (zs BK564.out 1).trans rfl
   have hcz10_2 : w7.cell? ⟨gb564, 2, none⟩ = some (.slice A0_2 l0_2.length c0_2) := (zs BK564.out 2).trans rfl
   have hfz10_0 := zx BK564.out 0
   have hfz10_1 := zx BK564.out 1
   have hfz10_2 := zx BK564.out 2
   go_wp2
   go_meet
   case rel => exact ⟨_, (true), (by first | rfl | (simp; done) | (simp [*]; done)), H', ⟨by first | omega | exact Nat.le_refl _⟩, ⟨by (with_reducible repeat (first | refine zh ?_ _ | refine zj ?_ | refine zi ?_ _)); exact BK564.out⟩, ⟨by (with_reducible repeat (first | refine zh ?_ _ | refine zj ?_ | refine zi ?_ _)); exact BK565.out⟩, ⟨by repeat (first | (with_reducible first | exact HB.out | apply ze | apply zd | apply zf | refine zk ?_ GE564.out | refine zk ?_ GE565.out) | exact HB.out)⟩⟩
  ·
   rw [if_neg c8] at H
   have c8b0 : decide (5000 < (l0_2.length : Int)) = false := decide_eq_false c8
   have c8b1 : decide (5000 < l0_2.length) = false := decide_eq_false (by omega)
   clear c8
   (first | rw [c8b0] | (simp only [i64_w, i32_w]; rw [c8b0]) | skip)
   have H' := zm H
   clear H
   have hnb11 := NB564_565.out
   have hnc11 := NB565_564.out
   have hcz12_0 : w7.cell? ⟨gb564, 0, none⟩ = some (.int .u64 a0_0) := (zs BK564.out 0).trans rfl
   have hcz12_1 : w7.cell? ⟨gb564, 1, none⟩ = some (.int .u32 a0_1) := (zs BK564.out 1).trans rfl
   have hcz12_2 : w7.cell? ⟨gb564, 2, none⟩ = some (.slice A0_2 l0_2.length c0_2) := (zs BK564.out 2).trans rfl
   have hfz12_0 := zx BK564.out 0
   have hfz12_1 := zx BK564.out 1
   have hfz12_2 := zx BK564.out 2
   have hcz13_0 : w7.cell? ⟨gb565, 0, none⟩ = some (.int .u64 a1_0) := (zs BK565.out 0).trans rfl
   have hcz13_1 : w7.cell? ⟨gb565, 1, none⟩ = some (.int .u32 a1_1) := (zs BK565.out 1).trans rfl
   have hcz13_2 : w7.cell? ⟨gb565, 2, none⟩ = some (.slice A1_2 l1_2.length c1_2) := (zs BK565.out 2).trans rfl
   have hcz13_3 : w7.cell? ⟨gb565, 3, none⟩ = some (.int .i64 a1_3) := (zs BK565.out 3).trans rfl
   have hfz13_0 := zx BK565.out 0
   have hfz13_1 := zx BK565.out 1
   have hfz13_2 := zx BK565.out 2
   have hfz13_3 := zx BK565.out 3
   go_wp2
   go_meet
   case rel => exact ⟨_, (decide ((l1_2.length : Int) > 5000)), (by first | rfl | (simp; done) | (simp [*]; done)), H', ⟨by first | omega | exact Nat.le_refl _⟩, ⟨by (with_reducible repeat (first | refine zh ?_ _ | refine zj ?_ | refine zi ?_ _)); exact BK564.out⟩, ⟨by (with_reducible repeat (first | refine zh ?_ _ | refine zj ?_ | refine zi ?_ _)); exact BK565.out⟩, ⟨by repeat (first | (with_reducible first | exact HB.out | apply ze | apply zd | apply zf | refine zk ?_ GE564.out | refine zk ?_ GE565.out) | exact HB.out)⟩⟩
 case rest =>
  clear HC5
  try clear c1
  try clear p2
  try clear c8
  try clear c8b0
  try clear c8b1
  try clear c9
  try clear c11
  try clear hcz10_0
  try clear hcz10_1
  try clear hcz10_2
  try clear hcz12_0
  try clear hcz12_1
  try clear hcz12_2
  try clear hcz13_0
  try clear hcz13_1
  try clear hcz13_2
  try clear hcz13_3
  try clear hfz10_0
  try clear hfz10_1
  try clear hfz10_2
  try clear hfz12_0
  try clear hfz12_1
  try clear hfz12_2
  try clear hfz13_0
  try clear hfz13_1
  try clear hfz13_2
  try clear hfz13_3
  obtain ⟨kq, x27_4, rfl, HA, HJ4, BK564, BK565, HB⟩ := hcut
  cases kq with
  | zero => exact absurd HA.out (by simp [psalterylaw05_CoderNums.j0])
  | succ kj4 =>
   have H := HA.out
   clear HA
   simp only [psalterylaw05_CoderNums.j0] at H
   by_cases c14 : x27_4 = true
   ·
    subst c14
    have H1 : ((psalterylaw05_knows.f kj4).bind fun t566 => (some t566)) = some r := by rw [if_pos rfl] at H; exact H
    clear H
    have H := H1
    clear H1
    replace H := Option.bind_eq_some_iff.mp H
    obtain ⟨t566, A150, H⟩ := H
    replace H : (some t566) = some r := H
    have A15 := zm A150
    clear A150
    obtain rfl := Option.some.inj H
    go_wp2_with (first | ((with_reducible refine gate_callee (f := 17) rfl ?_); refine goesL_ (some 28) rfl rfl Try.func17 (by kernel_rfl) rfl #[] rfl (by (try simp only [List.map_toArray, List.map_cons, List.map_nil]); first | done | rfl | (simp only [List.length_drop, List.length_take]; rfl)) ?_; (with_reducible refine (psalterylaw05_knows.calls kj4  t566 _ A15.out).mono ?_); rintro e w16 ⟨rfl, hb⟩; refine ⟨_, rfl, ?_⟩; have n0_ := zm (zF (g := gb564) (o := .cells #[.int .u64 a0_0, .int .u32 a0_1, .slice A0_2 l0_2.length c0_2] 26 (0, 0)) (by (with_reducible repeat (first | refine zh ?_ _ | refine zj ?_ | refine zi ?_ _)); exact BK564.out) hb); have n1_ := zm (zF (g := gb565) (o := .cells #[.int .u64 a1_0, .int .u32 a1_1, .slice A1_2 l1_2.length c1_2, .int .i64 a1_3] 43 (0, 0)) (by (with_reducible repeat (first | refine zh ?_ _ | refine zj ?_ | refine zi ?_ _)); exact BK565.out) hb); have n2_ := zm (zJ (by repeat (first | (with_reducible first | exact HB.out | apply ze | apply zd | apply zf | refine zk ?_ GE564.out | refine zk ?_ GE565.out) | exact HB.out)) hb); clear BK564; clear BK565; clear HB; have BK564 := n0_; have BK565 := n1_; have HB := n2_; clear n0_ n1_ n2_; (try clear hb); (try clear hb2); (try clear hk); (try clear hi)))
    go_ret
    exact ⟨by first | rfl | (simp [errW_none, errW_some] <;> rfl) | (simp [*, errW_none, errW_some] <;> rfl), by repeat (first | (with_reducible first | exact HB.out | apply ze | apply zd | apply zf | refine zk ?_ GE564.out | refine zk ?_ GE565.out) | exact HB.out)⟩
   ·
    replace c14 := Bool.eq_false_iff.mpr c14
    subst c14
    have H1 : ((coder_PutNum.f kj4 a0_0 a0_1 l0_2 a2 a3).bind fun bt567 => ((psalterylaw05_AsEnc.f kj4 a0_0 a0_1 l0_2).bind fun bt574 => ((psalteryref05_PutNum.f kj4 bt574.1 bt574.2 a2 a3).bind fun bt578 => (if bt567.2.2.2 = bt578.2.2 then ((psalterylaw05_SameEnc.f kj4 bt567.1 bt567.2.1 bt567.2.2.1 bt578.1 bt578.2.1).bind fun t584 => (psalterylaw05_CoderNums.j1 kj4 a3 (!t584) a1_0 a1_1 l1_2 a1_3)) else (psalterylaw05_CoderNums.j1 kj4 a3 true a1_0 a1_1 l1_2 a1_3))))) = some r := by rw [if_neg (show ¬ (false = true) by decide)] at H; exact H
    clear H
    have H := H1
    clear H1
    replace H := Option.bind_eq_some_iff.mp H
    obtain ⟨⟨t567, t568, t569, t572⟩, A170, H⟩ := H
    replace H : ((psalterylaw05_AsEnc.f kj4 a0_0 a0_1 l0_2).bind fun bt574 => ((psalteryref05_PutNum.f kj4 bt574.1 bt574.2 a2 a3).bind fun bt578 => (if t572 = bt578.2.2 then ((psalterylaw05_SameEnc.f kj4 t567 t568 t569 bt578.1 bt578.2.1).bind fun t584 => (psalterylaw05_CoderNums.j1 kj4 a3 (!t584) a1_0 a1_1 l1_2 a1_3)) else (psalterylaw05_CoderNums.j1 kj4 a3 true a1_0 a1_1 l1_2 a1_3)))) = some r := H
    have A17 := zm A170
    clear A170
    replace H := Option.bind_eq_some_iff.mp H
    obtain ⟨⟨t574, t575⟩, A180, H⟩ := H
    replace H : ((psalteryref05_PutNum.f kj4 t574 t575 a2 a3).bind fun bt578 => (if t572 = bt578.2.2 then ((psalterylaw05_SameEnc.f kj4 t567 t568 t569 bt578.1 bt578.2.1).bind fun t584 => (psalterylaw05_CoderNums.j1 kj4 a3 (!t584) a1_0 a1_1 l1_2 a1_3)) else (psalterylaw05_CoderNums.j1 kj4 a3 true a1_0 a1_1 l1_2 a1_3))) = some r := H
    have A18 := zm A180
    clear A180
    replace H := Option.bind_eq_some_iff.mp H
    obtain ⟨⟨t578, t579, t582⟩, A190, H⟩ := H
    replace H : (if t572 = t582 then ((psalterylaw05_SameEnc.f kj4 t567 t568 t569 t578 t579).bind fun t584 => (psalterylaw05_CoderNums.j1 kj4 a3 (!t584) a1_0 a1_1 l1_2 a1_3)) else (psalterylaw05_CoderNums.j1 kj4 a3 true a1_0 a1_1 l1_2 a1_3)) = some r := H
    have A19 := zm A190
    clear A190
    have HC20 := zm H
    clear H
    have hnb21 := NB564_565.out
    have hnc21 := NB565_564.out
    have hcz22_0 : wc.cell? ⟨gb564, 0, none⟩ = some (.int .u64 a0_0) := (zs BK564.out 0).trans rfl
    have hcz22_1 : wc.cell? ⟨gb564, 1, none⟩ = some (.int .u32 a0_1) := (zs BK564.out 1).trans rfl
    have hcz22_2 : wc.cell? ⟨gb564, 2, none⟩ = some (.slice A0_2 l0_2.length c0_2) := (zs BK564.out 2).trans rfl
    have hfz22_0 := zx BK564.out 0
    have hfz22_1 := zx BK564.out 1
    have hfz22_2 := zx BK564.out 2
    go_upto_region 5 with (first | ((with_reducible refine gate_callee (f := 37) rfl ?_); refine goesL_ (some 33) rfl rfl Try.func37 (by kernel_rfl) rfl #[.agg #[.int .u64 a0_0, .int .u32 a0_1, .slice A0_2 l0_2.length c0_2], .int .u64 a2, .int .u64 a3] rfl (by (try simp only [List.map_toArray, List.map_cons, List.map_nil]); first | done | rfl | (simp only [List.length_drop, List.length_take]; rfl)) ?_; (with_reducible refine (coder_PutNum.calls kj4 a0_0 a0_1 _ _ l0_2 a2 a3 t567 t568 t569 t572 _ ?side1 ?side2 A17.out).mono ?_); (case side1 => repeat (first | exact (Kd.C_below HR0_2.out HB.out) | (with_reducible refine Kd.C_alloc ?_ _) | (with_reducible refine Kd.C_drewN ?_ _) | (with_reducible refine Kd.C_drew ?_))); (case side2 => exact HC0_2.out); rintro e w23 ⟨v570, rfl, ho0, hb⟩; refine ⟨_, rfl, ?_⟩; have n0_ := zm (Kd.R_lower ho0 (zE (by repeat (first | (with_reducible first | exact HB.out | apply ze | apply zd | apply zf | refine zk ?_ GE564.out | refine zk ?_ GE565.out) | exact HB.out)))); have n1_ := zm (zF (g := gb564) (o := .cells #[.int .u64 a0_0, .int .u32 a0_1, .slice A0_2 l0_2.length c0_2] 26 (0, 0)) (by (with_reducible repeat (first | refine zh ?_ _ | refine zj ?_ | refine zi ?_ _)); exact BK564.out) hb); have n2_ := zm (zF (g := gb565) (o := .cells #[.int .u64 a1_0, .int .u32 a1_1, .slice A1_2 l1_2.length c1_2, .int .i64 a1_3] 43 (0, 0)) (by (with_reducible repeat (first | refine zh ?_ _ | refine zj ?_ | refine zi ?_ _)); exact BK565.out) hb); have n3_ := zm (zJ (by repeat (first | (with_reducible first | exact HB.out | apply ze | apply zd | apply zf | refine zk ?_ GE564.out | refine zk ?_ GE565.out) | exact HB.out)) hb); clear BK564; clear BK565; clear HB; have HO571 := n0_; have BK564 := n1_; have BK565 := n2_; have HB := n3_; clear n0_ n1_ n2_ n3_; (try clear hb); (try clear hb2); (try clear hk); (try clear hi); (try clear ho0)) | ((with_reducible refine gate_dst (N := 9) rfl ?_); (try (refine gate_guard (by rfl) ?_; dsimp only)); refine box_event ?hg (N := 9) ?hd (cs := #[.int .u64 0, .int .u32 0, .slice none 0 0]) (t := 26) ?hr ?_; (case hd => rfl); (case hg => rfl); (case hr => first | (go_simp; done) | (go_simp; rfl)); intro gb573 hg w24 hbox hb; have n0_ := zm (Kd.R_below (by (with_reducible repeat (first | apply zo | apply zp | apply zq)); exact HO571.out) hb); have n1_ := zm (zF (g := gb564) (o := .cells #[.int .u64 a0_0, .int .u32 a0_1, .slice A0_2 l0_2.length c0_2] 26 (0, 0)) (by (with_reducible repeat (first | refine zh ?_ _ | refine zj ?_ | refine zi ?_ _)); exact BK564.out) hb); have n2_ := zm (zF (g := gb565) (o := .cells #[.int .u64 a1_0, .int .u32 a1_1, .slice A1_2 l1_2.length c1_2, .int .i64 a1_3] 43 (0, 0)) (by (with_reducible repeat (first | refine zh ?_ _ | refine zj ?_ | refine zi ?_ _)); exact BK565.out) hb); have n3_ := zm (zJ (by repeat (first | (with_reducible first | exact HB.out | apply ze | apply zd | apply zf | refine zk ?_ GE564.out | refine zk ?_ GE565.out) | exact HB.out)) hb); have n4_ := zm (hbox); have n5_ := zm ((by rw [hg]; exact (zE (by repeat (first | (with_reducible first | exact HB.out | apply ze | apply zd | apply zf | refine zk ?_ GE564.out | refine zk ?_ GE565.out) | exact HB.out))) : w.heap.size ≤ gb573)); have n6_ := zm ((by rw [hg]; exact (zE (by repeat (first | (with_reducible first | exact HB.out | apply ze | apply zd | apply zf | refine zk ?_ GE564.out | refine zk ?_ GE565.out) | exact HB.out))) : w.heap.size ≤ gb573)); have n7_ := zm ((by rw [hg]; exact zn (zD (g := gb564) (o := .cells #[.int .u64 a0_0, .int .u32 a0_1, .slice A0_2 l0_2.length c0_2] 26 (0, 0)) (by (with_reducible repeat (first | refine zh ?_ _ | refine zj ?_ | refine zi ?_ _)); exact BK564.out)) : gb564 ≠ gb573)); have n8_ := zm ((by rw [hg]; exact zg (zD (g := gb564) (o := .cells #[.int .u64 a0_0, .int .u32 a0_1, .slice A0_2 l0_2.length c0_2] 26 (0, 0)) (by (with_reducible repeat (first | refine zh ?_ _ | refine zj ?_ | refine zi ?_ _)); exact BK564.out)) : gb573 ≠ gb564)); have n9_ := zm ((by rw [hg]; exact zn (zD (g := gb565) (o := .cells #[.int .u64 a1_0, .int .u32 a1_1, .slice A1_2 l1_2.length c1_2, .int .i64 a1_3] 43 (0, 0)) (by (with_reducible repeat (first | refine zh ?_ _ | refine zj ?_ | refine zi ?_ _)); exact BK565.out)) : gb565 ≠ gb573)); have n10_ := zm ((by rw [hg]; exact zg (zD (g := gb565) (o := .cells #[.int .u64 a1_0, .int .u32 a1_1, .slice A1_2 l1_2.length c1_2, .int .i64 a1_3] 43 (0, 0)) (by (with_reducible repeat (first | refine zh ?_ _ | refine zj ?_ | refine zi ?_ _)); exact BK565.out)) : gb573 ≠ gb565)); clear HO571; clear BK564; clear BK565; clear HB; have HO571 := n0_; have BK564 := n1_; have BK565 := n2_; have HB := n3_; have BK573 := n4_; have GW573 := n5_; have GE573 := n6_; have NB564_573 := n7_; have NB573_564 := n8_; have NB565_573 := n9_; have NB573_565 := n10_; clear n0_ n1_ n2_ n3_ n4_ n5_ n6_ n7_ n8_ n9_ n10_; clear hb hbox hg; have hnb25 := NB573_564.out; have hnc25 := NB564_573.out; have hnb26 := NB573_565.out; have hnc26 := NB565_573.out; have hcz27_0 : w24.cell? ⟨gb573, 0, none⟩ = some (.int .u64 0) := (zs BK573.out 0).trans rfl; have hcz27_1 : w24.cell? ⟨gb573, 1, none⟩ = some (.int .u32 0) := (zs BK573.out 1).trans rfl; have hcz27_2 : w24.cell? ⟨gb573, 2, none⟩ = some (.slice none 0 0) := (zs BK573.out 2).trans rfl; have hfz27_0 := zx BK573.out 0; have hfz27_1 := zx BK573.out 1; have hfz27_2 := zx BK573.out 2; obtain ⟨Ao28, co28, eo28⟩ := Kd.R_slice HO571.out; subst eo28; have hcz29_0 : w24.cell? ⟨gb564, 0, none⟩ = some (.int .u64 a0_0) := (zs BK564.out 0).trans rfl; have hcz29_1 : w24.cell? ⟨gb564, 1, none⟩ = some (.int .u32 a0_1) := (zs BK564.out 1).trans rfl; have hcz29_2 : w24.cell? ⟨gb564, 2, none⟩ = some (.slice A0_2 l0_2.length c0_2) := (zs BK564.out 2).trans rfl; have hfz29_0 := zx BK564.out 0; have hfz29_1 := zx BK564.out 1; have hfz29_2 := zx BK564.out 2) | ((with_reducible refine gate_callee (f := 20) rfl ?_); refine goesL_ (some 38) rfl rfl Try.func20 (by kernel_rfl) rfl #[.agg #[.int .u64 a0_0, .int .u32 a0_1, .slice A0_2 l0_2.length c0_2]] rfl (by (try simp only [List.map_toArray, List.map_cons, List.map_nil]); first | done | rfl | (simp only [List.length_drop, List.length_take]; rfl)) ?_; (with_reducible refine (psalterylaw05_AsEnc.calls kj4 a0_0 a0_1 _ _ l0_2 t574 t575 _ ?side1 ?side2 A18.out).mono ?_); (case side1 => exact Kd.C_below HR0_2.out (by repeat (first | (with_reducible first | exact HB.out | apply ze | apply zd | apply zf | refine zk ?_ GE564.out | refine zk ?_ GE565.out | refine zk ?_ GE573.out) | exact HB.out))); (case side2 => exact HC0_2.out); rintro e w30 ⟨v576, rfl, ho0, hb⟩; refine ⟨_, rfl, ?_⟩; have n0_ := zm (Kd.R_below (by (with_reducible repeat (first | apply zo | apply zp | apply zq)); exact (zG (zH (p := ⟨gb573, 2, none⟩) (zH (p := ⟨gb573, 1, none⟩) (zH (p := ⟨gb573, 0, none⟩) (Kd.R_types HO571.out BK573.out (by decide)) (fun _ hk => hk.2) (.int .u64 t567)) (fun _ hk => hk.2) (.int .u32 t568)) (fun _ hk => hk.2) (.slice Ao28 t569.length co28)) (fun _ h_ => h_.1))) hb); have n1_ := zm (Kd.R_lower ho0 (zE (by repeat (first | (with_reducible first | exact HB.out | apply ze | apply zd | apply zf | refine zk ?_ GE564.out | refine zk ?_ GE565.out | refine zk ?_ GE573.out) | exact HB.out)))); have n2_ := zm (zF (g := gb564) (o := .cells #[.int .u64 a0_0, .int .u32 a0_1, .slice A0_2 l0_2.length c0_2] 26 (0, 0)) (by (with_reducible repeat (first | refine zh ?_ _ | refine zj ?_ | refine zi ?_ _)); refine zv ?_ NB564_573.out _; (with_reducible repeat (first | refine zh ?_ _ | refine zj ?_ | refine zi ?_ _)); refine zv ?_ NB564_573.out _; (with_reducible repeat (first | refine zh ?_ _ | refine zj ?_ | refine zi ?_ _)); refine zv ?_ NB564_573.out _; (with_reducible repeat (first | refine zh ?_ _ | refine zj ?_ | refine zi ?_ _)); exact BK564.out) hb); have n3_ := zm (zF (g := gb565) (o := .cells #[.int .u64 a1_0, .int .u32 a1_1, .slice A1_2 l1_2.length c1_2, .int .i64 a1_3] 43 (0, 0)) (by (with_reducible repeat (first | refine zh ?_ _ | refine zj ?_ | refine zi ?_ _)); refine zv ?_ NB565_573.out _; (with_reducible repeat (first | refine zh ?_ _ | refine zj ?_ | refine zi ?_ _)); refine zv ?_ NB565_573.out _; (with_reducible repeat (first | refine zh ?_ _ | refine zj ?_ | refine zi ?_ _)); refine zv ?_ NB565_573.out _; (with_reducible repeat (first | refine zh ?_ _ | refine zj ?_ | refine zi ?_ _)); exact BK565.out) hb); have n4_ := zm (zF (g := gb573) (o := .cells #[.int .u64 t567, .int .u32 t568, .slice Ao28 t569.length co28] 26 (0, 0)) (by (with_reducible repeat (first | refine zh ?_ _ | refine zj ?_ | refine zi ?_ _)); refine zw (cs := #[.int .u64 t567, .int .u32 t568, .slice none 0 0]) ?_ 2 _ rfl; (with_reducible repeat (first | refine zh ?_ _ | refine zj ?_ | refine zi ?_ _)); refine zw (cs := #[.int .u64 t567, .int .u32 0, .slice none 0 0]) ?_ 1 _ rfl; (with_reducible repeat (first | refine zh ?_ _ | refine zj ?_ | refine zi ?_ _)); refine zw (cs := #[.int .u64 0, .int .u32 0, .slice none 0 0]) ?_ 0 _ rfl; (with_reducible repeat (first | refine zh ?_ _ | refine zj ?_ | refine zi ?_ _)); exact BK573.out) hb); have n5_ := zm (zJ (by repeat (first | (with_reducible first | exact HB.out | apply ze | apply zd | apply zf | refine zk ?_ GE564.out | refine zk ?_ GE565.out | refine zk ?_ GE573.out) | exact HB.out)) hb); clear HO571; clear BK564; clear BK565; clear BK573; clear HB; have HO571 := n0_; have HO577 := n1_; have BK564 := n2_; have BK565 := n3_; have BK573 := n4_; have HB := n5_; clear n0_ n1_ n2_ n3_ n4_ n5_; (try clear hb); (try clear hb2); (try clear hk); (try clear hi); (try clear ho0); obtain ⟨Ao31, co31, eo31⟩ := Kd.R_slice HO577.out; subst eo31) | ((with_reducible refine gate_callee (f := 38) rfl ?_); refine goesL_ (some 41) rfl rfl Try.func38 (by kernel_rfl) rfl #[.agg #[.int .u64 t574, .slice Ao31 t575.length co31], .int .u64 a2, .int .u64 a3] rfl (by (try simp only [List.map_toArray, List.map_cons, List.map_nil]); first | done | rfl | (simp only [List.length_drop, List.length_take]; rfl)) ?_; (with_reducible refine (psalteryref05_PutNum.calls kj4 t574 (fun k_ => some k_ = (.slice Ao31 t575.length co31 : Value).ownBlock) _ _ t575 a2 a3 t578 t579 t582 _ ?side1 A19.out).mono ?_); (case side1 => exact Kd.R_V (Kd.R_tight rfl (Kd.R_types (Kd.R_types (Kd.R_types (Kd.R_apart' (HO577.out) (Kd.R_typed HO571.out) (by decide)) BK564.out (by decide)) BK565.out (by decide)) BK573.out (by decide)))); rintro e w32 ⟨v580, rfl, ho0, hb⟩; refine ⟨_, rfl, ?_⟩; have n0_ := zm (Kd.R_below (by (with_reducible repeat (first | apply zo | apply zp | apply zq)); exact HO571.out) hb); have n1_ := zm (Kd.R_below (by (with_reducible repeat (first | apply zo | apply zp | apply zq)); exact HO577.out) hb); have n2_ := zm (Kd.V_lower (zy (ok' := fun k_ => some k_ ≠ (.slice Ao28 t569.length co28 : Value).ownBlock ∧ k_ ≠ gb564 ∧ k_ ≠ gb565 ∧ k_ ≠ gb573) ho0 (fun k_ hk_ => ⟨Or.elim hk_ (fun hs_ => ((Kd.R_types (Kd.R_types (Kd.R_types (Kd.R_apart' (HO577.out) (Kd.R_typed HO571.out) (by decide)) BK564.out (by decide)) BK565.out (by decide)) BK573.out (by decide)).1 k_ hs_.symm).1.1.1.2) (fun hn_ => (Kd.fresh' (Kd.R_lt (by (with_reducible repeat (first | apply zo | apply zp | apply zq)); exact HO571.out)) k_ hn_)), Or.elim hk_ (fun hs_ => ((Kd.R_types (Kd.R_types (Kd.R_types (Kd.R_apart' (HO577.out) (Kd.R_typed HO571.out) (by decide)) BK564.out (by decide)) BK565.out (by decide)) BK573.out (by decide)).1 k_ hs_.symm).1.1.2) (fun hn_ => (Kd.freshB (g := gb564) (o := .cells #[.int .u64 a0_0, .int .u32 a0_1, .slice A0_2 l0_2.length c0_2] 26 (0, 0)) (by (with_reducible repeat (first | refine zh ?_ _ | refine zj ?_ | refine zi ?_ _)); exact BK564.out) k_ hn_)), Or.elim hk_ (fun hs_ => ((Kd.R_types (Kd.R_types (Kd.R_types (Kd.R_apart' (HO577.out) (Kd.R_typed HO571.out) (by decide)) BK564.out (by decide)) BK565.out (by decide)) BK573.out (by decide)).1 k_ hs_.symm).1.2) (fun hn_ => (Kd.freshB (g := gb565) (o := .cells #[.int .u64 a1_0, .int .u32 a1_1, .slice A1_2 l1_2.length c1_2, .int .i64 a1_3] 43 (0, 0)) (by (with_reducible repeat (first | refine zh ?_ _ | refine zj ?_ | refine zi ?_ _)); exact BK565.out) k_ hn_)), Or.elim hk_ (fun hs_ => ((Kd.R_types (Kd.R_types (Kd.R_types (Kd.R_apart' (HO577.out) (Kd.R_typed HO571.out) (by decide)) BK564.out (by decide)) BK565.out (by decide)) BK573.out (by decide)).1 k_ hs_.symm).2) (fun hn_ => (Kd.freshB (g := gb573) (o := .cells #[.int .u64 t567, .int .u32 t568, .slice Ao28 t569.length co28] 26 (0, 0)) (by (with_reducible repeat (first | refine zh ?_ _ | refine zj ?_ | refine zi ?_ _)); exact BK573.out) k_ hn_))⟩)) (zE (by repeat (first | (with_reducible first | exact HB.out | apply ze | apply zd | apply zf | refine zk ?_ GE564.out | refine zk ?_ GE565.out | refine zk ?_ GE573.out) | exact HB.out)))); have n3_ := zm (zF (g := gb564) (o := .cells #[.int .u64 a0_0, .int .u32 a0_1, .slice A0_2 l0_2.length c0_2] 26 (0, 0)) (by (with_reducible repeat (first | refine zh ?_ _ | refine zj ?_ | refine zi ?_ _)); exact BK564.out) hb); have n4_ := zm (zF (g := gb565) (o := .cells #[.int .u64 a1_0, .int .u32 a1_1, .slice A1_2 l1_2.length c1_2, .int .i64 a1_3] 43 (0, 0)) (by (with_reducible repeat (first | refine zh ?_ _ | refine zj ?_ | refine zi ?_ _)); exact BK565.out) hb); have n5_ := zm (zF (g := gb573) (o := .cells #[.int .u64 t567, .int .u32 t568, .slice Ao28 t569.length co28] 26 (0, 0)) (by (with_reducible repeat (first | refine zh ?_ _ | refine zj ?_ | refine zi ?_ _)); exact BK573.out) hb); have n6_ := zm (zJ (by repeat (first | (with_reducible first | exact HB.out | apply ze | apply zd | apply zf | refine zk ?_ GE564.out | refine zk ?_ GE565.out | refine zk ?_ GE573.out) | exact HB.out)) hb); clear HO571; clear HO577; clear BK564; clear BK565; clear BK573; clear HB; have HO571 := n0_; have HO577 := n1_; have HO581 := n2_; have BK564 := n3_; have BK565 := n4_; have BK573 := n5_; have HB := n6_; clear n0_ n1_ n2_ n3_ n4_ n5_ n6_; (try clear hb); (try clear hb2); (try clear hk); (try clear hi); (try clear ho0)) | ((with_reducible refine gate_dst (N := 11) rfl ?_); (try (refine gate_guard (by rfl) ?_; dsimp only)); refine box_event ?hg (N := 11) ?hd (cs := #[.int .u64 0, .slice none 0 0]) (t := 33) ?hr ?_; (case hd => rfl); (case hg => rfl); (case hr => first | (go_simp; done) | (go_simp; rfl)); intro gb583 hg w33 hbox hb; have n0_ := zm (Kd.R_below (by (with_reducible repeat (first | apply zo | apply zp | apply zq)); exact HO571.out) hb); have n1_ := zm (Kd.R_below (by (with_reducible repeat (first | apply zo | apply zp | apply zq)); exact HO577.out) hb); have n2_ := zm (Kd.V_below (Kd.V_elderB (by (with_reducible repeat (first | apply zA | apply zB | apply zC)); exact HO581.out) gb583 (Nat.le_of_eq hg.symm)) hb); have n3_ := zm (zF (g := gb564) (o := .cells #[.int .u64 a0_0, .int .u32 a0_1, .slice A0_2 l0_2.length c0_2] 26 (0, 0)) (by (with_reducible repeat (first | refine zh ?_ _ | refine zj ?_ | refine zi ?_ _)); exact BK564.out) hb); have n4_ := zm (zF (g := gb565) (o := .cells #[.int .u64 a1_0, .int .u32 a1_1, .slice A1_2 l1_2.length c1_2, .int .i64 a1_3] 43 (0, 0)) (by (with_reducible repeat (first | refine zh ?_ _ | refine zj ?_ | refine zi ?_ _)); exact BK565.out) hb); have n5_ := zm (zF (g := gb573) (o := .cells #[.int .u64 t567, .int .u32 t568, .slice Ao28 t569.length co28] 26 (0, 0)) (by (with_reducible repeat (first | refine zh ?_ _ | refine zj ?_ | refine zi ?_ _)); exact BK573.out) hb); have n6_ := zm (zJ (by repeat (first | (with_reducible first | exact HB.out | apply ze | apply zd | apply zf | refine zk ?_ GE564.out | refine zk ?_ GE565.out | refine zk ?_ GE573.out) | exact HB.out)) hb); have n7_ := zm (hbox); have n8_ := zm ((by rw [hg]; exact (zE (by repeat (first | (with_reducible first | exact HB.out | apply ze | apply zd | apply zf | refine zk ?_ GE564.out | refine zk ?_ GE565.out | refine zk ?_ GE573.out) | exact HB.out))) : w.heap.size ≤ gb583)); have n9_ := zm ((by rw [hg]; exact (zE (by repeat (first | (with_reducible first | exact HB.out | apply ze | apply zd | apply zf | refine zk ?_ GE564.out | refine zk ?_ GE565.out | refine zk ?_ GE573.out) | exact HB.out))) : w.heap.size ≤ gb583)); have n10_ := zm ((by rw [hg]; exact zn (zD (g := gb564) (o := .cells #[.int .u64 a0_0, .int .u32 a0_1, .slice A0_2 l0_2.length c0_2] 26 (0, 0)) (by (with_reducible repeat (first | refine zh ?_ _ | refine zj ?_ | refine zi ?_ _)); exact BK564.out)) : gb564 ≠ gb583)); have n11_ := zm ((by rw [hg]; exact zg (zD (g := gb564) (o := .cells #[.int .u64 a0_0, .int .u32 a0_1, .slice A0_2 l0_2.length c0_2] 26 (0, 0)) (by (with_reducible repeat (first | refine zh ?_ _ | refine zj ?_ | refine zi ?_ _)); exact BK564.out)) : gb583 ≠ gb564)); have n12_ := zm ((by rw [hg]; exact zn (zD (g := gb565) (o := .cells #[.int .u64 a1_0, .int .u32 a1_1, .slice A1_2 l1_2.length c1_2, .int .i64 a1_3] 43 (0, 0)) (by (with_reducible repeat (first | refine zh ?_ _ | refine zj ?_ | refine zi ?_ _)); exact BK565.out)) : gb565 ≠ gb583)); have n13_ := zm ((by rw [hg]; exact zg (zD (g := gb565) (o := .cells #[.int .u64 a1_0, .int .u32 a1_1, .slice A1_2 l1_2.length c1_2, .int .i64 a1_3] 43 (0, 0)) (by (with_reducible repeat (first | refine zh ?_ _ | refine zj ?_ | refine zi ?_ _)); exact BK565.out)) : gb583 ≠ gb565)); have n14_ := zm ((by rw [hg]; exact zn (zD (g := gb573) (o := .cells #[.int .u64 t567, .int .u32 t568, .slice Ao28 t569.length co28] 26 (0, 0)) (by (with_reducible repeat (first | refine zh ?_ _ | refine zj ?_ | refine zi ?_ _)); exact BK573.out)) : gb573 ≠ gb583)); have n15_ := zm ((by rw [hg]; exact zg (zD (g := gb573) (o := .cells #[.int .u64 t567, .int .u32 t568, .slice Ao28 t569.length co28] 26 (0, 0)) (by (with_reducible repeat (first | refine zh ?_ _ | refine zj ?_ | refine zi ?_ _)); exact BK573.out)) : gb583 ≠ gb573)); clear HO571; clear HO577; clear HO581; clear BK564; clear BK565; clear BK573; clear HB; have HO571 := n0_; have HO577 := n1_; have HO581 := n2_; have BK564 := n3_; have BK565 := n4_; have BK573 := n5_; have HB := n6_; have BK583 := n7_; have GW583 := n8_; have GE583 := n9_; have NB564_583 := n10_; have NB583_564 := n11_; have NB565_583 := n12_; have NB583_565 := n13_; have NB573_583 := n14_; have NB583_573 := n15_; clear n0_ n1_ n2_ n3_ n4_ n5_ n6_ n7_ n8_ n9_ n10_ n11_ n12_ n13_ n14_ n15_; clear hb hbox hg; have hnb34 := NB583_564.out; have hnc34 := NB564_583.out; have hnb35 := NB583_565.out; have hnc35 := NB565_583.out; have hnb36 := NB583_573.out; have hnc36 := NB573_583.out; have hcz37_0 : w33.cell? ⟨gb583, 0, none⟩ = some (.int .u64 0) := (zs BK583.out 0).trans rfl; have hcz37_1 : w33.cell? ⟨gb583, 1, none⟩ = some (.slice none 0 0) := (zs BK583.out 1).trans rfl; have hfz37_0 := zx BK583.out 0; have hfz37_1 := zx BK583.out 1; obtain ⟨Ao38, co38, eo38⟩ := Kd.V_slice HO581.out; subst eo38))
    (try simp only [Act.put, List.setIfInBounds_toArray, List.set_cons_zero, List.set_cons_succ])
    go_cut [52] (fun v52 wc => ∃ (kq : Nat) (x52_19 : Bool), v52 = .bool x52_19 ∧ Aside0 (psalterylaw05_CoderNums.j1 kq a3 x52_19 a1_0 a1_1 l1_2 a1_3 = some r) ∧ Aside0 (kq ≤ kj4) ∧ Aside0 (Kd.R (Kd.int .u8) 5 wc w.heap.size (fun _ => True) (.slice Ao28 t569.length co28) t569) ∧ Aside0 (Kd.V (Kd.int .i64) 3 wc w.heap.size (fun k_ => some k_ ≠ ((.slice Ao28 t569.length co28) : Value).ownBlock ∧ k_ ≠ gb564 ∧ k_ ≠ gb565 ∧ k_ ≠ gb573 ∧ k_ ≠ gb583) (.slice Ao38 t579.length co38) t579) ∧ Aside0 (wc.heap[gb564]? = some (.cells #[.int .u64 a0_0, .int .u32 a0_1, (.slice A0_2 l0_2.length c0_2)] 26 (0, 0))) ∧ Aside0 (wc.heap[gb565]? = some (.cells #[.int .u64 a1_0, .int .u32 a1_1, (.slice A1_2 l1_2.length c1_2), .int .i64 a1_3] 43 (0, 0))) ∧ Aside0 (wc.heap[gb573]? = some (.cells #[.int .u64 t567, .int .u32 t568, (.slice Ao28 t569.length co28)] 26 (0, 0))) ∧ Aside0 (wc.heap[gb583]? = some (.cells #[.int .u64 t578, (.slice Ao38 t579.length co38)] 33 (0, 0))) ∧ Aside0 (Below w.heap.size w wc))
    case first =>
     have H := HC20.out
     clear HC20
     by_cases c39 : t572 = t582
     ·
      rw [if_pos c39] at H
      have c39b0 : (t572 == t582) = true := beq_iff_eq.mpr c39
      have c39b1 : (t572 != t582) = false := bne_eq_false_iff_eq.mpr c39
      clear c39
      (first | rw [c39b0] | (simp only [i64_w, i32_w]; rw [c39b0]) | skip)
      replace H := Option.bind_eq_some_iff.mp H
      obtain ⟨t584, A400, H⟩ := H
      replace H : (psalterylaw05_CoderNums.j1 kj4 a3 (!t584) a1_0 a1_1 l1_2 a1_3) = some r := H
      have A40 := zm A400
      clear A400
      have H' := zm H
      clear H
      have hnb41 := NB573_564.out
      have hnc41 := NB564_573.out
      have hnb42 := NB573_565.out
      have hnc42 := NB565_573.out
      have hnb43 := NB573_583.out
      have hnc43 := NB583_573.out
      have hcz44_0 : w33.cell? ⟨gb573, 0, none⟩ = some (.int .u64 t567) := (zs BK573.out 0).trans rfl
      have hcz44_1 : w33.cell? ⟨gb573, 1, none⟩ = some (.int .u32 t568) := (zs BK573.out 1).trans rfl
      have hcz44_2 : w33.cell? ⟨gb573, 2, none⟩ = some (.slice Ao28 t569.length co28) := (zs BK573.out 2).trans rfl
      have hfz44_0 := zx BK573.out 0
      have hfz44_1 := zx BK573.out 1
      have hfz44_2 := zx BK573.out 2
      have hnb45 := NB583_564.out
      have hnc45 := NB564_583.out
      have hnb46 := NB583_565.out
      have hnc46 := NB565_583.out
      have hcz47_0 : w33.cell? ⟨gb583, 0, none⟩ = some (.int .u64 0) := (zs BK583.out 0).trans rfl
      have hcz47_1 : w33.cell? ⟨gb583, 1, none⟩ = some (.slice none 0 0) := (zs BK583.out 1).trans rfl
      have hfz47_0 := zx BK583.out 0
      have hfz47_1 := zx BK583.out 1
      go_wp2_with (first | (go_at_call 23; (with_reducible refine (psalterylaw05_SameEnc.calls kj4 t567 t568 _ _ t569 t578 _ _ t579 t584 _ ?side1 ?side2 ?side3 ?side4 A40.out).mono ?_); (case side1 => refine (Kd.R_reads' (e := 5) (base := w.heap.size) (ok := fun k_ => True) (n := t569.length) (c := co28) ?_).2.2; exact (by (with_reducible repeat (first | apply zo | apply zp | apply zq)); exact (zG (zH (p := ⟨gb583, 1, none⟩) (zH (p := ⟨gb583, 0, none⟩) (Kd.R_types HO571.out BK583.out (by decide)) (fun _ hk => hk.2) (.int .u64 t578)) (fun _ hk => hk.2) (.slice Ao38 t579.length co38)) (fun _ h_ => h_.1)))); (case side2 => exact (Kd.R_reads' HO571.out).2.1); (case side3 => refine (Kd.V_reads' (e := 3) (base := w.heap.size) (ok := fun k_ => ((some k_ ≠ (.slice Ao28 t569.length co28 : Value).ownBlock ∧ (k_ ≠ gb564 ∧ (k_ ≠ gb565 ∧ k_ ≠ gb573))) ∧ k_ ≠ gb583)) (n := t579.length) (c := co38) ?_).2.2; exact (by (with_reducible repeat (first | apply zA | apply zB | apply zC)); exact (zy (zI (p := ⟨gb583, 1, none⟩) (zI (p := ⟨gb583, 0, none⟩) (zy HO581.out (fun k_ hk => (⟨hk, hk.2⟩ : _ ∧ k_ ≠ gb583))) (fun _ hk => hk.2) (.int .u64 t578)) (fun _ hk => hk.2) (.slice Ao38 t579.length co38)) (fun _ h_ => h_.1)))); (case side4 => exact (Kd.V_reads' HO581.out).2.1); rintro e w48 ⟨rfl, hb⟩; have n0_ := zm (Kd.R_below (by (with_reducible repeat (first | apply zo | apply zp | apply zq)); exact (zG (zH (p := ⟨gb583, 1, none⟩) (zH (p := ⟨gb583, 0, none⟩) (Kd.R_types HO571.out BK583.out (by decide)) (fun _ hk => hk.2) (.int .u64 t578)) (fun _ hk => hk.2) (.slice Ao38 t579.length co38)) (fun _ h_ => h_.1))) hb); have n1_ := zm (Kd.R_below (by (with_reducible repeat (first | apply zo | apply zp | apply zq)); exact (zG (zH (p := ⟨gb583, 1, none⟩) (zH (p := ⟨gb583, 0, none⟩) (Kd.R_types HO577.out BK583.out (by decide)) (fun _ hk => hk.2) (.int .u64 t578)) (fun _ hk => hk.2) (.slice Ao38 t579.length co38)) (fun _ h_ => h_.1))) hb); have n2_ := zm (Kd.V_below (by (with_reducible repeat (first | apply zA | apply zB | apply zC)); exact (zy (zI (p := ⟨gb583, 1, none⟩) (zI (p := ⟨gb583, 0, none⟩) (zy HO581.out (fun k_ hk => (⟨hk, hk.2⟩ : _ ∧ k_ ≠ gb583))) (fun _ hk => hk.2) (.int .u64 t578)) (fun _ hk => hk.2) (.slice Ao38 t579.length co38)) (fun _ h_ => h_.1))) hb); have n3_ := zm (zF (g := gb564) (o := .cells #[.int .u64 a0_0, .int .u32 a0_1, .slice A0_2 l0_2.length c0_2] 26 (0, 0)) (by (with_reducible repeat (first | refine zh ?_ _ | refine zj ?_ | refine zi ?_ _)); refine zv ?_ NB564_583.out _; (with_reducible repeat (first | refine zh ?_ _ | refine zj ?_ | refine zi ?_ _)); refine zv ?_ NB564_583.out _; (with_reducible repeat (first | refine zh ?_ _ | refine zj ?_ | refine zi ?_ _)); exact BK564.out) hb); have n4_ := zm (zF (g := gb565) (o := .cells #[.int .u64 a1_0, .int .u32 a1_1, .slice A1_2 l1_2.length c1_2, .int .i64 a1_3] 43 (0, 0)) (by (with_reducible repeat (first | refine zh ?_ _ | refine zj ?_ | refine zi ?_ _)); refine zv ?_ NB565_583.out _; (with_reducible repeat (first | refine zh ?_ _ | refine zj ?_ | refine zi ?_ _)); refine zv ?_ NB565_583.out _; (with_reducible repeat (first | refine zh ?_ _ | refine zj ?_ | refine zi ?_ _)); exact BK565.out) hb); have n5_ := zm (zF (g := gb573) (o := .cells #[.int .u64 t567, .int .u32 t568, .slice Ao28 t569.length co28] 26 (0, 0)) (by (with_reducible repeat (first | refine zh ?_ _ | refine zj ?_ | refine zi ?_ _)); refine zv ?_ NB573_583.out _; (with_reducible repeat (first | refine zh ?_ _ | refine zj ?_ | refine zi ?_ _)); refine zv ?_ NB573_583.out _; (with_reducible repeat (first | refine zh ?_ _ | refine zj ?_ | refine zi ?_ _)); exact BK573.out) hb); have n6_ := zm (zF (g := gb583) (o := .cells #[.int .u64 t578, .slice Ao38 t579.length co38] 33 (0, 0)) (by (with_reducible repeat (first | refine zh ?_ _ | refine zj ?_ | refine zi ?_ _)); refine zw (cs := #[.int .u64 t578, .slice none 0 0]) ?_ 1 _ rfl; (with_reducible repeat (first | refine zh ?_ _ | refine zj ?_ | refine zi ?_ _)); refine zw (cs := #[.int .u64 0, .slice none 0 0]) ?_ 0 _ rfl; (with_reducible repeat (first | refine zh ?_ _ | refine zj ?_ | refine zi ?_ _)); exact BK583.out) hb); have n7_ := zm (zJ (by repeat (first | (with_reducible first | exact HB.out | apply ze | apply zd | apply zf | refine zk ?_ GE564.out | refine zk ?_ GE565.out | refine zk ?_ GE573.out | refine zk ?_ GE583.out) | exact HB.out)) hb); clear HO571; clear HO577; clear HO581; clear BK564; clear BK565; clear BK573; clear BK583; clear HB; have HO571 := n0_; have HO577 := n1_; have HO581 := n2_; have BK564 := n3_; have BK565 := n4_; have BK573 := n5_; have BK583 := n6_; have HB := n7_; clear n0_ n1_ n2_ n3_ n4_ n5_ n6_ n7_; (try clear hb); (try clear hb2); (try clear hk); (try clear hi)))
      go_meet
      case rel => exact ⟨_, (!t584), (by first | rfl | (simp; done) | (simp [*]; done)), H', ⟨by have := HJ4.out; first | omega | exact Nat.le_refl _⟩, ⟨by (with_reducible repeat (first | apply zo | apply zp | apply zq)); exact HO571.out⟩, ⟨by (with_reducible repeat (first | apply zA | apply zB | apply zC)); exact zy HO581.out (fun _ hk => ⟨hk.1.1, ⟨hk.1.2.1, ⟨hk.1.2.2.1, ⟨hk.1.2.2.2, hk.2⟩⟩⟩⟩)⟩, ⟨by (with_reducible repeat (first | refine zh ?_ _ | refine zj ?_ | refine zi ?_ _)); exact BK564.out⟩, ⟨by (with_reducible repeat (first | refine zh ?_ _ | refine zj ?_ | refine zi ?_ _)); exact BK565.out⟩, ⟨by (with_reducible repeat (first | refine zh ?_ _ | refine zj ?_ | refine zi ?_ _)); exact BK573.out⟩, ⟨by (with_reducible repeat (first | refine zh ?_ _ | refine zj ?_ | refine zi ?_ _)); exact BK583.out⟩, ⟨by repeat (first | (with_reducible first | exact HB.out | apply ze | apply zd | apply zf | refine zk ?_ GE564.out | refine zk ?_ GE565.out | refine zk ?_ GE573.out | refine zk ?_ GE583.out) | exact HB.out)⟩⟩
     ·
      rw [if_neg c39] at H
      have c39b0 : (t572 == t582) = false := beq_eq_false_iff_ne.mpr c39
      have c39b1 : (t572 != t582) = true := bne_iff_ne.mpr c39
      (first | rw [c39b0] | (simp only [i64_w, i32_w]; rw [c39b0]) | skip)
      have H' := zm H
      clear H
      go_wp2
      go_meet
      case rel => exact ⟨_, (true), (by first | rfl | (simp; done) | (simp [*]; done)), H', ⟨by have := HJ4.out; first | omega | exact Nat.le_refl _⟩, ⟨by (with_reducible repeat (first | apply zo | apply zp | apply zq)); exact zG (zH (p := ⟨gb583, 1, none⟩) (zH (p := ⟨gb583, 0, none⟩) (Kd.R_types HO571.out BK583.out (by decide)) (fun _ hk => hk.2) (.int .u64 t578)) (fun _ hk => hk.2) (.slice Ao38 t579.length co38)) (fun _ hk => trivial)⟩, ⟨by (with_reducible repeat (first | apply zA | apply zB | apply zC)); exact zy (zI (p := ⟨gb583, 1, none⟩) (zI (p := ⟨gb583, 0, none⟩) (zy HO581.out (fun k_ hk => (⟨hk, hk.2⟩ : _ ∧ k_ ≠ gb583))) (fun _ hk => hk.2) (.int .u64 t578)) (fun _ hk => hk.2) (.slice Ao38 t579.length co38)) (fun _ hk => ⟨hk.1.1.1, ⟨hk.1.1.2.1, ⟨hk.1.1.2.2.1, ⟨hk.1.1.2.2.2, hk.1.2⟩⟩⟩⟩)⟩, ⟨by (with_reducible repeat (first | refine zh ?_ _ | refine zj ?_ | refine zi ?_ _)); refine zv ?_ NB564_583.out _; (with_reducible repeat (first | refine zh ?_ _ | refine zj ?_ | refine zi ?_ _)); refine zv ?_ NB564_583.out _; (with_reducible repeat (first | refine zh ?_ _ | refine zj ?_ | refine zi ?_ _)); exact BK564.out⟩, ⟨by (with_reducible repeat (first | refine zh ?_ _ | refine zj ?_ | refine zi ?_ _)); refine zv ?_ NB565_583.out _; (with_reducible repeat (first | refine zh ?_ _ | refine zj ?_ | refine zi ?_ _)); refine zv ?_ NB565_583.out _; (with_reducible repeat (first | refine zh ?_ _ | refine zj ?_ | refine zi ?_ _)); exact BK565.out⟩, ⟨by (with_reducible repeat (first | refine zh ?_ _ | refine zj ?_ | refine zi ?_ _)); refine zv ?_ NB573_583.out _; (with_reducible repeat (first | refine zh ?_ _ | refine zj ?_ | refine zi ?_ _)); refine zv ?_ NB573_583.out _; (with_reducible repeat (first | refine zh ?_ _ | refine zj ?_ | refine zi ?_ _)); exact BK573.out⟩, ⟨by (with_reducible repeat (first | refine zh ?_ _ | refine zj ?_ | refine zi ?_ _)); refine zw (cs := #[.int .u64 t578, .slice none 0 0]) ?_ 1 _ rfl; (with_reducible repeat (first | refine zh ?_ _ | refine zj ?_ | refine zi ?_ _)); refine zw (cs := #[.int .u64 0, .slice none 0 0]) ?_ 0 _ rfl; (with_reducible repeat (first | refine zh ?_ _ | refine zj ?_ | refine zi ?_ _)); exact BK583.out⟩, ⟨by repeat (first | (with_reducible first | exact HB.out | apply ze | apply zd | apply zf | refine zk ?_ GE564.out | refine zk ?_ GE565.out | refine zk ?_ GE573.out | refine zk ?_ GE583.out) | exact HB.out)⟩⟩
    case rest =>
     clear HC20
     try clear c1
     try clear c2
     try clear p2
     try clear c3
     try clear c4
     try clear c8
     try clear c8b0
     try clear c8b1
     try clear c9
     try clear c11
     try clear c14
     try clear c17
     try clear c20
     try clear c21
     try clear c25
     try clear c26
     try clear c34
     try clear c35
     try clear c36
     try clear c37
     try clear c38
     try clear c39
     try clear c39b0
     try clear c39b1
     try clear c41
     try clear c42
     try clear c43
     try clear c45
     try clear c46
     try clear hcz10_0
     try clear hcz10_1
     try clear hcz10_2
     try clear hcz12_0
     try clear hcz12_1
     try clear hcz12_2
     try clear hcz13_0
     try clear hcz13_1
     try clear hcz13_2
     try clear hcz13_3
     try clear hcz22_0
     try clear hcz22_1
     try clear hcz22_2
     try clear hcz27_0
     try clear hcz27_1
     try clear hcz27_2
     try clear hcz29_0
     try clear hcz29_1
     try clear hcz29_2
     try clear hcz37_0
     try clear hcz37_1
     try clear hcz44_0
     try clear hcz44_1
     try clear hcz44_2
     try clear hcz47_0
     try clear hcz47_1
     try clear hfz10_0
     try clear hfz10_1
     try clear hfz10_2
     try clear hfz12_0
     try clear hfz12_1
     try clear hfz12_2
     try clear hfz13_0
     try clear hfz13_1
     try clear hfz13_2
     try clear hfz13_3
     try clear hfz22_0
     try clear hfz22_1
     try clear hfz22_2
     try clear hfz27_0
     try clear hfz27_1
     try clear hfz27_2
     try clear hfz29_0
     try clear hfz29_1
     try clear hfz29_2
     try clear hfz37_0
     try clear hfz37_1
     try clear hfz44_0
     try clear hfz44_1
     try clear hfz44_2
     try clear hfz47_0
     try clear hfz47_1
     try clear p2
     obtain ⟨kq, x52_19, rfl, HA, HJ19, HO_574002, HO_584001, BK564, BK565, BK573, BK583, HB⟩ := hcut
     cases kq with
     | zero => exact absurd HA.out (by simp [psalterylaw05_CoderNums.j1])
     | succ kj19 =>
      have H := HA.out
      clear HA
      simp only [psalterylaw05_CoderNums.j1] at H
      by_cases c49 : x52_19 = true
      ·
       subst c49
       have H1 : (none) = some r := by rw [if_pos rfl] at H; exact H
       clear H
       have H := H1
       clear H1
       exact absurd H (by simp)
      ·
       replace c49 := Bool.eq_false_iff.mpr c49
       subst c49
       have H1 : ((coder_TakeNum.f kj19 a1_0 a1_1 l1_2 a1_3 a3).bind fun bt585 => (if a3 = 0 then (psalterylaw05_CoderNums.j2 kj19 a3 bt585.2.2.2.2.1 bt585.2.2.2.2.2 true a1_0 a1_1 l1_2 a1_3 bt585.1 bt585.2.1 bt585.2.2.1 bt585.2.2.2.1) else (psalterylaw05_CoderNums.j2 kj19 a3 bt585.2.2.2.2.1 bt585.2.2.2.2.2 (decide (a3 > 4294967296)) a1_0 a1_1 l1_2 a1_3 bt585.1 bt585.2.1 bt585.2.2.1 bt585.2.2.2.1))) = some r := by rw [if_neg (show ¬ (false = true) by decide)] at H; exact H
       clear H
       have H := H1
       clear H1
       replace H := Option.bind_eq_some_iff.mp H
       obtain ⟨⟨t585, t586, t587, t590, t591, t592⟩, A500, H⟩ := H
       replace H : (if a3 = 0 then (psalterylaw05_CoderNums.j2 kj19 a3 t591 t592 true a1_0 a1_1 l1_2 a1_3 t585 t586 t587 t590) else (psalterylaw05_CoderNums.j2 kj19 a3 t591 t592 (decide (a3 > 4294967296)) a1_0 a1_1 l1_2 a1_3 t585 t586 t587 t590)) = some r := H
       have A50 := zm A500
       clear A500
       have HC51 := zm H
       clear H
       have hnb52 := NB565_564.out
       have hnc52 := NB564_565.out
       have hnb53 := NB565_573.out
       have hnc53 := NB573_565.out
       have hnb54 := NB565_583.out
       have hnc54 := NB583_565.out
       have hcz55_0 : wc.cell? ⟨gb565, 0, none⟩ = some (.int .u64 a1_0) := (zs BK565.out 0).trans rfl
       have hcz55_1 : wc.cell? ⟨gb565, 1, none⟩ = some (.int .u32 a1_1) := (zs BK565.out 1).trans rfl
       have hcz55_2 : wc.cell? ⟨gb565, 2, none⟩ = some (.slice A1_2 l1_2.length c1_2) := (zs BK565.out 2).trans rfl
       have hcz55_3 : wc.cell? ⟨gb565, 3, none⟩ = some (.int .i64 a1_3) := (zs BK565.out 3).trans rfl
       have hfz55_0 := zx BK565.out 0
       have hfz55_1 := zx BK565.out 1
       have hfz55_2 := zx BK565.out 2
       have hfz55_3 := zx BK565.out 3
       go_upto_region 8 with (first | ((with_reducible refine gate_callee (f := 39) rfl ?_); refine goesL_ (some 56) rfl rfl Try.func39 (by kernel_rfl) rfl #[.agg #[.int .u64 a1_0, .int .u32 a1_1, .slice A1_2 l1_2.length c1_2, .int .i64 a1_3], .int .u64 a3] rfl (by (try simp only [List.map_toArray, List.map_cons, List.map_nil]); first | done | rfl | (simp only [List.length_drop, List.length_take]; rfl)) ?_; (with_reducible refine (coder_TakeNum.calls kj19 a1_0 a1_1 (fun k_ => k_ < w.heap.size) _ _ l1_2 a1_3 a3 t585 t586 t587 t590 t591 t592 _ ?side1 A50.out).mono ?_); (case side1 => exact Kd.V_mk HC1_2.out (Kd.F_below (Kd.C_F (Kd.heap_int .u8) HR1_2.out) (by repeat (first | (with_reducible first | exact HB.out | apply ze | apply zd | apply zf | refine zk ?_ GE564.out | refine zk ?_ GE565.out | refine zk ?_ GE573.out | refine zk ?_ GE583.out) | exact HB.out)))); rintro e w56 ⟨v588, rfl, ho0, hb⟩; refine ⟨_, rfl, ?_⟩; have n0_ := zm (Kd.R_below (by (with_reducible repeat (first | apply zo | apply zp | apply zq)); exact HO_574002.out) hb); have n1_ := zm (Kd.V_below (by (with_reducible repeat (first | apply zA | apply zB | apply zC)); exact HO_584001.out) hb); have n2_ := zm (Kd.V_lower (zy (ok' := fun k_ => some k_ ≠ (.slice Ao28 t569.length co28 : Value).ownBlock ∧ k_ ≠ gb564 ∧ k_ ≠ gb565 ∧ k_ ≠ gb573 ∧ k_ ≠ gb583) ho0 (fun k_ hk_ => ⟨Or.elim hk_ (fun hs_ => fun e_ => Nat.not_le.2 hs_ (Kd.R_base HO_574002.out k_ e_.symm)) (fun hn_ => (Kd.fresh' (Kd.R_lt (by (with_reducible repeat (first | apply zo | apply zp | apply zq)); exact HO_574002.out)) k_ hn_)), Or.elim hk_ (fun hs_ => fun e_ => Nat.not_le.2 hs_ (by rw [e_]; exact GW564.out)) (fun hn_ => (Kd.freshB (g := gb564) (o := .cells #[.int .u64 a0_0, .int .u32 a0_1, .slice A0_2 l0_2.length c0_2] 26 (0, 0)) (by (with_reducible repeat (first | refine zh ?_ _ | refine zj ?_ | refine zi ?_ _)); exact BK564.out) k_ hn_)), Or.elim hk_ (fun hs_ => fun e_ => Nat.not_le.2 hs_ (by rw [e_]; exact GW565.out)) (fun hn_ => (Kd.freshB (g := gb565) (o := .cells #[.int .u64 a1_0, .int .u32 a1_1, .slice A1_2 l1_2.length c1_2, .int .i64 a1_3] 43 (0, 0)) (by (with_reducible repeat (first | refine zh ?_ _ | refine zj ?_ | refine zi ?_ _)); exact BK565.out) k_ hn_)), Or.elim hk_ (fun hs_ => fun e_ => Nat.not_le.2 hs_ (by rw [e_]; exact GW573.out)) (fun hn_ => (Kd.freshB (g := gb573) (o := .cells #[.int .u64 t567, .int .u32 t568, .slice Ao28 t569.length co28] 26 (0, 0)) (by (with_reducible repeat (first | refine zh ?_ _ | refine zj ?_ | refine zi ?_ _)); exact BK573.out) k_ hn_)), Or.elim hk_ (fun hs_ => fun e_ => Nat.not_le.2 hs_ (by rw [e_]; exact GW583.out)) (fun hn_ => (Kd.freshB (g := gb583) (o := .cells #[.int .u64 t578, .slice Ao38 t579.length co38] 33 (0, 0)) (by (with_reducible repeat (first | refine zh ?_ _ | refine zj ?_ | refine zi ?_ _)); exact BK583.out) k_ hn_))⟩)) (zE (by repeat (first | (with_reducible first | exact HB.out | apply ze | apply zd | apply zf | refine zk ?_ GE564.out | refine zk ?_ GE565.out | refine zk ?_ GE573.out | refine zk ?_ GE583.out) | exact HB.out)))); have n3_ := zm (zF (g := gb564) (o := .cells #[.int .u64 a0_0, .int .u32 a0_1, .slice A0_2 l0_2.length c0_2] 26 (0, 0)) (by (with_reducible repeat (first | refine zh ?_ _ | refine zj ?_ | refine zi ?_ _)); exact BK564.out) hb); have n4_ := zm (zF (g := gb565) (o := .cells #[.int .u64 a1_0, .int .u32 a1_1, .slice A1_2 l1_2.length c1_2, .int .i64 a1_3] 43 (0, 0)) (by (with_reducible repeat (first | refine zh ?_ _ | refine zj ?_ | refine zi ?_ _)); exact BK565.out) hb); have n5_ := zm (zF (g := gb573) (o := .cells #[.int .u64 t567, .int .u32 t568, .slice Ao28 t569.length co28] 26 (0, 0)) (by (with_reducible repeat (first | refine zh ?_ _ | refine zj ?_ | refine zi ?_ _)); exact BK573.out) hb); have n6_ := zm (zF (g := gb583) (o := .cells #[.int .u64 t578, .slice Ao38 t579.length co38] 33 (0, 0)) (by (with_reducible repeat (first | refine zh ?_ _ | refine zj ?_ | refine zi ?_ _)); exact BK583.out) hb); have n7_ := zm (zJ (by repeat (first | (with_reducible first | exact HB.out | apply ze | apply zd | apply zf | refine zk ?_ GE564.out | refine zk ?_ GE565.out | refine zk ?_ GE573.out | refine zk ?_ GE583.out) | exact HB.out)) hb); clear HO_574002; clear HO_584001; clear BK564; clear BK565; clear BK573; clear BK583; clear HB; have HO_574002 := n0_; have HO_584001 := n1_; have HO589 := n2_; have BK564 := n3_; have BK565 := n4_; have BK573 := n5_; have BK583 := n6_; have HB := n7_; clear n0_ n1_ n2_ n3_ n4_ n5_ n6_ n7_; (try clear hb); (try clear hb2); (try clear hk); (try clear hi); (try clear ho0)) | ((with_reducible refine gate_dst (N := 13) rfl ?_); (try (refine gate_guard (by rfl) ?_; dsimp only)); refine box_event ?hg (N := 13) ?hd (cs := #[.int .u64 0, .int .u32 0, .slice none 0 0, .int .i64 0]) (t := 43) ?hr ?_; (case hd => rfl); (case hg => rfl); (case hr => first | (go_simp; done) | (go_simp; rfl)); intro gb593 hg w57 hbox hb; have n0_ := zm (Kd.R_below (by (with_reducible repeat (first | apply zo | apply zp | apply zq)); exact HO_574002.out) hb); have n1_ := zm (Kd.V_below (Kd.V_elderB (by (with_reducible repeat (first | apply zA | apply zB | apply zC)); exact HO_584001.out) gb593 (Nat.le_of_eq hg.symm)) hb); have n2_ := zm (Kd.V_below (Kd.V_elderB (by (with_reducible repeat (first | apply zA | apply zB | apply zC)); exact HO589.out) gb593 (Nat.le_of_eq hg.symm)) hb); have n3_ := zm (zF (g := gb564) (o := .cells #[.int .u64 a0_0, .int .u32 a0_1, .slice A0_2 l0_2.length c0_2] 26 (0, 0)) (by (with_reducible repeat (first | refine zh ?_ _ | refine zj ?_ | refine zi ?_ _)); exact BK564.out) hb); have n4_ := zm (zF (g := gb565) (o := .cells #[.int .u64 a1_0, .int .u32 a1_1, .slice A1_2 l1_2.length c1_2, .int .i64 a1_3] 43 (0, 0)) (by (with_reducible repeat (first | refine zh ?_ _ | refine zj ?_ | refine zi ?_ _)); exact BK565.out) hb); have n5_ := zm (zF (g := gb573) (o := .cells #[.int .u64 t567, .int .u32 t568, .slice Ao28 t569.length co28] 26 (0, 0)) (by (with_reducible repeat (first | refine zh ?_ _ | refine zj ?_ | refine zi ?_ _)); exact BK573.out) hb); have n6_ := zm (zF (g := gb583) (o := .cells #[.int .u64 t578, .slice Ao38 t579.length co38] 33 (0, 0)) (by (with_reducible repeat (first | refine zh ?_ _ | refine zj ?_ | refine zi ?_ _)); exact BK583.out) hb); have n7_ := zm (zJ (by repeat (first | (with_reducible first | exact HB.out | apply ze | apply zd | apply zf | refine zk ?_ GE564.out | refine zk ?_ GE565.out | refine zk ?_ GE573.out | refine zk ?_ GE583.out) | exact HB.out)) hb); have n8_ := zm (hbox); have n9_ := zm ((by rw [hg]; exact (zE (by repeat (first | (with_reducible first | exact HB.out | apply ze | apply zd | apply zf | refine zk ?_ GE564.out | refine zk ?_ GE565.out | refine zk ?_ GE573.out | refine zk ?_ GE583.out) | exact HB.out))) : w.heap.size ≤ gb593)); have n10_ := zm ((by rw [hg]; exact (zE (by repeat (first | (with_reducible first | exact HB.out | apply ze | apply zd | apply zf | refine zk ?_ GE564.out | refine zk ?_ GE565.out | refine zk ?_ GE573.out | refine zk ?_ GE583.out) | exact HB.out))) : w.heap.size ≤ gb593)); have n11_ := zm ((by rw [hg]; exact zn (zD (g := gb564) (o := .cells #[.int .u64 a0_0, .int .u32 a0_1, .slice A0_2 l0_2.length c0_2] 26 (0, 0)) (by (with_reducible repeat (first | refine zh ?_ _ | refine zj ?_ | refine zi ?_ _)); exact BK564.out)) : gb564 ≠ gb593)); have n12_ := zm ((by rw [hg]; exact zg (zD (g := gb564) (o := .cells #[.int .u64 a0_0, .int .u32 a0_1, .slice A0_2 l0_2.length c0_2] 26 (0, 0)) (by (with_reducible repeat (first | refine zh ?_ _ | refine zj ?_ | refine zi ?_ _)); exact BK564.out)) : gb593 ≠ gb564)); have n13_ := zm ((by rw [hg]; exact zn (zD (g := gb565) (o := .cells #[.int .u64 a1_0, .int .u32 a1_1, .slice A1_2 l1_2.length c1_2, .int .i64 a1_3] 43 (0, 0)) (by (with_reducible repeat (first | refine zh ?_ _ | refine zj ?_ | refine zi ?_ _)); exact BK565.out)) : gb565 ≠ gb593)); have n14_ := zm ((by rw [hg]; exact zg (zD (g := gb565) (o := .cells #[.int .u64 a1_0, .int .u32 a1_1, .slice A1_2 l1_2.length c1_2, .int .i64 a1_3] 43 (0, 0)) (by (with_reducible repeat (first | refine zh ?_ _ | refine zj ?_ | refine zi ?_ _)); exact BK565.out)) : gb593 ≠ gb565)); have n15_ := zm ((by rw [hg]; exact zn (zD (g := gb573) (o := .cells #[.int .u64 t567, .int .u32 t568, .slice Ao28 t569.length co28] 26 (0, 0)) (by (with_reducible repeat (first | refine zh ?_ _ | refine zj ?_ | refine zi ?_ _)); exact BK573.out)) : gb573 ≠ gb593)); have n16_ := zm ((by rw [hg]; exact zg (zD (g := gb573) (o := .cells #[.int .u64 t567, .int .u32 t568, .slice Ao28 t569.length co28] 26 (0, 0)) (by (with_reducible repeat (first | refine zh ?_ _ | refine zj ?_ | refine zi ?_ _)); exact BK573.out)) : gb593 ≠ gb573)); have n17_ := zm ((by rw [hg]; exact zn (zD (g := gb583) (o := .cells #[.int .u64 t578, .slice Ao38 t579.length co38] 33 (0, 0)) (by (with_reducible repeat (first | refine zh ?_ _ | refine zj ?_ | refine zi ?_ _)); exact BK583.out)) : gb583 ≠ gb593)); have n18_ := zm ((by rw [hg]; exact zg (zD (g := gb583) (o := .cells #[.int .u64 t578, .slice Ao38 t579.length co38] 33 (0, 0)) (by (with_reducible repeat (first | refine zh ?_ _ | refine zj ?_ | refine zi ?_ _)); exact BK583.out)) : gb593 ≠ gb583)); clear HO_574002; clear HO_584001; clear HO589; clear BK564; clear BK565; clear BK573; clear BK583; clear HB; have HO_574002 := n0_; have HO_584001 := n1_; have HO589 := n2_; have BK564 := n3_; have BK565 := n4_; have BK573 := n5_; have BK583 := n6_; have HB := n7_; have BK593 := n8_; have GW593 := n9_; have GE593 := n10_; have NB564_593 := n11_; have NB593_564 := n12_; have NB565_593 := n13_; have NB593_565 := n14_; have NB573_593 := n15_; have NB593_573 := n16_; have NB583_593 := n17_; have NB593_583 := n18_; clear n0_ n1_ n2_ n3_ n4_ n5_ n6_ n7_ n8_ n9_ n10_ n11_ n12_ n13_ n14_ n15_ n16_ n17_ n18_; clear hb hbox hg; have hnb58 := NB593_564.out; have hnc58 := NB564_593.out; have hnb59 := NB593_565.out; have hnc59 := NB565_593.out; have hnb60 := NB593_573.out; have hnc60 := NB573_593.out; have hnb61 := NB593_583.out; have hnc61 := NB583_593.out; have hcz62_0 : w57.cell? ⟨gb593, 0, none⟩ = some (.int .u64 0) := (zs BK593.out 0).trans rfl; have hcz62_1 : w57.cell? ⟨gb593, 1, none⟩ = some (.int .u32 0) := (zs BK593.out 1).trans rfl; have hcz62_2 : w57.cell? ⟨gb593, 2, none⟩ = some (.slice none 0 0) := (zs BK593.out 2).trans rfl; have hcz62_3 : w57.cell? ⟨gb593, 3, none⟩ = some (.int .i64 0) := (zs BK593.out 3).trans rfl; have hfz62_0 := zx BK593.out 0; have hfz62_1 := zx BK593.out 1; have hfz62_2 := zx BK593.out 2; have hfz62_3 := zx BK593.out 3; obtain ⟨Ao63, co63, eo63⟩ := Kd.V_slice HO589.out; subst eo63))
       (try simp only [Act.put, List.setIfInBounds_toArray, List.set_cons_zero, List.set_cons_succ])
       go_cut [65] (fun v65 wc => ∃ (kq : Nat) (x65_50 : Bool), v65 = .bool x65_50 ∧ Aside0 (psalterylaw05_CoderNums.j2 kq a3 t591 t592 x65_50 a1_0 a1_1 l1_2 a1_3 t585 t586 t587 t590 = some r) ∧ Aside0 (kq ≤ kj19) ∧ Aside0 (Kd.R (Kd.int .u8) 5 wc w.heap.size (fun _ => True) (.slice Ao28 t569.length co28) t569) ∧ Aside0 (Kd.V (Kd.int .i64) 3 wc w.heap.size (fun k_ => some k_ ≠ ((.slice Ao28 t569.length co28) : Value).ownBlock ∧ k_ ≠ gb564 ∧ k_ ≠ gb565 ∧ k_ ≠ gb573 ∧ k_ ≠ gb583 ∧ k_ ≠ gb593) (.slice Ao38 t579.length co38) t579) ∧ Aside0 (Kd.V (Kd.int .u8) 5 wc w.heap.size (fun k_ => some k_ ≠ ((.slice Ao28 t569.length co28) : Value).ownBlock ∧ k_ ≠ gb564 ∧ k_ ≠ gb565 ∧ k_ ≠ gb573 ∧ k_ ≠ gb583 ∧ k_ ≠ gb593) (.slice Ao63 t587.length co63) t587) ∧ Aside0 (wc.heap[gb564]? = some (.cells #[.int .u64 a0_0, .int .u32 a0_1, (.slice A0_2 l0_2.length c0_2)] 26 (0, 0))) ∧ Aside0 (wc.heap[gb565]? = some (.cells #[.int .u64 a1_0, .int .u32 a1_1, (.slice A1_2 l1_2.length c1_2), .int .i64 a1_3] 43 (0, 0))) ∧ Aside0 (wc.heap[gb573]? = some (.cells #[.int .u64 t567, .int .u32 t568, (.slice Ao28 t569.length co28)] 26 (0, 0))) ∧ Aside0 (wc.heap[gb583]? = some (.cells #[.int .u64 t578, (.slice Ao38 t579.length co38)] 33 (0, 0))) ∧ Aside0 (wc.heap[gb593]? = some (.cells #[.int .u64 t585, .int .u32 t586, (.slice Ao63 t587.length co63), .int .i64 t590] 43 (0, 0))) ∧ Aside0 (Below w.heap.size w wc))
       case first =>
        have H := HC51.out
        clear HC51
        by_cases c64 : a3 = 0
        ·
         rw [if_pos c64] at H
         have c64b0 : (a3 == 0) = true := beq_iff_eq.mpr c64
         have c64b1 : (a3 != 0) = false := bne_eq_false_iff_eq.mpr c64
         clear c64
         (first | rw [c64b0] | (simp only [i64_w, i32_w]; rw [c64b0]) | skip)
         have H' := zm H
         clear H
         go_wp2
         go_meet
         case rel => exact ⟨_, (true), (by first | rfl | (simp; done) | (simp [*]; done)), H', ⟨by have := HJ4.out; have := HJ19.out; first | omega | exact Nat.le_refl _⟩, ⟨by (with_reducible repeat (first | apply zo | apply zp | apply zq)); exact zG (zH (p := ⟨gb593, 3, none⟩) (zH (p := ⟨gb593, 2, none⟩) (zH (p := ⟨gb593, 1, none⟩) (zH (p := ⟨gb593, 0, none⟩) (Kd.R_types HO_574002.out BK593.out (by decide)) (fun _ hk => hk.2) (.int .u64 t585)) (fun _ hk => hk.2) (.int .u32 t586)) (fun _ hk => hk.2) (.slice Ao63 t587.length co63)) (fun _ hk => hk.2) (.int .i64 t590)) (fun _ hk => trivial)⟩, ⟨by (with_reducible repeat (first | apply zA | apply zB | apply zC)); exact zy (zI (p := ⟨gb593, 3, none⟩) (zI (p := ⟨gb593, 2, none⟩) (zI (p := ⟨gb593, 1, none⟩) (zI (p := ⟨gb593, 0, none⟩) (zy HO_584001.out (fun k_ hk => (⟨hk, hk.2⟩ : _ ∧ k_ ≠ gb593))) (fun _ hk => hk.2) (.int .u64 t585)) (fun _ hk => hk.2) (.int .u32 t586)) (fun _ hk => hk.2) (.slice Ao63 t587.length co63)) (fun _ hk => hk.2) (.int .i64 t590)) (fun _ hk => ⟨hk.1.1.1, ⟨hk.1.1.2.1, ⟨hk.1.1.2.2.1, ⟨hk.1.1.2.2.2.1, ⟨hk.1.1.2.2.2.2, hk.1.2⟩⟩⟩⟩⟩)⟩, ⟨by (with_reducible repeat (first | apply zA | apply zB | apply zC)); exact zy (zI (p := ⟨gb593, 3, none⟩) (zI (p := ⟨gb593, 2, none⟩) (zI (p := ⟨gb593, 1, none⟩) (zI (p := ⟨gb593, 0, none⟩) (zy HO589.out (fun k_ hk => (⟨hk, hk.2⟩ : _ ∧ k_ ≠ gb593))) (fun _ hk => hk.2) (.int .u64 t585)) (fun _ hk => hk.2) (.int .u32 t586)) (fun _ hk => hk.2) (.slice Ao63 t587.length co63)) (fun _ hk => hk.2) (.int .i64 t590)) (fun _ hk => ⟨hk.1.1.1, ⟨hk.1.1.2.1, ⟨hk.1.1.2.2.1, ⟨hk.1.1.2.2.2.1, ⟨hk.1.1.2.2.2.2, hk.1.2⟩⟩⟩⟩⟩)⟩, ⟨by (with_reducible repeat (first | refine zh ?_ _ | refine zj ?_ | refine zi ?_ _)); refine zv ?_ NB564_593.out _; (with_reducible repeat (first | refine zh ?_ _ | refine zj ?_ | refine zi ?_ _)); refine zv ?_ NB564_593.out _; (with_reducible repeat (first | refine zh ?_ _ | refine zj ?_ | refine zi ?_ _)); refine zv ?_ NB564_593.out _; (with_reducible repeat (first | refine zh ?_ _ | refine zj ?_ | refine zi ?_ _)); refine zv ?_ NB564_593.out _; (with_reducible repeat (first | refine zh ?_ _ | refine zj ?_ | refine zi ?_ _)); exact BK564.out⟩, ⟨by (with_reducible repeat (first | refine zh ?_ _ | refine zj ?_ | refine zi ?_ _)); refine zv ?_ NB565_593.out _; (with_reducible repeat (first | refine zh ?_ _ | refine zj ?_ | refine zi ?_ _)); refine zv ?_ NB565_593.out _; (with_reducible repeat (first | refine zh ?_ _ | refine zj ?_ | refine zi ?_ _)); refine zv ?_ NB565_593.out _; (with_reducible repeat (first | refine zh ?_ _ | refine zj ?_ | refine zi ?_ _)); refine zv ?_ NB565_593.out _; (with_reducible repeat (first | refine zh ?_ _ | refine zj ?_ | refine zi ?_ _)); exact BK565.out⟩, ⟨by (with_reducible repeat (first | refine zh ?_ _ | refine zj ?_ | refine zi ?_ _)); refine zv ?_ NB573_593.out _; (with_reducible repeat (first | refine zh ?_ _ | refine zj ?_ | refine zi ?_ _)); refine zv ?_ NB573_593.out _; (with_reducible repeat (first | refine zh ?_ _ | refine zj ?_ | refine zi ?_ _)); refine zv ?_ NB573_593.out _; (with_reducible repeat (first | refine zh ?_ _ | refine zj ?_ | refine zi ?_ _)); refine zv ?_ NB573_593.out _; (with_reducible repeat (first | refine zh ?_ _ | refine zj ?_ | refine zi ?_ _)); exact BK573.out⟩, ⟨by (with_reducible repeat (first | refine zh ?_ _ | refine zj ?_ | refine zi ?_ _)); refine zv ?_ NB583_593.out _; (with_reducible repeat (first | refine zh ?_ _ | refine zj ?_ | refine zi ?_ _)); refine zv ?_ NB583_593.out _; (with_reducible repeat (first | refine zh ?_ _ | refine zj ?_ | refine zi ?_ _)); refine zv ?_ NB583_593.out _; (with_reducible repeat (first | refine zh ?_ _ | refine zj ?_ | refine zi ?_ _)); refine zv ?_ NB583_593.out _; (with_reducible repeat (first | refine zh ?_ _ | refine zj ?_ | refine zi ?_ _)); exact BK583.out⟩, ⟨by (with_reducible repeat (first | refine zh ?_ _ | refine zj ?_ | refine zi ?_ _)); refine zw (cs := #[.int .u64 t585, .int .u32 t586, .slice Ao63 t587.length co63, .int .i64 0]) ?_ 3 _ rfl; (with_reducible repeat (first | refine zh ?_ _ | refine zj ?_ | refine zi ?_ _)); refine zw (cs := #[.int .u64 t585, .int .u32 t586, .slice none 0 0, .int .i64 0]) ?_ 2 _ rfl; (with_reducible repeat (first | refine zh ?_ _ | refine zj ?_ | refine zi ?_ _)); refine zw (cs := #[.int .u64 t585, .int .u32 0, .slice none 0 0, .int .i64 0]) ?_ 1 _ rfl; (with_reducible repeat (first | refine zh ?_ _ | refine zj ?_ | refine zi ?_ _)); refine zw (cs := #[.int .u64 0, .int .u32 0, .slice none 0 0, .int .i64 0]) ?_ 0 _ rfl; (with_reducible repeat (first | refine zh ?_ _ | refine zj ?_ | refine zi ?_ _)); exact BK593.out⟩, ⟨by repeat (first | (with_reducible first | exact HB.out | apply ze | apply zd | apply zf | refine zk ?_ GE564.out | refine zk ?_ GE565.out | refine zk ?_ GE573.out | refine zk ?_ GE583.out | refine zk ?_ GE593.out) | exact HB.out)⟩⟩
        ·
         rw [if_neg c64] at H
         have c64b0 : (a3 == 0) = false := beq_eq_false_iff_ne.mpr c64
         have c64b1 : (a3 != 0) = true := bne_iff_ne.mpr c64
         (first | rw [c64b0] | (simp only [i64_w, i32_w]; rw [c64b0]) | skip)
         have H' := zm H
         clear H
         go_wp2
         go_meet
         case rel => exact ⟨_, (decide (a3 > 4294967296)), (by first | rfl | (simp; done) | (simp [*]; done)), H', ⟨by have := HJ4.out; have := HJ19.out; first | omega | exact Nat.le_refl _⟩, ⟨by (with_reducible repeat (first | apply zo | apply zp | apply zq)); exact zG (zH (p := ⟨gb593, 3, none⟩) (zH (p := ⟨gb593, 2, none⟩) (zH (p := ⟨gb593, 1, none⟩) (zH (p := ⟨gb593, 0, none⟩) (Kd.R_types HO_574002.out BK593.out (by decide)) (fun _ hk => hk.2) (.int .u64 t585)) (fun _ hk => hk.2) (.int .u32 t586)) (fun _ hk => hk.2) (.slice Ao63 t587.length co63)) (fun _ hk => hk.2) (.int .i64 t590)) (fun _ hk => trivial)⟩, ⟨by (with_reducible repeat (first | apply zA | apply zB | apply zC)); exact zy (zI (p := ⟨gb593, 3, none⟩) (zI (p := ⟨gb593, 2, none⟩) (zI (p := ⟨gb593, 1, none⟩) (zI (p := ⟨gb593, 0, none⟩) (zy HO_584001.out (fun k_ hk => (⟨hk, hk.2⟩ : _ ∧ k_ ≠ gb593))) (fun _ hk => hk.2) (.int .u64 t585)) (fun _ hk => hk.2) (.int .u32 t586)) (fun _ hk => hk.2) (.slice Ao63 t587.length co63)) (fun _ hk => hk.2) (.int .i64 t590)) (fun _ hk => ⟨hk.1.1.1, ⟨hk.1.1.2.1, ⟨hk.1.1.2.2.1, ⟨hk.1.1.2.2.2.1, ⟨hk.1.1.2.2.2.2, hk.1.2⟩⟩⟩⟩⟩)⟩, ⟨by (with_reducible repeat (first | apply zA | apply zB | apply zC)); exact zy (zI (p := ⟨gb593, 3, none⟩) (zI (p := ⟨gb593, 2, none⟩) (zI (p := ⟨gb593, 1, none⟩) (zI (p := ⟨gb593, 0, none⟩) (zy HO589.out (fun k_ hk => (⟨hk, hk.2⟩ : _ ∧ k_ ≠ gb593))) (fun _ hk => hk.2) (.int .u64 t585)) (fun _ hk => hk.2) (.int .u32 t586)) (fun _ hk => hk.2) (.slice Ao63 t587.length co63)) (fun _ hk => hk.2) (.int .i64 t590)) (fun _ hk => ⟨hk.1.1.1, ⟨hk.1.1.2.1, ⟨hk.1.1.2.2.1, ⟨hk.1.1.2.2.2.1, ⟨hk.1.1.2.2.2.2, hk.1.2⟩⟩⟩⟩⟩)⟩, ⟨by (with_reducible repeat (first | refine zh ?_ _ | refine zj ?_ | refine zi ?_ _)); refine zv ?_ NB564_593.out _; (with_reducible repeat (first | refine zh ?_ _ | refine zj ?_ | refine zi ?_ _)); refine zv ?_ NB564_593.out _; (with_reducible repeat (first | refine zh ?_ _ | refine zj ?_ | refine zi ?_ _)); refine zv ?_ NB564_593.out _; (with_reducible repeat (first | refine zh ?_ _ | refine zj ?_ | refine zi ?_ _)); refine zv ?_ NB564_593.out _; (with_reducible repeat (first | refine zh ?_ _ | refine zj ?_ | refine zi ?_ _)); exact BK564.out⟩, ⟨by (with_reducible repeat (first | refine zh ?_ _ | refine zj ?_ | refine zi ?_ _)); refine zv ?_ NB565_593.out _; (with_reducible repeat (first | refine zh ?_ _ | refine zj ?_ | refine zi ?_ _)); refine zv ?_ NB565_593.out _; (with_reducible repeat (first | refine zh ?_ _ | refine zj ?_ | refine zi ?_ _)); refine zv ?_ NB565_593.out _; (with_reducible repeat (first | refine zh ?_ _ | refine zj ?_ | refine zi ?_ _)); refine zv ?_ NB565_593.out _; (with_reducible repeat (first | refine zh ?_ _ | refine zj ?_ | refine zi ?_ _)); exact BK565.out⟩, ⟨by (with_reducible repeat (first | refine zh ?_ _ | refine zj ?_ | refine zi ?_ _)); refine zv ?_ NB573_593.out _; (with_reducible repeat (first | refine zh ?_ _ | refine zj ?_ | refine zi ?_ _)); refine zv ?_ NB573_593.out _; (with_reducible repeat (first | refine zh ?_ _ | refine zj ?_ | refine zi ?_ _)); refine zv ?_ NB573_593.out _; (with_reducible repeat (first | refine zh ?_ _ | refine zj ?_ | refine zi ?_ _)); refine zv ?_ NB573_593.out _; (with_reducible repeat (first | refine zh ?_ _ | refine zj ?_ | refine zi ?_ _)); exact BK573.out⟩, ⟨by (with_reducible repeat (first | refine zh ?_ _ | refine zj ?_ | refine zi ?_ _)); refine zv ?_ NB583_593.out _; (with_reducible repeat (first | refine zh ?_ _ | refine zj ?_ | refine zi ?_ _)); refine zv ?_ NB583_593.out _; (with_reducible repeat (first | refine zh ?_ _ | refine zj ?_ | refine zi ?_ _)); refine zv ?_ NB583_593.out _; (with_reducible repeat (first | refine zh ?_ _ | refine zj ?_ | refine zi ?_ _)); refine zv ?_ NB583_593.out _; (with_reducible repeat (first | refine zh ?_ _ | refine zj ?_ | refine zi ?_ _)); exact BK583.out⟩, ⟨by (with_reducible repeat (first | refine zh ?_ _ | refine zj ?_ | refine zi ?_ _)); refine zw (cs := #[.int .u64 t585, .int .u32 t586, .slice Ao63 t587.length co63, .int .i64 0]) ?_ 3 _ rfl; (with_reducible repeat (first | refine zh ?_ _ | refine zj ?_ | refine zi ?_ _)); refine zw (cs := #[.int .u64 t585, .int .u32 t586, .slice none 0 0, .int .i64 0]) ?_ 2 _ rfl; (with_reducible repeat (first | refine zh ?_ _ | refine zj ?_ | refine zi ?_ _)); refine zw (cs := #[.int .u64 t585, .int .u32 0, .slice none 0 0, .int .i64 0]) ?_ 1 _ rfl; (with_reducible repeat (first | refine zh ?_ _ | refine zj ?_ | refine zi ?_ _)); refine zw (cs := #[.int .u64 0, .int .u32 0, .slice none 0 0, .int .i64 0]) ?_ 0 _ rfl; (with_reducible repeat (first | refine zh ?_ _ | refine zj ?_ | refine zi ?_ _)); exact BK593.out⟩, ⟨by repeat (first | (with_reducible first | exact HB.out | apply ze | apply zd | apply zf | refine zk ?_ GE564.out | refine zk ?_ GE565.out | refine zk ?_ GE573.out | refine zk ?_ GE583.out | refine zk ?_ GE593.out) | exact HB.out)⟩⟩
       case rest =>
        clear HC51
        try clear c1
        try clear c2
        try clear p2
        try clear c3
        try clear c4
        try clear c5
        try clear c6
        try clear c8
        try clear c8b0
        try clear c8b1
        try clear c9
        try clear c11
        try clear c14
        try clear c17
        try clear c20
        try clear c21
        try clear c25
        try clear c26
        try clear c34
        try clear c35
        try clear c36
        try clear c37
        try clear c38
        try clear c39
        try clear c39b0
        try clear c39b1
        try clear c41
        try clear c42
        try clear c43
        try clear c45
        try clear c46
        try clear c49
        try clear c52
        try clear c53
        try clear c54
        try clear c58
        try clear c59
        try clear c60
        try clear c61
        try clear c64
        try clear c64b0
        try clear c64b1
        try clear hcz10_0
        try clear hcz10_1
        try clear hcz10_2
        try clear hcz12_0
        try clear hcz12_1
        try clear hcz12_2
        try clear hcz13_0
        try clear hcz13_1
        try clear hcz13_2
        try clear hcz13_3
        try clear hcz22_0
        try clear hcz22_1
        try clear hcz22_2
        try clear hcz27_0
        try clear hcz27_1
        try clear hcz27_2
        try clear hcz29_0
        try clear hcz29_1
        try clear hcz29_2
        try clear hcz37_0
        try clear hcz37_1
        try clear hcz44_0
        try clear hcz44_1
        try clear hcz44_2
        try clear hcz47_0
        try clear hcz47_1
        try clear hcz55_0
        try clear hcz55_1
        try clear hcz55_2
        try clear hcz55_3
        try clear hcz62_0
        try clear hcz62_1
        try clear hcz62_2
        try clear hcz62_3
        try clear hfz10_0
        try clear hfz10_1
        try clear hfz10_2
        try clear hfz12_0
        try clear hfz12_1
        try clear hfz12_2
        try clear hfz13_0
        try clear hfz13_1
        try clear hfz13_2
        try clear hfz13_3
        try clear hfz22_0
        try clear hfz22_1
        try clear hfz22_2
        try clear hfz27_0
        try clear hfz27_1
        try clear hfz27_2
        try clear hfz29_0
        try clear hfz29_1
        try clear hfz29_2
        try clear hfz37_0
        try clear hfz37_1
        try clear hfz44_0
        try clear hfz44_1
        try clear hfz44_2
        try clear hfz47_0
        try clear hfz47_1
        try clear hfz55_0
        try clear hfz55_1
        try clear hfz55_2
        try clear hfz55_3
        try clear hfz62_0
        try clear hfz62_1
        try clear hfz62_2
        try clear hfz62_3
        try clear p2
        obtain ⟨kq, x65_50, rfl, HA, HJ50, HO_574002, HO_584001, HO_594002, BK564, BK565, BK573, BK583, BK593, HB⟩ := hcut
        cases kq with
        | zero => exact absurd HA.out (by simp [psalterylaw05_CoderNums.j2])
        | succ kj50 =>
         have H := HA.out
         clear HA
         simp only [psalterylaw05_CoderNums.j2] at H
         by_cases c65 : x65_50 = true
         ·
          subst c65
          have H1 : (if t591 = 0 then (if t592 = 1 then ((psalterylaw05_AsDec.f kj50 a1_0 a1_1 l1_2 a1_3).bind fun bt594 => ((psalterylaw05_SameDec.f t585 t586 t587 t590 bt594.1 bt594.2.1 bt594.2.2.1 bt594.2.2.2).bind fun t600 => (if t600 = true then ((psalterylaw05_knows.f kj50).bind fun t601 => (some t601)) else (none)))) else (none)) else (none)) = some r := by rw [if_pos rfl] at H; exact H
          clear H
          have H := H1
          clear H1
          by_cases c66 : t591 = 0
          ·
           rw [if_pos c66] at H
           have c66b0 : (t591 == 0) = true := beq_iff_eq.mpr c66
           have c66b1 : (t591 != 0) = false := bne_eq_false_iff_eq.mpr c66
           clear c66
           by_cases c67 : t592 = 1
           ·
            rw [if_pos c67] at H
            have c67b0 : (t592 == 1) = true := beq_iff_eq.mpr c67
            have c67b1 : (t592 != 1) = false := bne_eq_false_iff_eq.mpr c67
            clear c67
            replace H := Option.bind_eq_some_iff.mp H
            obtain ⟨⟨t594, t595, t596, t599⟩, A680, H⟩ := H
            replace H : ((psalterylaw05_SameDec.f t585 t586 t587 t590 t594 t595 t596 t599).bind fun t600 => (if t600 = true then ((psalterylaw05_knows.f kj50).bind fun t601 => (some t601)) else (none))) = some r := H
            have A68 := zm A680
            clear A680
            replace H := Option.bind_eq_some_iff.mp H
            obtain ⟨t600, A690, H⟩ := H
            replace H : (if t600 = true then ((psalterylaw05_knows.f kj50).bind fun t601 => (some t601)) else (none)) = some r := H
            have A69 := zm A690
            clear A690
            by_cases c70 : t600 = true
            ·
             subst c70
             have H1 : ((psalterylaw05_knows.f kj50).bind fun t601 => (some t601)) = some r := by rw [if_pos rfl] at H; exact H
             clear H
             have H := H1
             clear H1
             replace H := Option.bind_eq_some_iff.mp H
             obtain ⟨t601, A710, H⟩ := H
             replace H : (some t601) = some r := H
             have A71 := zm A710
             clear A710
             obtain rfl := Option.some.inj H
             try go_wp2
             have n0_ := zm (zq HO_574002.out)
             have n1_ := zm (zC HO_584001.out)
             have n2_ := zm (zC HO_594002.out)
             have n3_ := zm (zj BK564.out)
             have n4_ := zm (zj BK565.out)
             have n5_ := zm (zj BK573.out)
             have n6_ := zm (zj BK583.out)
             have n7_ := zm (zj BK593.out)
             have n8_ := zm (zf HB.out)
             clear HO_574002
             clear HO_584001
             clear HO_594002
             clear BK564
             clear BK565
             clear BK573
             clear BK583
             clear BK593
             clear HB
             have HO_574002 := n0_
             have HO_584001 := n1_
             have HO_594002 := n2_
             have BK564 := n3_
             have BK565 := n4_
             have BK573 := n5_
             have BK583 := n6_
             have BK593 := n7_
             have HB := n8_
             clear n0_ n1_ n2_ n3_ n4_ n5_ n6_ n7_ n8_
             refine start_ (n := 16) (S := fun w' => w'.cell? ⟨gb593, 0, none⟩ = some (.int .u64 t585) ∧ w'.cell? ⟨gb593, 1, none⟩ = some (.int .u32 t586) ∧ w'.cell? ⟨gb593, 2, none⟩ = some (.slice Ao63 t587.length co63) ∧ w'.cell? ⟨gb593, 3, none⟩ = some (.int .i64 t590) ∧ w'.cell? ⟨gb565, 0, none⟩ = some (.int .u64 a1_0) ∧ w'.cell? ⟨gb565, 1, none⟩ = some (.int .u32 a1_1) ∧ w'.cell? ⟨gb565, 2, none⟩ = some (.slice A1_2 l1_2.length c1_2) ∧ w'.cell? ⟨gb565, 3, none⟩ = some (.int .i64 a1_3)) (ds := []) #[false, false, false, false, false, false, false, false, false, false, false, false, false, false, false, false] (by kernel_rfl) rfl rfl ⟨(zs BK593.out 0).trans rfl, (zs BK593.out 1).trans rfl, (zs BK593.out 2).trans rfl, (zs BK593.out 3).trans rfl, (zs BK565.out 0).trans rfl, (zs BK565.out 1).trans rfl, (zs BK565.out 2).trans rfl, (zs BK565.out 3).trans rfl⟩ (fun hHeld => ?_); refine with_tabW psalterylaw05_CoderNums.tab9 psalterylaw05_CoderNums.bits9 (fun HT_ HW_ => ?_)
             generalize wc.drew = w72 at HO_574002 HO_584001 HO_594002 BK564 BK565 BK573 BK583 BK593 HB hHeld ⊢
             refine pure_ (i := 0) (N := some 66) (v := ?_) (a' := ?_) #[true, false, false, false, false, false, false, false, false, false, false, false, false, false, false, false] rfl rfl (any_of HT_.out (by kernel_rfl)) (fun _ _ _ h => h) (Or.inl ⟨by rfl, ?_⟩) ?_ ?_
             rotate_left
             ·
              intro w'
              go_simp
              with_reducible rfl
             rotate_left
             ·
              simp only [Act.put, List.setIfInBounds_toArray, List.set_cons_zero, List.set_cons_succ, i64_w, i32_w]
              rfl
             refine pure_ (i := 1) (N := some 67) (v := ?_) (a' := ?_) #[true, true, false, false, false, false, false, false, false, false, false, false, false, false, false, false] rfl rfl (any_of HT_.out (by kernel_rfl)) (fun _ _ _ h => h) (Or.inl ⟨by rfl, ?_⟩) ?_ ?_
             rotate_left
             ·
              intro w'
              go_simp
              with_reducible rfl
             rotate_left
             ·
              simp only [Act.put, List.setIfInBounds_toArray, List.set_cons_zero, List.set_cons_succ, i64_w, i32_w]
              rfl
             refine pure_ (i := 2) (N := some 68) (v := ?_) (a' := ?_) #[true, true, true, false, false, false, false, false, false, false, false, false, false, false, false, false] rfl rfl (any_of HT_.out (by kernel_rfl)) (fun _ _ _ h => h) (Or.inl ⟨by rfl, ?_⟩) ?_ ?_
             rotate_left
             ·
              intro w'
              go_simp
              with_reducible rfl
             rotate_left
             ·
              simp only [Act.put, List.setIfInBounds_toArray, List.set_cons_zero, List.set_cons_succ, i64_w, i32_w]
              rfl
             refine pure_ (i := 3) (N := some 69) (v := ?_) (a' := ?_) #[true, true, true, true, false, false, false, false, false, false, false, false, false, false, false, false] rfl rfl (any_of HT_.out (by kernel_rfl)) (fun _ _ _ h => h) (Or.inl ⟨by rfl, ?_⟩) ?_ ?_
             rotate_left
             ·
              intro w'
              go_simp
              with_reducible rfl
             rotate_left
             ·
              simp only [Act.put, List.setIfInBounds_toArray, List.set_cons_zero, List.set_cons_succ, i64_w, i32_w]
              rfl
             refine pure_ (i := 4) (N := some 70) (v := ?_) (a' := ?_) #[true, true, true, true, true, false, false, false, false, false, false, false, false, false, false, false] rfl rfl (any_of HT_.out (by kernel_rfl)) (fun _ _ _ h => h) (Or.inl ⟨by rfl, ?_⟩) ?_ ?_
             rotate_left
             ·
              intro w'
              go_simp
              with_reducible rfl
             rotate_left
             ·
              simp only [Act.put, List.setIfInBounds_toArray, List.set_cons_zero, List.set_cons_succ, i64_w, i32_w]
              rfl
             refine pure_ (i := 5) (N := some 71) (v := ?_) (a' := ?_) #[true, true, true, true, true, true, false, false, false, false, false, false, false, false, false, false] rfl rfl (any_of HT_.out (by kernel_rfl)) (fun _ _ _ h => h) (Or.inl ⟨by rfl, ?_⟩) ?_ ?_
             rotate_left
             ·
              intro w'
              go_simp
              with_reducible rfl
             rotate_left
             ·
              simp only [Act.put, List.setIfInBounds_toArray, List.set_cons_zero, List.set_cons_succ, i64_w, i32_w]
              rfl
             refine pure_ (i := 6) (N := some 72) (v := ?_) (a' := ?_) #[true, true, true, true, true, true, true, false, false, false, false, false, false, false, false, false] rfl rfl (any_of HT_.out (by kernel_rfl)) (fun _ _ _ h => h) (Or.inl ⟨by rfl, ?_⟩) ?_ ?_
             rotate_left
             ·
              intro w'
              go_simp
              with_reducible rfl
             rotate_left
             ·
              simp only [Act.put, List.setIfInBounds_toArray, List.set_cons_zero, List.set_cons_succ, i64_w, i32_w]
              rfl
             refine take_ (i := 7) (N := some 73) (v := ?_) (a' := ?_) #[true, true, true, true, true, true, true, true, false, false, false, false, false, false, false, false] rfl rfl (take_ofW HT_.out HW_.out (by kernel_rfl)) (fun _ _ _ h => h) (Or.inl ⟨by rfl, ?_⟩) hHeld ?_ ?_
             rotate_left
             ·
              rintro w' ⟨s0, s1, s2, s3, s4, s5, s6, s7⟩
              go_simp
              with_reducible rfl
             rotate_left
             ·
              simp only [Act.put, List.setIfInBounds_toArray, List.set_cons_zero, List.set_cons_succ, i64_w, i32_w]
              rfl
             refine take_ (i := 8) (N := some 74) (v := ?_) (a' := ?_) #[true, true, true, true, true, true, true, true, true, false, false, false, false, false, false, false] rfl rfl (take_ofW HT_.out HW_.out (by kernel_rfl)) (fun _ _ _ h => h) (Or.inl ⟨by rfl, ?_⟩) hHeld ?_ ?_
             rotate_left
             ·
              rintro w' ⟨s0, s1, s2, s3, s4, s5, s6, s7⟩
              go_simp
              with_reducible rfl
             rotate_left
             ·
              simp only [Act.put, List.setIfInBounds_toArray, List.set_cons_zero, List.set_cons_succ, i64_w, i32_w]
              rfl
             refine one_ (i := 9) (N := some 75) #[true, true, true, true, true, true, true, true, true, true, false, false, false, false, false, false] rfl rfl (one_of HT_.out (by kernel_rfl)) (by decide) (fun K hK => ?_)
             refine goes_ Try.func31 (by kernel_rfl) rfl #[.agg #[.int .u64 a1_0, .int .u32 a1_1, .slice A1_2 l1_2.length c1_2, .int .i64 a1_3]] (by rfl) rfl rfl (by (try simp only [List.map_toArray, List.map_cons, List.map_nil]); first | done | rfl | (simp only [List.length_drop, List.length_take]; rfl)) ?_
             with_reducible refine (psalterylaw05_AsDec.calls kj50 a1_0 a1_1 (fun k_ => k_ < w.heap.size) _ _ l1_2 a1_3 t594 t595 t596 t599 _ ?side1 A68.out).mono ?_
             (case side1 => exact Kd.V_mk HC1_2.out (Kd.F_below (Kd.C_F (Kd.heap_int .u8) HR1_2.out) (by repeat (first | (with_reducible first | exact HB.out | apply ze | apply zd | apply zf | refine zk ?_ GE564.out | refine zk ?_ GE565.out | refine zk ?_ GE573.out | refine zk ?_ GE583.out | refine zk ?_ GE593.out) | exact HB.out))))
             rintro e w73 ⟨v597, rfl, ho0, hb⟩
             refine ⟨_, rfl, ?_⟩
             have n0_ := zm (Kd.R_below (by (with_reducible repeat (first | apply zo | apply zp | apply zq)); exact HO_574002.out) hb)
             have n1_ := zm (Kd.V_below (by (with_reducible repeat (first | apply zA | apply zB | apply zC)); exact HO_584001.out) hb)
             have n2_ := zm (Kd.V_below (by (with_reducible repeat (first | apply zA | apply zB | apply zC)); exact HO_594002.out) hb)
             have n3_ := zm (Kd.V_lower (zy (ok' := fun k_ => some k_ ≠ (.slice Ao28 t569.length co28 : Value).ownBlock ∧ k_ ≠ gb564 ∧ k_ ≠ gb565 ∧ k_ ≠ gb573 ∧ k_ ≠ gb583 ∧ k_ ≠ gb593) ho0 (fun k_ hk_ => ⟨Or.elim hk_ (fun hs_ => fun e_ => Nat.not_le.2 hs_ (Kd.R_base HO_574002.out k_ e_.symm)) (fun hn_ => (Kd.fresh' (Kd.R_lt (by (with_reducible repeat (first | apply zo | apply zp | apply zq)); exact HO_574002.out)) k_ hn_)), Or.elim hk_ (fun hs_ => fun e_ => Nat.not_le.2 hs_ (by rw [e_]; exact GW564.out)) (fun hn_ => (Kd.freshB (g := gb564) (o := .cells #[.int .u64 a0_0, .int .u32 a0_1, .slice A0_2 l0_2.length c0_2] 26 (0, 0)) (by (with_reducible repeat (first | refine zh ?_ _ | refine zj ?_ | refine zi ?_ _)); exact BK564.out) k_ hn_)), Or.elim hk_ (fun hs_ => fun e_ => Nat.not_le.2 hs_ (by rw [e_]; exact GW565.out)) (fun hn_ => (Kd.freshB (g := gb565) (o := .cells #[.int .u64 a1_0, .int .u32 a1_1, .slice A1_2 l1_2.length c1_2, .int .i64 a1_3] 43 (0, 0)) (by (with_reducible repeat (first | refine zh ?_ _ | refine zj ?_ | refine zi ?_ _)); exact BK565.out) k_ hn_)), Or.elim hk_ (fun hs_ => fun e_ => Nat.not_le.2 hs_ (by rw [e_]; exact GW573.out)) (fun hn_ => (Kd.freshB (g := gb573) (o := .cells #[.int .u64 t567, .int .u32 t568, .slice Ao28 t569.length co28] 26 (0, 0)) (by (with_reducible repeat (first | refine zh ?_ _ | refine zj ?_ | refine zi ?_ _)); exact BK573.out) k_ hn_)), Or.elim hk_ (fun hs_ => fun e_ => Nat.not_le.2 hs_ (by rw [e_]; exact GW583.out)) (fun hn_ => (Kd.freshB (g := gb583) (o := .cells #[.int .u64 t578, .slice Ao38 t579.length co38] 33 (0, 0)) (by (with_reducible repeat (first | refine zh ?_ _ | refine zj ?_ | refine zi ?_ _)); exact BK583.out) k_ hn_)), Or.elim hk_ (fun hs_ => fun e_ => Nat.not_le.2 hs_ (by rw [e_]; exact GW593.out)) (fun hn_ => (Kd.freshB (g := gb593) (o := .cells #[.int .u64 t585, .int .u32 t586, .slice Ao63 t587.length co63, .int .i64 t590] 43 (0, 0)) (by (with_reducible repeat (first | refine zh ?_ _ | refine zj ?_ | refine zi ?_ _)); exact BK593.out) k_ hn_))⟩)) (zE (by repeat (first | (with_reducible first | exact HB.out | apply ze | apply zd | apply zf | refine zk ?_ GE564.out | refine zk ?_ GE565.out | refine zk ?_ GE573.out | refine zk ?_ GE583.out | refine zk ?_ GE593.out) | exact HB.out))))
             have n4_ := zm (zF (g := gb564) (o := .cells #[.int .u64 a0_0, .int .u32 a0_1, .slice A0_2 l0_2.length c0_2] 26 (0, 0)) (by (with_reducible repeat (first | refine zh ?_ _ | refine zj ?_ | refine zi ?_ _)); exact BK564.out) hb)
             have n5_ := zm (zF (g := gb565) (o := .cells #[.int .u64 a1_0, .int .u32 a1_1, .slice A1_2 l1_2.length c1_2, .int .i64 a1_3] 43 (0, 0)) (by (with_reducible repeat (first | refine zh ?_ _ | refine zj ?_ | refine zi ?_ _)); exact BK565.out) hb)
             have n6_ := zm (zF (g := gb573) (o := .cells #[.int .u64 t567, .int .u32 t568, .slice Ao28 t569.length co28] 26 (0, 0)) (by (with_reducible repeat (first | refine zh ?_ _ | refine zj ?_ | refine zi ?_ _)); exact BK573.out) hb)
             have n7_ := zm (zF (g := gb583) (o := .cells #[.int .u64 t578, .slice Ao38 t579.length co38] 33 (0, 0)) (by (with_reducible repeat (first | refine zh ?_ _ | refine zj ?_ | refine zi ?_ _)); exact BK583.out) hb)
             have n8_ := zm (zF (g := gb593) (o := .cells #[.int .u64 t585, .int .u32 t586, .slice Ao63 t587.length co63, .int .i64 t590] 43 (0, 0)) (by (with_reducible repeat (first | refine zh ?_ _ | refine zj ?_ | refine zi ?_ _)); exact BK593.out) hb)
             have n9_ := zm (zJ (by repeat (first | (with_reducible first | exact HB.out | apply ze | apply zd | apply zf | refine zk ?_ GE564.out | refine zk ?_ GE565.out | refine zk ?_ GE573.out | refine zk ?_ GE583.out | refine zk ?_ GE593.out) | exact HB.out)) hb)
             clear HO_574002
             clear HO_584001
             clear HO_594002
             clear BK564
             clear BK565
             clear BK573
             clear BK583
             clear BK593
             clear HB
             have HO_574002 := n0_
             have HO_584001 := n1_
             have HO_594002 := n2_
             have HO598 := n3_
             have BK564 := n4_
             have BK565 := n5_
             have BK573 := n6_
             have BK583 := n7_
             have BK593 := n8_
             have HB := n9_
             clear n0_ n1_ n2_ n3_ n4_ n5_ n6_ n7_ n8_ n9_
             (try clear hb)
             (try clear hb2)
             (try clear hk)
             (try clear hi)
             (try clear ho0)
             obtain ⟨Ao74, co74, eo74⟩ := Kd.V_slice HO598.out
             (first | subst eo74 | (injection eo74 with f1_ f2_ f3_; have f4_ := f1_.symm; have f5_ := f3_.symm; clear f1_ f2_ f3_; subst f4_; subst f5_))
             refine hK.out _ _ ⟨(zs BK593.out 0).trans rfl, (zs BK593.out 1).trans rfl, (zs BK593.out 2).trans rfl, (zs BK593.out 3).trans rfl, (zs BK565.out 0).trans rfl, (zs BK565.out 1).trans rfl, (zs BK565.out 2).trans rfl, (zs BK565.out 3).trans rfl⟩ (fun hHeld => ?_)
             clear hK K
             refine norm_ (a' := ?_) ?_ ?_
             rotate_left
             ·
              show Act.put _ (some 75) _ = _
              simp only [Act.put, List.setIfInBounds_toArray, List.set_cons_zero, List.set_cons_succ, i64_w, i32_w]
              rfl
             refine one_ (i := 10) (N := some 76) #[true, true, true, true, true, true, true, true, true, true, true, false, false, false, false, false] rfl rfl (one_of HT_.out (by kernel_rfl)) (by decide) (fun K hK => ?_)
             refine goes_ Try.func25 (by kernel_rfl) rfl #[.agg #[.int .u64 t585, .int .u32 t586, .slice Ao63 t587.length co63, .int .i64 t590], .agg #[.int .u64 t594, .int .u64 t595, .slice Ao74 t596.length co74, .int .i64 t599]] (by rfl) rfl rfl (by (try simp only [List.map_toArray, List.map_cons, List.map_nil]); first | done | rfl | (simp only [List.length_drop, List.length_take]; rfl)) ?_
             with_reducible refine (psalterylaw05_SameDec.calls t585 t586 _ _ t587 t590 t594 t595 _ _ t596 t599 true _ ?side1 ?side2 ?side3 ?side4 A69.out).mono ?_
             (case side1 => repeat (first | exact (Kd.V_reads' HO_594002.out).2.2 | (with_reducible refine Kd.C_alloc ?_ _) | (with_reducible refine Kd.C_drewN ?_ _) | (with_reducible refine Kd.C_drew ?_)))
             (case side2 => exact (Kd.V_reads' HO_594002.out).2.1)
             (case side3 => repeat (first | exact (Kd.V_reads' HO598.out).2.2 | (with_reducible refine Kd.C_alloc ?_ _) | (with_reducible refine Kd.C_drewN ?_ _) | (with_reducible refine Kd.C_drew ?_)))
             (case side4 => exact (Kd.V_reads' HO598.out).2.1)
             rintro e w75 ⟨rfl, hb⟩
             refine ⟨_, rfl, ?_⟩
             have n0_ := zm (Kd.R_below (by (with_reducible repeat (first | apply zo | apply zp | apply zq)); exact HO_574002.out) hb)
             have n1_ := zm (Kd.V_below (by (with_reducible repeat (first | apply zA | apply zB | apply zC)); exact HO_584001.out) hb)
             have n2_ := zm (Kd.V_below (by (with_reducible repeat (first | apply zA | apply zB | apply zC)); exact HO_594002.out) hb)
             have n3_ := zm (Kd.V_below (by (with_reducible repeat (first | apply zA | apply zB | apply zC)); exact HO598.out) hb)
             have n4_ := zm (zF (g := gb564) (o := .cells #[.int .u64 a0_0, .int .u32 a0_1, .slice A0_2 l0_2.length c0_2] 26 (0, 0)) (by (with_reducible repeat (first | refine zh ?_ _ | refine zj ?_ | refine zi ?_ _)); exact BK564.out) hb)
             have n5_ := zm (zF (g := gb565) (o := .cells #[.int .u64 a1_0, .int .u32 a1_1, .slice A1_2 l1_2.length c1_2, .int .i64 a1_3] 43 (0, 0)) (by (with_reducible repeat (first | refine zh ?_ _ | refine zj ?_ | refine zi ?_ _)); exact BK565.out) hb)
             have n6_ := zm (zF (g := gb573) (o := .cells #[.int .u64 t567, .int .u32 t568, .slice Ao28 t569.length co28] 26 (0, 0)) (by (with_reducible repeat (first | refine zh ?_ _ | refine zj ?_ | refine zi ?_ _)); exact BK573.out) hb)
             have n7_ := zm (zF (g := gb583) (o := .cells #[.int .u64 t578, .slice Ao38 t579.length co38] 33 (0, 0)) (by (with_reducible repeat (first | refine zh ?_ _ | refine zj ?_ | refine zi ?_ _)); exact BK583.out) hb)
             have n8_ := zm (zF (g := gb593) (o := .cells #[.int .u64 t585, .int .u32 t586, .slice Ao63 t587.length co63, .int .i64 t590] 43 (0, 0)) (by (with_reducible repeat (first | refine zh ?_ _ | refine zj ?_ | refine zi ?_ _)); exact BK593.out) hb)
             have n9_ := zm (zJ (by repeat (first | (with_reducible first | exact HB.out | apply ze | apply zd | apply zf | refine zk ?_ GE564.out | refine zk ?_ GE565.out | refine zk ?_ GE573.out | refine zk ?_ GE583.out | refine zk ?_ GE593.out) | exact HB.out)) hb)
             clear HO_574002
             clear HO_584001
             clear HO_594002
             clear HO598
             clear BK564
             clear BK565
             clear BK573
             clear BK583
             clear BK593
             clear HB
             have HO_574002 := n0_
             have HO_584001 := n1_
             have HO_594002 := n2_
             have HO598 := n3_
             have BK564 := n4_
             have BK565 := n5_
             have BK573 := n6_
             have BK583 := n7_
             have BK593 := n8_
             have HB := n9_
             clear n0_ n1_ n2_ n3_ n4_ n5_ n6_ n7_ n8_ n9_
             (try clear hb)
             (try clear hb2)
             (try clear hk)
             (try clear hi)
             refine hK.out _ _ ⟨(zs BK593.out 0).trans rfl, (zs BK593.out 1).trans rfl, (zs BK593.out 2).trans rfl, (zs BK593.out 3).trans rfl, (zs BK565.out 0).trans rfl, (zs BK565.out 1).trans rfl, (zs BK565.out 2).trans rfl, (zs BK565.out 3).trans rfl⟩ (fun hHeld => ?_)
             clear hK K
             refine norm_ (a' := ?_) ?_ ?_
             rotate_left
             ·
              show Act.put _ (some 76) _ = _
              simp only [Act.put, List.setIfInBounds_toArray, List.set_cons_zero, List.set_cons_succ, i64_w, i32_w]
              rfl
             refine pure_ (i := 11) (N := some 77) (v := ?_) (a' := ?_) #[true, true, true, true, true, true, true, true, true, true, true, true, false, false, false, false] rfl rfl (any_of HT_.out (by kernel_rfl)) (fun _ _ _ h => h) (Or.inl ⟨by rfl, ?_⟩) ?_ ?_
             rotate_left
             ·
              intro w'
              go_simp
              with_reducible rfl
             rotate_left
             ·
              simp only [Act.put, List.setIfInBounds_toArray, List.set_cons_zero, List.set_cons_succ, i64_w, i32_w]
              rfl
             refine pure_ (i := 12) (N := some 78) (v := ?_) (a' := ?_) #[true, true, true, true, true, true, true, true, true, true, true, true, true, false, false, false] rfl rfl (any_of HT_.out (by kernel_rfl)) (fun _ _ _ h => h) (Or.inl ⟨by rfl, ?_⟩) ?_ ?_
             rotate_left
             ·
              intro w'
              go_simp
              with_reducible rfl
             rotate_left
             ·
              simp only [Act.put, List.setIfInBounds_toArray, List.set_cons_zero, List.set_cons_succ, i64_w, i32_w]
              rfl
             refine one_ (i := 13) (N := some 79) #[true, true, true, true, true, true, true, true, true, true, true, true, true, true, false, false] rfl rfl (one_of HT_.out (by kernel_rfl)) (by decide) (fun K hK => ?_)
             refine goes_ Try.func17 (by kernel_rfl) rfl #[] (by rfl) rfl rfl (by (try simp only [List.map_toArray, List.map_cons, List.map_nil]); first | done | rfl | (simp only [List.length_drop, List.length_take]; rfl)) ?_
             with_reducible refine (psalterylaw05_knows.calls kj50  t601 _ A71.out).mono ?_
             rintro e w76 ⟨rfl, hb⟩
             refine ⟨_, rfl, ?_⟩
             have n0_ := zm (Kd.R_below (by (with_reducible repeat (first | apply zo | apply zp | apply zq)); exact HO_574002.out) hb)
             have n1_ := zm (Kd.V_below (by (with_reducible repeat (first | apply zA | apply zB | apply zC)); exact HO_584001.out) hb)
             have n2_ := zm (Kd.V_below (by (with_reducible repeat (first | apply zA | apply zB | apply zC)); exact HO_594002.out) hb)
             have n3_ := zm (Kd.V_below (by (with_reducible repeat (first | apply zA | apply zB | apply zC)); exact HO598.out) hb)
             have n4_ := zm (zF (g := gb564) (o := .cells #[.int .u64 a0_0, .int .u32 a0_1, .slice A0_2 l0_2.length c0_2] 26 (0, 0)) (by (with_reducible repeat (first | refine zh ?_ _ | refine zj ?_ | refine zi ?_ _)); exact BK564.out) hb)
             have n5_ := zm (zF (g := gb565) (o := .cells #[.int .u64 a1_0, .int .u32 a1_1, .slice A1_2 l1_2.length c1_2, .int .i64 a1_3] 43 (0, 0)) (by (with_reducible repeat (first | refine zh ?_ _ | refine zj ?_ | refine zi ?_ _)); exact BK565.out) hb)
             have n6_ := zm (zF (g := gb573) (o := .cells #[.int .u64 t567, .int .u32 t568, .slice Ao28 t569.length co28] 26 (0, 0)) (by (with_reducible repeat (first | refine zh ?_ _ | refine zj ?_ | refine zi ?_ _)); exact BK573.out) hb)
             have n7_ := zm (zF (g := gb583) (o := .cells #[.int .u64 t578, .slice Ao38 t579.length co38] 33 (0, 0)) (by (with_reducible repeat (first | refine zh ?_ _ | refine zj ?_ | refine zi ?_ _)); exact BK583.out) hb)
             have n8_ := zm (zF (g := gb593) (o := .cells #[.int .u64 t585, .int .u32 t586, .slice Ao63 t587.length co63, .int .i64 t590] 43 (0, 0)) (by (with_reducible repeat (first | refine zh ?_ _ | refine zj ?_ | refine zi ?_ _)); exact BK593.out) hb)
             have n9_ := zm (zJ (by repeat (first | (with_reducible first | exact HB.out | apply ze | apply zd | apply zf | refine zk ?_ GE564.out | refine zk ?_ GE565.out | refine zk ?_ GE573.out | refine zk ?_ GE583.out | refine zk ?_ GE593.out) | exact HB.out)) hb)
             clear HO_574002
             clear HO_584001
             clear HO_594002
             clear HO598
             clear BK564
             clear BK565
             clear BK573
             clear BK583
             clear BK593
             clear HB
             have HO_574002 := n0_
             have HO_584001 := n1_
             have HO_594002 := n2_
             have HO598 := n3_
             have BK564 := n4_
             have BK565 := n5_
             have BK573 := n6_
             have BK583 := n7_
             have BK593 := n8_
             have HB := n9_
             clear n0_ n1_ n2_ n3_ n4_ n5_ n6_ n7_ n8_ n9_
             (try clear hb)
             (try clear hb2)
             (try clear hk)
             (try clear hi)
             refine hK.out _ _ ⟨(zs BK593.out 0).trans rfl, (zs BK593.out 1).trans rfl, (zs BK593.out 2).trans rfl, (zs BK593.out 3).trans rfl, (zs BK565.out 0).trans rfl, (zs BK565.out 1).trans rfl, (zs BK565.out 2).trans rfl, (zs BK565.out 3).trans rfl⟩ (fun hHeld => ?_)
             clear hK K
             refine norm_ (a' := ?_) ?_ ?_
             rotate_left
             ·
              show Act.put _ (some 79) _ = _
              simp only [Act.put, List.setIfInBounds_toArray, List.set_cons_zero, List.set_cons_succ, i64_w, i32_w]
              rfl
             refine pure_ (i := 14) (N := some 80) (v := ?_) (a' := ?_) #[true, true, true, true, true, true, true, true, true, true, true, true, true, true, true, false] rfl rfl (any_of HT_.out (by kernel_rfl)) (fun _ _ _ h => h) (Or.inl ⟨by rfl, ?_⟩) ?_ ?_
             rotate_left
             ·
              intro w'
              go_simp
              with_reducible rfl
             rotate_left
             ·
              simp only [Act.put, List.setIfInBounds_toArray, List.set_cons_zero, List.set_cons_succ, i64_w, i32_w]
              rfl
             refine pure_ (i := 15) (N := some 8) (v := ?_) (a' := ?_) #[true, true, true, true, true, true, true, true, true, true, true, true, true, true, true, true] rfl rfl (any_of HT_.out (by kernel_rfl)) (fun _ _ _ h => h) (Or.inl ⟨by rfl, ?_⟩) ?_ ?_
             rotate_left
             ·
              intro w'
              go_simp
              with_reducible rfl
             rotate_left
             ·
              simp only [Act.put, List.setIfInBounds_toArray, List.set_cons_zero, List.set_cons_succ, i64_w, i32_w]
              rfl
             refine done_ (done_of HT_.out (by kernel_rfl)) ?_
             try go_wp2
             go_ret
             exact ⟨by first | rfl | (simp [errW_none, errW_some] <;> rfl) | (simp [*, errW_none, errW_some] <;> rfl), by repeat (first | (with_reducible first | exact HB.out | apply ze | apply zd | apply zf | refine zk ?_ GE564.out | refine zk ?_ GE565.out | refine zk ?_ GE573.out | refine zk ?_ GE583.out | refine zk ?_ GE593.out) | exact HB.out)⟩
            ·
             replace c70 := Bool.eq_false_iff.mpr c70
             subst c70
             have H1 : (none) = some r := by rw [if_neg (show ¬ (false = true) by decide)] at H; exact H
             clear H
             have H := H1
             clear H1
             exact absurd H (by simp)
           ·
            rw [if_neg c67] at H
            have c67b0 : (t592 == 1) = false := beq_eq_false_iff_ne.mpr c67
            have c67b1 : (t592 != 1) = true := bne_iff_ne.mpr c67
            exact absurd H (by simp)
          ·
           rw [if_neg c66] at H
           have c66b0 : (t591 == 0) = false := beq_eq_false_iff_ne.mpr c66
           have c66b1 : (t591 != 0) = true := bne_iff_ne.mpr c66
           exact absurd H (by simp)
         ·
          replace c65 := Bool.eq_false_iff.mpr c65
          subst c65
          have H1 : ((psalterylaw05_AsDec.f kj50 a1_0 a1_1 l1_2 a1_3).bind fun bt602 => ((psalteryref05_TakeNum.f kj50 bt602.1 bt602.2.1 bt602.2.2.1 bt602.2.2.2 a3).bind fun bt608 => (if t591 = bt608.2.2.2.2 then (if t592 = 0 then ((psalterylaw05_SameDec.f t585 t586 t587 t590 bt608.1 bt608.2.1 bt608.2.2.1 bt608.2.2.2.1).bind fun t616 => (if t616 = true then ((psalterylaw05_knows.f kj50).bind fun t617 => (some t617)) else (none))) else (none)) else (none)))) = some r := by rw [if_neg (show ¬ (false = true) by decide)] at H; exact H
          clear H
          have H := H1
          clear H1
          replace H := Option.bind_eq_some_iff.mp H
          obtain ⟨⟨t602, t603, t604, t607⟩, A770, H⟩ := H
          replace H : ((psalteryref05_TakeNum.f kj50 t602 t603 t604 t607 a3).bind fun bt608 => (if t591 = bt608.2.2.2.2 then (if t592 = 0 then ((psalterylaw05_SameDec.f t585 t586 t587 t590 bt608.1 bt608.2.1 bt608.2.2.1 bt608.2.2.2.1).bind fun t616 => (if t616 = true then ((psalterylaw05_knows.f kj50).bind fun t617 => (some t617)) else (none))) else (none)) else (none))) = some r := H
          have A77 := zm A770
          clear A770
          replace H := Option.bind_eq_some_iff.mp H
          obtain ⟨⟨t608, t609, t610, t613, t614⟩, A780, H⟩ := H
          replace H : (if t591 = t614 then (if t592 = 0 then ((psalterylaw05_SameDec.f t585 t586 t587 t590 t608 t609 t610 t613).bind fun t616 => (if t616 = true then ((psalterylaw05_knows.f kj50).bind fun t617 => (some t617)) else (none))) else (none)) else (none)) = some r := H
          have A78 := zm A780
          clear A780
          by_cases c79 : t591 = t614
          ·
           rw [if_pos c79] at H
           have c79b0 : (t591 == t614) = true := beq_iff_eq.mpr c79
           have c79b1 : (t591 != t614) = false := bne_eq_false_iff_eq.mpr c79
           clear c79
           by_cases c80 : t592 = 0
           ·
            rw [if_pos c80] at H
            have c80b0 : (t592 == 0) = true := beq_iff_eq.mpr c80
            have c80b1 : (t592 != 0) = false := bne_eq_false_iff_eq.mpr c80
            clear c80
            replace H := Option.bind_eq_some_iff.mp H
            obtain ⟨t616, A810, H⟩ := H
            replace H : (if t616 = true then ((psalterylaw05_knows.f kj50).bind fun t617 => (some t617)) else (none)) = some r := H
            have A81 := zm A810
            clear A810
            by_cases c82 : t616 = true
            ·
             subst c82
             have H1 : ((psalterylaw05_knows.f kj50).bind fun t617 => (some t617)) = some r := by rw [if_pos rfl] at H; exact H
             clear H
             have H := H1
             clear H1
             replace H := Option.bind_eq_some_iff.mp H
             obtain ⟨t617, A830, H⟩ := H
             replace H : (some t617) = some r := H
             have A83 := zm A830
             clear A830
             obtain rfl := Option.some.inj H
             have hnb84 := NB565_564.out
             have hnc84 := NB564_565.out
             have hnb85 := NB565_573.out
             have hnc85 := NB573_565.out
             have hnb86 := NB565_583.out
             have hnc86 := NB583_565.out
             have hnb87 := NB565_593.out
             have hnc87 := NB593_565.out
             have hcz88_0 : wc.cell? ⟨gb565, 0, none⟩ = some (.int .u64 a1_0) := (zs BK565.out 0).trans rfl
             have hcz88_1 : wc.cell? ⟨gb565, 1, none⟩ = some (.int .u32 a1_1) := (zs BK565.out 1).trans rfl
             have hcz88_2 : wc.cell? ⟨gb565, 2, none⟩ = some (.slice A1_2 l1_2.length c1_2) := (zs BK565.out 2).trans rfl
             have hcz88_3 : wc.cell? ⟨gb565, 3, none⟩ = some (.int .i64 a1_3) := (zs BK565.out 3).trans rfl
             have hfz88_0 := zx BK565.out 0
             have hfz88_1 := zx BK565.out 1
             have hfz88_2 := zx BK565.out 2
             have hfz88_3 := zx BK565.out 3
             go_wp2_with (first | ((with_reducible refine gate_callee (f := 31) rfl ?_); refine goesL_ (some 83) rfl rfl Try.func31 (by kernel_rfl) rfl #[.agg #[.int .u64 a1_0, .int .u32 a1_1, .slice A1_2 l1_2.length c1_2, .int .i64 a1_3]] rfl (by (try simp only [List.map_toArray, List.map_cons, List.map_nil]); first | done | rfl | (simp only [List.length_drop, List.length_take]; rfl)) ?_; (with_reducible refine (psalterylaw05_AsDec.calls kj50 a1_0 a1_1 (fun k_ => k_ < w.heap.size) _ _ l1_2 a1_3 t602 t603 t604 t607 _ ?side1 A77.out).mono ?_); (case side1 => exact Kd.V_mk HC1_2.out (Kd.F_below (Kd.C_F (Kd.heap_int .u8) HR1_2.out) (by repeat (first | (with_reducible first | exact HB.out | apply ze | apply zd | apply zf | refine zk ?_ GE564.out | refine zk ?_ GE565.out | refine zk ?_ GE573.out | refine zk ?_ GE583.out | refine zk ?_ GE593.out) | exact HB.out)))); rintro e w89 ⟨v605, rfl, ho0, hb⟩; refine ⟨_, rfl, ?_⟩; have n0_ := zm (Kd.R_below (by (with_reducible repeat (first | apply zo | apply zp | apply zq)); exact HO_574002.out) hb); have n1_ := zm (Kd.V_below (by (with_reducible repeat (first | apply zA | apply zB | apply zC)); exact HO_584001.out) hb); have n2_ := zm (Kd.V_below (by (with_reducible repeat (first | apply zA | apply zB | apply zC)); exact HO_594002.out) hb); have n3_ := zm (Kd.V_lower (zy (ok' := fun k_ => some k_ ≠ (.slice Ao28 t569.length co28 : Value).ownBlock ∧ k_ ≠ gb564 ∧ k_ ≠ gb565 ∧ k_ ≠ gb573 ∧ k_ ≠ gb583 ∧ k_ ≠ gb593) ho0 (fun k_ hk_ => ⟨Or.elim hk_ (fun hs_ => fun e_ => Nat.not_le.2 hs_ (Kd.R_base HO_574002.out k_ e_.symm)) (fun hn_ => (Kd.fresh' (Kd.R_lt (by (with_reducible repeat (first | apply zo | apply zp | apply zq)); exact HO_574002.out)) k_ hn_)), Or.elim hk_ (fun hs_ => fun e_ => Nat.not_le.2 hs_ (by rw [e_]; exact GW564.out)) (fun hn_ => (Kd.freshB (g := gb564) (o := .cells #[.int .u64 a0_0, .int .u32 a0_1, .slice A0_2 l0_2.length c0_2] 26 (0, 0)) (by (with_reducible repeat (first | refine zh ?_ _ | refine zj ?_ | refine zi ?_ _)); exact BK564.out) k_ hn_)), Or.elim hk_ (fun hs_ => fun e_ => Nat.not_le.2 hs_ (by rw [e_]; exact GW565.out)) (fun hn_ => (Kd.freshB (g := gb565) (o := .cells #[.int .u64 a1_0, .int .u32 a1_1, .slice A1_2 l1_2.length c1_2, .int .i64 a1_3] 43 (0, 0)) (by (with_reducible repeat (first | refine zh ?_ _ | refine zj ?_ | refine zi ?_ _)); exact BK565.out) k_ hn_)), Or.elim hk_ (fun hs_ => fun e_ => Nat.not_le.2 hs_ (by rw [e_]; exact GW573.out)) (fun hn_ => (Kd.freshB (g := gb573) (o := .cells #[.int .u64 t567, .int .u32 t568, .slice Ao28 t569.length co28] 26 (0, 0)) (by (with_reducible repeat (first | refine zh ?_ _ | refine zj ?_ | refine zi ?_ _)); exact BK573.out) k_ hn_)), Or.elim hk_ (fun hs_ => fun e_ => Nat.not_le.2 hs_ (by rw [e_]; exact GW583.out)) (fun hn_ => (Kd.freshB (g := gb583) (o := .cells #[.int .u64 t578, .slice Ao38 t579.length co38] 33 (0, 0)) (by (with_reducible repeat (first | refine zh ?_ _ | refine zj ?_ | refine zi ?_ _)); exact BK583.out) k_ hn_)), Or.elim hk_ (fun hs_ => fun e_ => Nat.not_le.2 hs_ (by rw [e_]; exact GW593.out)) (fun hn_ => (Kd.freshB (g := gb593) (o := .cells #[.int .u64 t585, .int .u32 t586, .slice Ao63 t587.length co63, .int .i64 t590] 43 (0, 0)) (by (with_reducible repeat (first | refine zh ?_ _ | refine zj ?_ | refine zi ?_ _)); exact BK593.out) k_ hn_))⟩)) (zE (by repeat (first | (with_reducible first | exact HB.out | apply ze | apply zd | apply zf | refine zk ?_ GE564.out | refine zk ?_ GE565.out | refine zk ?_ GE573.out | refine zk ?_ GE583.out | refine zk ?_ GE593.out) | exact HB.out)))); have n4_ := zm (zF (g := gb564) (o := .cells #[.int .u64 a0_0, .int .u32 a0_1, .slice A0_2 l0_2.length c0_2] 26 (0, 0)) (by (with_reducible repeat (first | refine zh ?_ _ | refine zj ?_ | refine zi ?_ _)); exact BK564.out) hb); have n5_ := zm (zF (g := gb565) (o := .cells #[.int .u64 a1_0, .int .u32 a1_1, .slice A1_2 l1_2.length c1_2, .int .i64 a1_3] 43 (0, 0)) (by (with_reducible repeat (first | refine zh ?_ _ | refine zj ?_ | refine zi ?_ _)); exact BK565.out) hb); have n6_ := zm (zF (g := gb573) (o := .cells #[.int .u64 t567, .int .u32 t568, .slice Ao28 t569.length co28] 26 (0, 0)) (by (with_reducible repeat (first | refine zh ?_ _ | refine zj ?_ | refine zi ?_ _)); exact BK573.out) hb); have n7_ := zm (zF (g := gb583) (o := .cells #[.int .u64 t578, .slice Ao38 t579.length co38] 33 (0, 0)) (by (with_reducible repeat (first | refine zh ?_ _ | refine zj ?_ | refine zi ?_ _)); exact BK583.out) hb); have n8_ := zm (zF (g := gb593) (o := .cells #[.int .u64 t585, .int .u32 t586, .slice Ao63 t587.length co63, .int .i64 t590] 43 (0, 0)) (by (with_reducible repeat (first | refine zh ?_ _ | refine zj ?_ | refine zi ?_ _)); exact BK593.out) hb); have n9_ := zm (zJ (by repeat (first | (with_reducible first | exact HB.out | apply ze | apply zd | apply zf | refine zk ?_ GE564.out | refine zk ?_ GE565.out | refine zk ?_ GE573.out | refine zk ?_ GE583.out | refine zk ?_ GE593.out) | exact HB.out)) hb); clear HO_574002; clear HO_584001; clear HO_594002; clear BK564; clear BK565; clear BK573; clear BK583; clear BK593; clear HB; have HO_574002 := n0_; have HO_584001 := n1_; have HO_594002 := n2_; have HO606 := n3_; have BK564 := n4_; have BK565 := n5_; have BK573 := n6_; have BK583 := n7_; have BK593 := n8_; have HB := n9_; clear n0_ n1_ n2_ n3_ n4_ n5_ n6_ n7_ n8_ n9_; (try clear hb); (try clear hb2); (try clear hk); (try clear hi); (try clear ho0); obtain ⟨Ao90, co90, eo90⟩ := Kd.V_slice HO606.out; subst eo90) | ((with_reducible refine gate_callee (f := 40) rfl ?_); refine goesL_ (some 85) rfl rfl Try.func40 (by kernel_rfl) rfl #[.agg #[.int .u64 t602, .int .u64 t603, .slice Ao90 t604.length co90, .int .i64 t607], .int .u64 a3] rfl (by (try simp only [List.map_toArray, List.map_cons, List.map_nil]); first | done | rfl | (simp only [List.length_drop, List.length_take]; rfl)) ?_; (with_reducible refine (psalteryref05_TakeNum.calls kj50 t602 t603 (fun k_ => (some k_ ≠ (.slice Ao28 t569.length co28 : Value).ownBlock ∧ (k_ ≠ gb564 ∧ (k_ ≠ gb565 ∧ (k_ ≠ gb573 ∧ (k_ ≠ gb583 ∧ k_ ≠ gb593)))))) _ _ t604 t607 a3 t608 t609 t610 t613 t614 _ ?side1 A78.out).mono ?_); (case side1 => exact HO606.out); rintro e w91 ⟨v611, rfl, ho0, hb⟩; refine ⟨_, rfl, ?_⟩; have n0_ := zm (Kd.R_below (by (with_reducible repeat (first | apply zo | apply zp | apply zq)); exact HO_574002.out) hb); have n1_ := zm (Kd.V_below (by (with_reducible repeat (first | apply zA | apply zB | apply zC)); exact HO_584001.out) hb); have n2_ := zm (Kd.V_below (by (with_reducible repeat (first | apply zA | apply zB | apply zC)); exact HO_594002.out) hb); have n3_ := zm (Kd.V_below (by (with_reducible repeat (first | apply zA | apply zB | apply zC)); exact HO606.out) hb); have n4_ := zm (Kd.V_lower (zy (ok' := fun k_ => some k_ ≠ (.slice Ao28 t569.length co28 : Value).ownBlock ∧ k_ ≠ gb564 ∧ k_ ≠ gb565 ∧ k_ ≠ gb573 ∧ k_ ≠ gb583 ∧ k_ ≠ gb593) ho0 (fun k_ hk_ => ⟨Or.elim hk_ (fun hs_ => hs_.1) (fun hn_ => (Kd.fresh' (Kd.R_lt (by (with_reducible repeat (first | apply zo | apply zp | apply zq)); exact HO_574002.out)) k_ hn_)), Or.elim hk_ (fun hs_ => hs_.2.1) (fun hn_ => (Kd.freshB (g := gb564) (o := .cells #[.int .u64 a0_0, .int .u32 a0_1, .slice A0_2 l0_2.length c0_2] 26 (0, 0)) (by (with_reducible repeat (first | refine zh ?_ _ | refine zj ?_ | refine zi ?_ _)); exact BK564.out) k_ hn_)), Or.elim hk_ (fun hs_ => hs_.2.2.1) (fun hn_ => (Kd.freshB (g := gb565) (o := .cells #[.int .u64 a1_0, .int .u32 a1_1, .slice A1_2 l1_2.length c1_2, .int .i64 a1_3] 43 (0, 0)) (by (with_reducible repeat (first | refine zh ?_ _ | refine zj ?_ | refine zi ?_ _)); exact BK565.out) k_ hn_)), Or.elim hk_ (fun hs_ => hs_.2.2.2.1) (fun hn_ => (Kd.freshB (g := gb573) (o := .cells #[.int .u64 t567, .int .u32 t568, .slice Ao28 t569.length co28] 26 (0, 0)) (by (with_reducible repeat (first | refine zh ?_ _ | refine zj ?_ | refine zi ?_ _)); exact BK573.out) k_ hn_)), Or.elim hk_ (fun hs_ => hs_.2.2.2.2.1) (fun hn_ => (Kd.freshB (g := gb583) (o := .cells #[.int .u64 t578, .slice Ao38 t579.length co38] 33 (0, 0)) (by (with_reducible repeat (first | refine zh ?_ _ | refine zj ?_ | refine zi ?_ _)); exact BK583.out) k_ hn_)), Or.elim hk_ (fun hs_ => hs_.2.2.2.2.2) (fun hn_ => (Kd.freshB (g := gb593) (o := .cells #[.int .u64 t585, .int .u32 t586, .slice Ao63 t587.length co63, .int .i64 t590] 43 (0, 0)) (by (with_reducible repeat (first | refine zh ?_ _ | refine zj ?_ | refine zi ?_ _)); exact BK593.out) k_ hn_))⟩)) (zE (by repeat (first | (with_reducible first | exact HB.out | apply ze | apply zd | apply zf | refine zk ?_ GE564.out | refine zk ?_ GE565.out | refine zk ?_ GE573.out | refine zk ?_ GE583.out | refine zk ?_ GE593.out) | exact HB.out)))); have n5_ := zm (zF (g := gb564) (o := .cells #[.int .u64 a0_0, .int .u32 a0_1, .slice A0_2 l0_2.length c0_2] 26 (0, 0)) (by (with_reducible repeat (first | refine zh ?_ _ | refine zj ?_ | refine zi ?_ _)); exact BK564.out) hb); have n6_ := zm (zF (g := gb565) (o := .cells #[.int .u64 a1_0, .int .u32 a1_1, .slice A1_2 l1_2.length c1_2, .int .i64 a1_3] 43 (0, 0)) (by (with_reducible repeat (first | refine zh ?_ _ | refine zj ?_ | refine zi ?_ _)); exact BK565.out) hb); have n7_ := zm (zF (g := gb573) (o := .cells #[.int .u64 t567, .int .u32 t568, .slice Ao28 t569.length co28] 26 (0, 0)) (by (with_reducible repeat (first | refine zh ?_ _ | refine zj ?_ | refine zi ?_ _)); exact BK573.out) hb); have n8_ := zm (zF (g := gb583) (o := .cells #[.int .u64 t578, .slice Ao38 t579.length co38] 33 (0, 0)) (by (with_reducible repeat (first | refine zh ?_ _ | refine zj ?_ | refine zi ?_ _)); exact BK583.out) hb); have n9_ := zm (zF (g := gb593) (o := .cells #[.int .u64 t585, .int .u32 t586, .slice Ao63 t587.length co63, .int .i64 t590] 43 (0, 0)) (by (with_reducible repeat (first | refine zh ?_ _ | refine zj ?_ | refine zi ?_ _)); exact BK593.out) hb); have n10_ := zm (zJ (by repeat (first | (with_reducible first | exact HB.out | apply ze | apply zd | apply zf | refine zk ?_ GE564.out | refine zk ?_ GE565.out | refine zk ?_ GE573.out | refine zk ?_ GE583.out | refine zk ?_ GE593.out) | exact HB.out)) hb); clear HO_574002; clear HO_584001; clear HO_594002; clear HO606; clear BK564; clear BK565; clear BK573; clear BK583; clear BK593; clear HB; have HO_574002 := n0_; have HO_584001 := n1_; have HO_594002 := n2_; have HO606 := n3_; have HO612 := n4_; have BK564 := n5_; have BK565 := n6_; have BK573 := n7_; have BK583 := n8_; have BK593 := n9_; have HB := n10_; clear n0_ n1_ n2_ n3_ n4_ n5_ n6_ n7_ n8_ n9_ n10_; (try clear hb); (try clear hb2); (try clear hk); (try clear hi); (try clear ho0)) | ((with_reducible refine gate_dst (N := 16) rfl ?_); (try (refine gate_guard (by rfl) ?_; dsimp only)); refine box_event ?hg (N := 16) ?hd (cs := #[.int .u64 0, .int .u64 0, .slice none 0 0, .int .i64 0]) (t := 46) ?hr ?_; (case hd => rfl); (case hg => rfl); (case hr => first | (go_simp; done) | (go_simp; rfl)); intro gb615 hg w92 hbox hb; have n0_ := zm (Kd.R_below (by (with_reducible repeat (first | apply zo | apply zp | apply zq)); exact HO_574002.out) hb); have n1_ := zm (Kd.V_below (Kd.V_elderB (by (with_reducible repeat (first | apply zA | apply zB | apply zC)); exact HO_584001.out) gb615 (Nat.le_of_eq hg.symm)) hb); have n2_ := zm (Kd.V_below (Kd.V_elderB (by (with_reducible repeat (first | apply zA | apply zB | apply zC)); exact HO_594002.out) gb615 (Nat.le_of_eq hg.symm)) hb); have n3_ := zm (Kd.V_below (Kd.V_elderB (by (with_reducible repeat (first | apply zA | apply zB | apply zC)); exact HO606.out) gb615 (Nat.le_of_eq hg.symm)) hb); have n4_ := zm (Kd.V_below (Kd.V_elderB (by (with_reducible repeat (first | apply zA | apply zB | apply zC)); exact HO612.out) gb615 (Nat.le_of_eq hg.symm)) hb); have n5_ := zm (zF (g := gb564) (o := .cells #[.int .u64 a0_0, .int .u32 a0_1, .slice A0_2 l0_2.length c0_2] 26 (0, 0)) (by (with_reducible repeat (first | refine zh ?_ _ | refine zj ?_ | refine zi ?_ _)); exact BK564.out) hb); have n6_ := zm (zF (g := gb565) (o := .cells #[.int .u64 a1_0, .int .u32 a1_1, .slice A1_2 l1_2.length c1_2, .int .i64 a1_3] 43 (0, 0)) (by (with_reducible repeat (first | refine zh ?_ _ | refine zj ?_ | refine zi ?_ _)); exact BK565.out) hb); have n7_ := zm (zF (g := gb573) (o := .cells #[.int .u64 t567, .int .u32 t568, .slice Ao28 t569.length co28] 26 (0, 0)) (by (with_reducible repeat (first | refine zh ?_ _ | refine zj ?_ | refine zi ?_ _)); exact BK573.out) hb); have n8_ := zm (zF (g := gb583) (o := .cells #[.int .u64 t578, .slice Ao38 t579.length co38] 33 (0, 0)) (by (with_reducible repeat (first | refine zh ?_ _ | refine zj ?_ | refine zi ?_ _)); exact BK583.out) hb); have n9_ := zm (zF (g := gb593) (o := .cells #[.int .u64 t585, .int .u32 t586, .slice Ao63 t587.length co63, .int .i64 t590] 43 (0, 0)) (by (with_reducible repeat (first | refine zh ?_ _ | refine zj ?_ | refine zi ?_ _)); exact BK593.out) hb); have n10_ := zm (zJ (by repeat (first | (with_reducible first | exact HB.out | apply ze | apply zd | apply zf | refine zk ?_ GE564.out | refine zk ?_ GE565.out | refine zk ?_ GE573.out | refine zk ?_ GE583.out | refine zk ?_ GE593.out) | exact HB.out)) hb); have n11_ := zm (hbox); have n12_ := zm ((by rw [hg]; exact (zE (by repeat (first | (with_reducible first | exact HB.out | apply ze | apply zd | apply zf | refine zk ?_ GE564.out | refine zk ?_ GE565.out | refine zk ?_ GE573.out | refine zk ?_ GE583.out | refine zk ?_ GE593.out) | exact HB.out))) : w.heap.size ≤ gb615)); have n13_ := zm ((by rw [hg]; exact (zE (by repeat (first | (with_reducible first | exact HB.out | apply ze | apply zd | apply zf | refine zk ?_ GE564.out | refine zk ?_ GE565.out | refine zk ?_ GE573.out | refine zk ?_ GE583.out | refine zk ?_ GE593.out) | exact HB.out))) : w.heap.size ≤ gb615)); have n14_ := zm ((by rw [hg]; exact zn (zD (g := gb564) (o := .cells #[.int .u64 a0_0, .int .u32 a0_1, .slice A0_2 l0_2.length c0_2] 26 (0, 0)) (by (with_reducible repeat (first | refine zh ?_ _ | refine zj ?_ | refine zi ?_ _)); exact BK564.out)) : gb564 ≠ gb615)); have n15_ := zm ((by rw [hg]; exact zg (zD (g := gb564) (o := .cells #[.int .u64 a0_0, .int .u32 a0_1, .slice A0_2 l0_2.length c0_2] 26 (0, 0)) (by (with_reducible repeat (first | refine zh ?_ _ | refine zj ?_ | refine zi ?_ _)); exact BK564.out)) : gb615 ≠ gb564)); have n16_ := zm ((by rw [hg]; exact zn (zD (g := gb565) (o := .cells #[.int .u64 a1_0, .int .u32 a1_1, .slice A1_2 l1_2.length c1_2, .int .i64 a1_3] 43 (0, 0)) (by (with_reducible repeat (first | refine zh ?_ _ | refine zj ?_ | refine zi ?_ _)); exact BK565.out)) : gb565 ≠ gb615)); have n17_ := zm ((by rw [hg]; exact zg (zD (g := gb565) (o := .cells #[.int .u64 a1_0, .int .u32 a1_1, .slice A1_2 l1_2.length c1_2, .int .i64 a1_3] 43 (0, 0)) (by (with_reducible repeat (first | refine zh ?_ _ | refine zj ?_ | refine zi ?_ _)); exact BK565.out)) : gb615 ≠ gb565)); have n18_ := zm ((by rw [hg]; exact zn (zD (g := gb573) (o := .cells #[.int .u64 t567, .int .u32 t568, .slice Ao28 t569.length co28] 26 (0, 0)) (by (with_reducible repeat (first | refine zh ?_ _ | refine zj ?_ | refine zi ?_ _)); exact BK573.out)) : gb573 ≠ gb615)); have n19_ := zm ((by rw [hg]; exact zg (zD (g := gb573) (o := .cells #[.int .u64 t567, .int .u32 t568, .slice Ao28 t569.length co28] 26 (0, 0)) (by (with_reducible repeat (first | refine zh ?_ _ | refine zj ?_ | refine zi ?_ _)); exact BK573.out)) : gb615 ≠ gb573)); have n20_ := zm ((by rw [hg]; exact zn (zD (g := gb583) (o := .cells #[.int .u64 t578, .slice Ao38 t579.length co38] 33 (0, 0)) (by (with_reducible repeat (first | refine zh ?_ _ | refine zj ?_ | refine zi ?_ _)); exact BK583.out)) : gb583 ≠ gb615)); have n21_ := zm ((by rw [hg]; exact zg (zD (g := gb583) (o := .cells #[.int .u64 t578, .slice Ao38 t579.length co38] 33 (0, 0)) (by (with_reducible repeat (first | refine zh ?_ _ | refine zj ?_ | refine zi ?_ _)); exact BK583.out)) : gb615 ≠ gb583)); have n22_ := zm ((by rw [hg]; exact zn (zD (g := gb593) (o := .cells #[.int .u64 t585, .int .u32 t586, .slice Ao63 t587.length co63, .int .i64 t590] 43 (0, 0)) (by (with_reducible repeat (first | refine zh ?_ _ | refine zj ?_ | refine zi ?_ _)); exact BK593.out)) : gb593 ≠ gb615)); have n23_ := zm ((by rw [hg]; exact zg (zD (g := gb593) (o := .cells #[.int .u64 t585, .int .u32 t586, .slice Ao63 t587.length co63, .int .i64 t590] 43 (0, 0)) (by (with_reducible repeat (first | refine zh ?_ _ | refine zj ?_ | refine zi ?_ _)); exact BK593.out)) : gb615 ≠ gb593)); clear HO_574002; clear HO_584001; clear HO_594002; clear HO606; clear HO612; clear BK564; clear BK565; clear BK573; clear BK583; clear BK593; clear HB; have HO_574002 := n0_; have HO_584001 := n1_; have HO_594002 := n2_; have HO606 := n3_; have HO612 := n4_; have BK564 := n5_; have BK565 := n6_; have BK573 := n7_; have BK583 := n8_; have BK593 := n9_; have HB := n10_; have BK615 := n11_; have GW615 := n12_; have GE615 := n13_; have NB564_615 := n14_; have NB615_564 := n15_; have NB565_615 := n16_; have NB615_565 := n17_; have NB573_615 := n18_; have NB615_573 := n19_; have NB583_615 := n20_; have NB615_583 := n21_; have NB593_615 := n22_; have NB615_593 := n23_; clear n0_ n1_ n2_ n3_ n4_ n5_ n6_ n7_ n8_ n9_ n10_ n11_ n12_ n13_ n14_ n15_ n16_ n17_ n18_ n19_ n20_ n21_ n22_ n23_; clear hb hbox hg; have hnb93 := NB615_564.out; have hnc93 := NB564_615.out; have hnb94 := NB615_565.out; have hnc94 := NB565_615.out; have hnb95 := NB615_573.out; have hnc95 := NB573_615.out; have hnb96 := NB615_583.out; have hnc96 := NB583_615.out; have hnb97 := NB615_593.out; have hnc97 := NB593_615.out; have hcz98_0 : w92.cell? ⟨gb615, 0, none⟩ = some (.int .u64 0) := (zs BK615.out 0).trans rfl; have hcz98_1 : w92.cell? ⟨gb615, 1, none⟩ = some (.int .u64 0) := (zs BK615.out 1).trans rfl; have hcz98_2 : w92.cell? ⟨gb615, 2, none⟩ = some (.slice none 0 0) := (zs BK615.out 2).trans rfl; have hcz98_3 : w92.cell? ⟨gb615, 3, none⟩ = some (.int .i64 0) := (zs BK615.out 3).trans rfl; have hfz98_0 := zx BK615.out 0; have hfz98_1 := zx BK615.out 1; have hfz98_2 := zx BK615.out 2; have hfz98_3 := zx BK615.out 3; obtain ⟨Ao99, co99, eo99⟩ := Kd.V_slice HO612.out; subst eo99; have hnb100 := NB593_564.out; have hnc100 := NB564_593.out; have hnb101 := NB593_573.out; have hnc101 := NB573_593.out; have hnb102 := NB593_583.out; have hnc102 := NB583_593.out; have hcz103_0 : w92.cell? ⟨gb593, 0, none⟩ = some (.int .u64 t585) := (zs BK593.out 0).trans rfl; have hcz103_1 : w92.cell? ⟨gb593, 1, none⟩ = some (.int .u32 t586) := (zs BK593.out 1).trans rfl; have hcz103_2 : w92.cell? ⟨gb593, 2, none⟩ = some (.slice Ao63 t587.length co63) := (zs BK593.out 2).trans rfl; have hcz103_3 : w92.cell? ⟨gb593, 3, none⟩ = some (.int .i64 t590) := (zs BK593.out 3).trans rfl; have hfz103_0 := zx BK593.out 0; have hfz103_1 := zx BK593.out 1; have hfz103_2 := zx BK593.out 2; have hfz103_3 := zx BK593.out 3) | (go_at_call 25; (with_reducible refine (psalterylaw05_SameDec.calls t585 t586 _ _ t587 t590 t608 t609 _ _ t610 t613 true _ ?side1 ?side2 ?side3 ?side4 A81.out).mono ?_); (case side1 => refine (Kd.V_reads' (e := 5) (base := w.heap.size) (ok := fun k_ => ((some k_ ≠ (.slice Ao28 t569.length co28 : Value).ownBlock ∧ (k_ ≠ gb564 ∧ (k_ ≠ gb565 ∧ (k_ ≠ gb573 ∧ (k_ ≠ gb583 ∧ k_ ≠ gb593))))) ∧ k_ ≠ gb615)) (n := t587.length) (c := co63) ?_).2.2; exact (by (with_reducible repeat (first | apply zA | apply zB | apply zC)); exact (zy (zI (p := ⟨gb615, 3, none⟩) (zI (p := ⟨gb615, 2, none⟩) (zI (p := ⟨gb615, 1, none⟩) (zI (p := ⟨gb615, 0, none⟩) (zy HO_594002.out (fun k_ hk => (⟨hk, hk.2⟩ : _ ∧ k_ ≠ gb615))) (fun _ hk => hk.2) (.int .u64 t608)) (fun _ hk => hk.2) (.int .u64 t609)) (fun _ hk => hk.2) (.slice Ao99 t610.length co99)) (fun _ hk => hk.2) (.int .i64 t613)) (fun _ h_ => h_.1)))); (case side2 => exact (Kd.V_reads' HO_594002.out).2.1); (case side3 => refine (Kd.V_reads' (e := 5) (base := w.heap.size) (ok := fun k_ => ((some k_ ≠ (.slice Ao28 t569.length co28 : Value).ownBlock ∧ (k_ ≠ gb564 ∧ (k_ ≠ gb565 ∧ (k_ ≠ gb573 ∧ (k_ ≠ gb583 ∧ k_ ≠ gb593))))) ∧ k_ ≠ gb615)) (n := t610.length) (c := co99) ?_).2.2; exact (by (with_reducible repeat (first | apply zA | apply zB | apply zC)); exact (zy (zI (p := ⟨gb615, 3, none⟩) (zI (p := ⟨gb615, 2, none⟩) (zI (p := ⟨gb615, 1, none⟩) (zI (p := ⟨gb615, 0, none⟩) (zy HO612.out (fun k_ hk => (⟨hk, hk.2⟩ : _ ∧ k_ ≠ gb615))) (fun _ hk => hk.2) (.int .u64 t608)) (fun _ hk => hk.2) (.int .u64 t609)) (fun _ hk => hk.2) (.slice Ao99 t610.length co99)) (fun _ hk => hk.2) (.int .i64 t613)) (fun _ h_ => h_.1)))); (case side4 => exact (Kd.V_reads' HO612.out).2.1); rintro e w104 ⟨rfl, hb⟩; have n0_ := zm (Kd.R_below (by (with_reducible repeat (first | apply zo | apply zp | apply zq)); exact (zG (zH (p := ⟨gb615, 3, none⟩) (zH (p := ⟨gb615, 2, none⟩) (zH (p := ⟨gb615, 1, none⟩) (zH (p := ⟨gb615, 0, none⟩) (Kd.R_types HO_574002.out BK615.out (by decide)) (fun _ hk => hk.2) (.int .u64 t608)) (fun _ hk => hk.2) (.int .u64 t609)) (fun _ hk => hk.2) (.slice Ao99 t610.length co99)) (fun _ hk => hk.2) (.int .i64 t613)) (fun _ h_ => h_.1))) hb); have n1_ := zm (Kd.V_below (by (with_reducible repeat (first | apply zA | apply zB | apply zC)); exact (zy (zI (p := ⟨gb615, 3, none⟩) (zI (p := ⟨gb615, 2, none⟩) (zI (p := ⟨gb615, 1, none⟩) (zI (p := ⟨gb615, 0, none⟩) (zy HO_584001.out (fun k_ hk => (⟨hk, hk.2⟩ : _ ∧ k_ ≠ gb615))) (fun _ hk => hk.2) (.int .u64 t608)) (fun _ hk => hk.2) (.int .u64 t609)) (fun _ hk => hk.2) (.slice Ao99 t610.length co99)) (fun _ hk => hk.2) (.int .i64 t613)) (fun _ h_ => h_.1))) hb); have n2_ := zm (Kd.V_below (by (with_reducible repeat (first | apply zA | apply zB | apply zC)); exact (zy (zI (p := ⟨gb615, 3, none⟩) (zI (p := ⟨gb615, 2, none⟩) (zI (p := ⟨gb615, 1, none⟩) (zI (p := ⟨gb615, 0, none⟩) (zy HO_594002.out (fun k_ hk => (⟨hk, hk.2⟩ : _ ∧ k_ ≠ gb615))) (fun _ hk => hk.2) (.int .u64 t608)) (fun _ hk => hk.2) (.int .u64 t609)) (fun _ hk => hk.2) (.slice Ao99 t610.length co99)) (fun _ hk => hk.2) (.int .i64 t613)) (fun _ h_ => h_.1))) hb); have n3_ := zm (Kd.V_below (by (with_reducible repeat (first | apply zA | apply zB | apply zC)); exact (zy (zI (p := ⟨gb615, 3, none⟩) (zI (p := ⟨gb615, 2, none⟩) (zI (p := ⟨gb615, 1, none⟩) (zI (p := ⟨gb615, 0, none⟩) (zy HO606.out (fun k_ hk => (⟨hk, hk.2⟩ : _ ∧ k_ ≠ gb615))) (fun _ hk => hk.2) (.int .u64 t608)) (fun _ hk => hk.2) (.int .u64 t609)) (fun _ hk => hk.2) (.slice Ao99 t610.length co99)) (fun _ hk => hk.2) (.int .i64 t613)) (fun _ h_ => h_.1))) hb); have n4_ := zm (Kd.V_below (by (with_reducible repeat (first | apply zA | apply zB | apply zC)); exact (zy (zI (p := ⟨gb615, 3, none⟩) (zI (p := ⟨gb615, 2, none⟩) (zI (p := ⟨gb615, 1, none⟩) (zI (p := ⟨gb615, 0, none⟩) (zy HO612.out (fun k_ hk => (⟨hk, hk.2⟩ : _ ∧ k_ ≠ gb615))) (fun _ hk => hk.2) (.int .u64 t608)) (fun _ hk => hk.2) (.int .u64 t609)) (fun _ hk => hk.2) (.slice Ao99 t610.length co99)) (fun _ hk => hk.2) (.int .i64 t613)) (fun _ h_ => h_.1))) hb); have n5_ := zm (zF (g := gb564) (o := .cells #[.int .u64 a0_0, .int .u32 a0_1, .slice A0_2 l0_2.length c0_2] 26 (0, 0)) (by (with_reducible repeat (first | refine zh ?_ _ | refine zj ?_ | refine zi ?_ _)); refine zv ?_ NB564_615.out _; (with_reducible repeat (first | refine zh ?_ _ | refine zj ?_ | refine zi ?_ _)); refine zv ?_ NB564_615.out _; (with_reducible repeat (first | refine zh ?_ _ | refine zj ?_ | refine zi ?_ _)); refine zv ?_ NB564_615.out _; (with_reducible repeat (first | refine zh ?_ _ | refine zj ?_ | refine zi ?_ _)); refine zv ?_ NB564_615.out _; (with_reducible repeat (first | refine zh ?_ _ | refine zj ?_ | refine zi ?_ _)); exact BK564.out) hb); have n6_ := zm (zF (g := gb565) (o := .cells #[.int .u64 a1_0, .int .u32 a1_1, .slice A1_2 l1_2.length c1_2, .int .i64 a1_3] 43 (0, 0)) (by (with_reducible repeat (first | refine zh ?_ _ | refine zj ?_ | refine zi ?_ _)); refine zv ?_ NB565_615.out _; (with_reducible repeat (first | refine zh ?_ _ | refine zj ?_ | refine zi ?_ _)); refine zv ?_ NB565_615.out _; (with_reducible repeat (first | refine zh ?_ _ | refine zj ?_ | refine zi ?_ _)); refine zv ?_ NB565_615.out _; (with_reducible repeat (first | refine zh ?_ _ | refine zj ?_ | refine zi ?_ _)); refine zv ?_ NB565_615.out _; (with_reducible repeat (first | refine zh ?_ _ | refine zj ?_ | refine zi ?_ _)); exact BK565.out) hb); have n7_ := zm (zF (g := gb573) (o := .cells #[.int .u64 t567, .int .u32 t568, .slice Ao28 t569.length co28] 26 (0, 0)) (by (with_reducible repeat (first | refine zh ?_ _ | refine zj ?_ | refine zi ?_ _)); refine zv ?_ NB573_615.out _; (with_reducible repeat (first | refine zh ?_ _ | refine zj ?_ | refine zi ?_ _)); refine zv ?_ NB573_615.out _; (with_reducible repeat (first | refine zh ?_ _ | refine zj ?_ | refine zi ?_ _)); refine zv ?_ NB573_615.out _; (with_reducible repeat (first | refine zh ?_ _ | refine zj ?_ | refine zi ?_ _)); refine zv ?_ NB573_615.out _; (with_reducible repeat (first | refine zh ?_ _ | refine zj ?_ | refine zi ?_ _)); exact BK573.out) hb); have n8_ := zm (zF (g := gb583) (o := .cells #[.int .u64 t578, .slice Ao38 t579.length co38] 33 (0, 0)) (by (with_reducible repeat (first | refine zh ?_ _ | refine zj ?_ | refine zi ?_ _)); refine zv ?_ NB583_615.out _; (with_reducible repeat (first | refine zh ?_ _ | refine zj ?_ | refine zi ?_ _)); refine zv ?_ NB583_615.out _; (with_reducible repeat (first | refine zh ?_ _ | refine zj ?_ | refine zi ?_ _)); refine zv ?_ NB583_615.out _; (with_reducible repeat (first | refine zh ?_ _ | refine zj ?_ | refine zi ?_ _)); refine zv ?_ NB583_615.out _; (with_reducible repeat (first | refine zh ?_ _ | refine zj ?_ | refine zi ?_ _)); exact BK583.out) hb); have n9_ := zm (zF (g := gb593) (o := .cells #[.int .u64 t585, .int .u32 t586, .slice Ao63 t587.length co63, .int .i64 t590] 43 (0, 0)) (by (with_reducible repeat (first | refine zh ?_ _ | refine zj ?_ | refine zi ?_ _)); refine zv ?_ NB593_615.out _; (with_reducible repeat (first | refine zh ?_ _ | refine zj ?_ | refine zi ?_ _)); refine zv ?_ NB593_615.out _; (with_reducible repeat (first | refine zh ?_ _ | refine zj ?_ | refine zi ?_ _)); refine zv ?_ NB593_615.out _; (with_reducible repeat (first | refine zh ?_ _ | refine zj ?_ | refine zi ?_ _)); refine zv ?_ NB593_615.out _; (with_reducible repeat (first | refine zh ?_ _ | refine zj ?_ | refine zi ?_ _)); exact BK593.out) hb); have n10_ := zm (zF (g := gb615) (o := .cells #[.int .u64 t608, .int .u64 t609, .slice Ao99 t610.length co99, .int .i64 t613] 46 (0, 0)) (by (with_reducible repeat (first | refine zh ?_ _ | refine zj ?_ | refine zi ?_ _)); refine zw (cs := #[.int .u64 t608, .int .u64 t609, .slice Ao99 t610.length co99, .int .i64 0]) ?_ 3 _ rfl; (with_reducible repeat (first | refine zh ?_ _ | refine zj ?_ | refine zi ?_ _)); refine zw (cs := #[.int .u64 t608, .int .u64 t609, .slice none 0 0, .int .i64 0]) ?_ 2 _ rfl; (with_reducible repeat (first | refine zh ?_ _ | refine zj ?_ | refine zi ?_ _)); refine zw (cs := #[.int .u64 t608, .int .u64 0, .slice none 0 0, .int .i64 0]) ?_ 1 _ rfl; (with_reducible repeat (first | refine zh ?_ _ | refine zj ?_ | refine zi ?_ _)); refine zw (cs := #[.int .u64 0, .int .u64 0, .slice none 0 0, .int .i64 0]) ?_ 0 _ rfl; (with_reducible repeat (first | refine zh ?_ _ | refine zj ?_ | refine zi ?_ _)); exact BK615.out) hb); have n11_ := zm (zJ (by repeat (first | (with_reducible first | exact HB.out | apply ze | apply zd | apply zf | refine zk ?_ GE564.out | refine zk ?_ GE565.out | refine zk ?_ GE573.out | refine zk ?_ GE583.out | refine zk ?_ GE593.out | refine zk ?_ GE615.out) | exact HB.out)) hb); clear HO_574002; clear HO_584001; clear HO_594002; clear HO606; clear HO612; clear BK564; clear BK565; clear BK573; clear BK583; clear BK593; clear BK615; clear HB; have HO_574002 := n0_; have HO_584001 := n1_; have HO_594002 := n2_; have HO606 := n3_; have HO612 := n4_; have BK564 := n5_; have BK565 := n6_; have BK573 := n7_; have BK583 := n8_; have BK593 := n9_; have BK615 := n10_; have HB := n11_; clear n0_ n1_ n2_ n3_ n4_ n5_ n6_ n7_ n8_ n9_ n10_ n11_; (try clear hb); (try clear hb2); (try clear hk); (try clear hi)) | (go_at_call 17; (with_reducible refine (psalterylaw05_knows.calls kj50  t617 _ A83.out).mono ?_); rintro e w105 ⟨rfl, hb⟩; have n0_ := zm (Kd.R_below (by (with_reducible repeat (first | apply zo | apply zp | apply zq)); exact HO_574002.out) hb); have n1_ := zm (Kd.V_below (by (with_reducible repeat (first | apply zA | apply zB | apply zC)); exact HO_584001.out) hb); have n2_ := zm (Kd.V_below (by (with_reducible repeat (first | apply zA | apply zB | apply zC)); exact HO_594002.out) hb); have n3_ := zm (Kd.V_below (by (with_reducible repeat (first | apply zA | apply zB | apply zC)); exact HO606.out) hb); have n4_ := zm (Kd.V_below (by (with_reducible repeat (first | apply zA | apply zB | apply zC)); exact HO612.out) hb); have n5_ := zm (zF (g := gb564) (o := .cells #[.int .u64 a0_0, .int .u32 a0_1, .slice A0_2 l0_2.length c0_2] 26 (0, 0)) (by (with_reducible repeat (first | refine zh ?_ _ | refine zj ?_ | refine zi ?_ _)); exact BK564.out) hb); have n6_ := zm (zF (g := gb565) (o := .cells #[.int .u64 a1_0, .int .u32 a1_1, .slice A1_2 l1_2.length c1_2, .int .i64 a1_3] 43 (0, 0)) (by (with_reducible repeat (first | refine zh ?_ _ | refine zj ?_ | refine zi ?_ _)); exact BK565.out) hb); have n7_ := zm (zF (g := gb573) (o := .cells #[.int .u64 t567, .int .u32 t568, .slice Ao28 t569.length co28] 26 (0, 0)) (by (with_reducible repeat (first | refine zh ?_ _ | refine zj ?_ | refine zi ?_ _)); exact BK573.out) hb); have n8_ := zm (zF (g := gb583) (o := .cells #[.int .u64 t578, .slice Ao38 t579.length co38] 33 (0, 0)) (by (with_reducible repeat (first | refine zh ?_ _ | refine zj ?_ | refine zi ?_ _)); exact BK583.out) hb); have n9_ := zm (zF (g := gb593) (o := .cells #[.int .u64 t585, .int .u32 t586, .slice Ao63 t587.length co63, .int .i64 t590] 43 (0, 0)) (by (with_reducible repeat (first | refine zh ?_ _ | refine zj ?_ | refine zi ?_ _)); exact BK593.out) hb); have n10_ := zm (zF (g := gb615) (o := .cells #[.int .u64 t608, .int .u64 t609, .slice Ao99 t610.length co99, .int .i64 t613] 46 (0, 0)) (by (with_reducible repeat (first | refine zh ?_ _ | refine zj ?_ | refine zi ?_ _)); exact BK615.out) hb); have n11_ := zm (zJ (by repeat (first | (with_reducible first | exact HB.out | apply ze | apply zd | apply zf | refine zk ?_ GE564.out | refine zk ?_ GE565.out | refine zk ?_ GE573.out | refine zk ?_ GE583.out | refine zk ?_ GE593.out | refine zk ?_ GE615.out) | exact HB.out)) hb); clear HO_574002; clear HO_584001; clear HO_594002; clear HO606; clear HO612; clear BK564; clear BK565; clear BK573; clear BK583; clear BK593; clear BK615; clear HB; have HO_574002 := n0_; have HO_584001 := n1_; have HO_594002 := n2_; have HO606 := n3_; have HO612 := n4_; have BK564 := n5_; have BK565 := n6_; have BK573 := n7_; have BK583 := n8_; have BK593 := n9_; have BK615 := n10_; have HB := n11_; clear n0_ n1_ n2_ n3_ n4_ n5_ n6_ n7_ n8_ n9_ n10_ n11_; (try clear hb); (try clear hb2); (try clear hk); (try clear hi)))
             go_ret
             exact ⟨by first | rfl | (simp [errW_none, errW_some] <;> rfl) | (simp [*, errW_none, errW_some] <;> rfl), by repeat (first | (with_reducible first | exact HB.out | apply ze | apply zd | apply zf | refine zk ?_ GE564.out | refine zk ?_ GE565.out | refine zk ?_ GE573.out | refine zk ?_ GE583.out | refine zk ?_ GE593.out | refine zk ?_ GE615.out) | exact HB.out)⟩
            ·
             replace c82 := Bool.eq_false_iff.mpr c82
             subst c82
             have H1 : (none) = some r := by rw [if_neg (show ¬ (false = true) by decide)] at H; exact H
             clear H
             have H := H1
             clear H1
             exact absurd H (by simp)
           ·
            rw [if_neg c80] at H
            exact absurd H (by simp)
          ·
           rw [if_neg c79] at H
           exact absurd H (by simp)

end Go.Proofs.Ytkaoiblgfpphoaa.Prt
