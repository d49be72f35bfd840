-- Functions of the program and of the document as plain Lean, each with the proof that the code comes to it. Written by a program of this session (wip/tools/myprint.py, pack.py) over the kit's printer; Lean checks it.
import Derived.Test.YtkaoiblgfpphoaaZCoderNumsPrt0
import Derived.Test.YtkaoiblgfpphoaaZCoderNumsM2
import Derived.Test.YtkaoiblgfpphoaaZCoderNumsM1
namespace Go.Proofs.Ytkaoiblgfpphoaa.Prt
open Go.RowKit Go.Proofs.YtkaoiblgfpphoaaW.PrintWords Go.Proofs.YtkaoiblgfpphoaaW.PrintLast Go.Proofs.YtkaoiblgfpphoaaW.PrintMore
attribute [local go_sem] max2_int min2_int max_two min_two max_three min_three max_four min_four   -- for this text's walks alone
set_option linter.unusedVariables false
set_option linter.unusedSimpArgs false

/-! ### psalterylaw05_AsEnc: function 20 -/
def psalterylaw05_AsEnc.l0 : Nat → Int → Int → Int → List Int → Int → List Int → Option (Int × List Int)
 | 0, _, _, _, _, _, _ => none
 | k + 1, x4, x227000, x227001, x227002, x234000, x234001 => if x4 < (x227002.length : Int) then (if 0 ≤ x4 then (if x234001.length < 17592186044416 then (psalterylaw05_AsEnc.l0 k (wrap64 (x4 + 1)) x227000 x227001 x227002 x234000 (x234001 ++ [wrap64 (rd x227002 x4)])) else (none)) else (none)) else ((some (([wrap64 (IntKind.u64.wrap (Int.tdiv x227000 16777216)), wrap64 (Int.tmod (IntKind.u64.wrap (Int.tdiv x227000 65536)) 256), wrap64 (Int.tmod (IntKind.u64.wrap (Int.tdiv x227000 256)) 256), wrap64 (Int.tmod x227000 256)] : List Int) : List Int)).bind fun y238 => (if x234001.length + y238.length < 17592186044416 then (some (x234000, (x234001 ++ y238))) else (none)))
def psalterylaw05_AsEnc.f (k : Nat) (a0_0 : Int) (a0_1 : Int) (l0_2 : List Int) : Option (Int × List Int) := (psalterylaw05_right.f a0_0 a0_1 l0_2).bind fun t228 => (if t228 = true then (psalterylaw05_AsEnc.l0 k 0 a0_0 a0_1 l0_2 (IntKind.u64.wrap (a0_1)) ([] : List Int)) else ((psalteryref05_New.f).bind fun bt229 => (some (bt229.1, bt229.2))))
theorem psalterylaw05_AsEnc.mono_l : ∀ k, (∀ y0 y1 y2 y3 y4 y5, LeO (psalterylaw05_AsEnc.l0 k y0 y1 y2 y3 y4 y5) (psalterylaw05_AsEnc.l0 (k + 1) y0 y1 y2 y3 y4 y5))
 | 0 => fun _ _ _ _ _ _ r h => by simp [psalterylaw05_AsEnc.l0] at h
 | k + 1 => by
  have ih0 := psalterylaw05_AsEnc.mono_l k
  ·
   intro y0 y1 y2 y3 y4 y5
   unfold psalterylaw05_AsEnc.l0
   repeat' first
   | (with_reducible exact ih0 _ _ _ _ _ _)
   | (with_reducible exact LeO.refl _)
   | (with_reducible exact LeO.none _)
   | (with_reducible refine LeO.ite ?_ ?_)
   | (with_reducible refine LeO.bind ?_ (fun _ => ?_))
   | exact ih0 _ _ _ _ _ _
   | exact LeO.none _
   | refine LeO.ite ?_ ?_
   | refine LeO.bind ?_ (fun _ => ?_)
theorem psalterylaw05_AsEnc.mono : ∀ a0 a1 a2 k, LeO (psalterylaw05_AsEnc.f k a0 a1 a2) (psalterylaw05_AsEnc.f (k + 1) a0 a1 a2) := by
 intro a0 a1 a2 k
 have ih0 := psalterylaw05_AsEnc.mono_l k
 unfold psalterylaw05_AsEnc.f
 repeat' first
   | (with_reducible exact ih0 _ _ _ _ _ _)
   | (with_reducible exact LeO.refl _)
   | (with_reducible exact LeO.none _)
   | (with_reducible refine LeO.ite ?_ ?_)
   | (with_reducible refine LeO.bind ?_ (fun _ => ?_))
   | exact ih0 _ _ _ _ _ _
   | exact LeO.none _
   | refine LeO.ite ?_ ?_
   | refine LeO.bind ?_ (fun _ => ?_)
def psalterylaw05_AsEnc.T7 : Bool × List (List Nat × List Nat) := (true, [([], []), ([0], [0]), ([], []), ([2], [2]), ([], []), ([3, 4], [3, 4]), ([5], [5]), ([6], [6]), ([7], [7]), ([1, 8], [1, 8]), ([0, 1, 2, 3, 4, 5, 6, 7, 8, 9], []), ([10, 9, 9, 0, 1, 2, 3, 4, 5, 6, 7, 8, 9], [9, 10])])
def psalterylaw05_AsEnc.B7 : List Nat := [0, 1, 0, 4, 0, 28, 60, 124, 252, 511, 1023, 2047]
theorem psalterylaw05_AsEnc.tab7 : rtab .any (opsOf Try.f20 7) = psalterylaw05_AsEnc.T7 := by kernel_rfl
theorem psalterylaw05_AsEnc.bits7 : waitsOk psalterylaw05_AsEnc.T7.2 psalterylaw05_AsEnc.B7 = true := by kernel_rfl
set_option maxHeartbeats 8000000 in
set_option maxRecDepth 100000 in
theorem psalterylaw05_AsEnc.calls (k : Nat) (a0_0 : Int) (a0_1 : Int) (A0_2 : Option Addr) (c0_2 : Nat) (l0_2 : List Int) (r1 : Int) (r2 : List Int) (w : World) (hr0_2 : Kd.C (Kd.int .u8) w A0_2 l0_2.length l0_2) (hc0_2 : l0_2.length ≤ c0_2) (h : psalterylaw05_AsEnc.f k a0_0 a0_1 l0_2 = some (r1, r2)) :
  Calls Try.prog 20 #[.agg #[.int .u64 a0_0, .int .u32 a0_1, .slice A0_2 l0_2.length c0_2]] w fun e w' => ∃ v1_ : Value, e = .returned (.agg #[.int .u64 r1, v1_]) ∧ Kd.R (Kd.int .i64) 3 w' w.heap.size (fun _ => True) v1_ r2 ∧ Below w.heap.size w w' := by
 have hu26 := Try.underlying26
 have hu33 := Try.underlying33
 have HR0_2 := zm hr0_2
 have HC0_2 := zm hc0_2
 clear hr0_2 hc0_2
 have HB := zm (Below.refl w.heap.size w)
 have H : ((psalterylaw05_right.f a0_0 a0_1 l0_2).bind fun t228 => (if t228 = true then (psalterylaw05_AsEnc.l0 k 0 a0_0 a0_1 l0_2 (IntKind.u64.wrap (a0_1)) ([] : List Int)) else ((psalteryref05_New.f).bind fun bt229 => (some (bt229.1, bt229.2))))) = some (r1, r2) := h
 clear h
 replace H := Option.bind_eq_some_iff.mp H
 obtain ⟨t228, A20, H⟩ := H
 replace H : (if t228 = true then (psalterylaw05_AsEnc.l0 k 0 a0_0 a0_1 l0_2 (IntKind.u64.wrap (a0_1)) ([] : List Int)) else ((psalteryref05_New.f).bind fun bt229 => (some (bt229.1, bt229.2)))) = some (r1, r2) := H
 have A2 := zm A20
 clear A20
 by_cases c3 : t228 = true
 ·
  subst c3
  have H1 : (psalterylaw05_AsEnc.l0 k 0 a0_0 a0_1 l0_2 (IntKind.u64.wrap (a0_1)) ([] : List Int)) = some (r1, r2) := by rw [if_pos rfl] at H; exact H
  clear H
  have H := H1
  clear H1
  have H' := zm H
  clear H
  go_enter Try.func20, Try.ntmps20
  go_wp2_with (first | ((with_reducible refine gate_dst (N := 1) rfl ?_); refine box_event ?hg (N := 1) ?hd (cs := #[.int .u64 a0_0, .int .u32 a0_1, .slice A0_2 l0_2.length c0_2]) (t := 26) ?hr ?_; (case hd => rfl); (case hg => rfl); (case hr => first | (go_simp; done) | (go_simp; rfl)); intro gb226 hg w4 hbox hb; have n0_ := zm (zJ (by repeat (first | (with_reducible first | exact HB.out | apply ze | apply zd | apply zf) | exact HB.out)) hb); have n1_ := zm (hbox); have n2_ := zm ((by rw [hg]; exact (zE (by repeat (first | (with_reducible first | exact HB.out | apply ze | apply zd | apply zf) | exact HB.out))) : w.heap.size ≤ gb226)); have n3_ := zm ((by rw [hg]; exact (zE (by repeat (first | (with_reducible first | exact HB.out | apply ze | apply zd | apply zf) | exact HB.out))) : w.heap.size ≤ gb226)); clear HB; have HB := n0_; have BK226 := n1_; have GW226 := n2_; have GE226 := n3_; clear n0_ n1_ n2_ n3_; clear hb hbox hg) | ((with_reducible refine gate_dst (N := 2) rfl ?_); refine box_event ?hg (N := 2) ?hd (cs := #[.int .u64 0, .slice none 0 0]) (t := 33) ?hr ?_; (case hd => rfl); (case hg => rfl); (case hr => first | (go_simp; done) | (go_simp; rfl)); intro gb227 hg w5 hbox hb; have n0_ := zm (zF (g := gb226) (o := .cells #[.int .u64 a0_0, .int .u32 a0_1, .slice A0_2 l0_2.length c0_2] 26 (0, 0)) (by (with_reducible repeat (first | refine zh ?_ _ | refine zj ?_ | refine zi ?_ _)); exact BK226.out) hb); have n1_ := zm (zJ (by repeat (first | (with_reducible first | exact HB.out | apply ze | apply zd | apply zf | refine zk ?_ GE226.out) | exact HB.out)) hb); have n2_ := zm (hbox); have n3_ := zm ((by rw [hg]; exact (zE (by repeat (first | (with_reducible first | exact HB.out | apply ze | apply zd | apply zf | refine zk ?_ GE226.out) | exact HB.out))) : w.heap.size ≤ gb227)); have n4_ := zm ((by rw [hg]; exact (zE (by repeat (first | (with_reducible first | exact HB.out | apply ze | apply zd | apply zf | refine zk ?_ GE226.out) | exact HB.out))) : w.heap.size ≤ gb227)); have n5_ := zm ((by rw [hg]; exact zn (zD (g := gb226) (o := .cells #[.int .u64 a0_0, .int .u32 a0_1, .slice A0_2 l0_2.length c0_2] 26 (0, 0)) (by (with_reducible repeat (first | refine zh ?_ _ | refine zj ?_ | refine zi ?_ _)); exact BK226.out)) : gb226 ≠ gb227)); have n6_ := zm ((by rw [hg]; exact zg (zD (g := gb226) (o := .cells #[.int .u64 a0_0, .int .u32 a0_1, .slice A0_2 l0_2.length c0_2] 26 (0, 0)) (by (with_reducible repeat (first | refine zh ?_ _ | refine zj ?_ | refine zi ?_ _)); exact BK226.out)) : gb227 ≠ gb226)); clear BK226; clear HB; have BK226 := n0_; have HB := n1_; have BK227 := n2_; have GW227 := n3_; have GE227 := n4_; have NB226_227 := n5_; have NB227_226 := n6_; clear n0_ n1_ n2_ n3_ n4_ n5_ n6_; clear hb hbox hg; have hnb6 := NB226_227.out; have hnc6 := NB227_226.out; have hcz7_0 : w5.cell? ⟨gb226, 0, none⟩ = some (.int .u64 a0_0) := (zs BK226.out 0).trans rfl; have hcz7_1 : w5.cell? ⟨gb226, 1, none⟩ = some (.int .u32 a0_1) := (zs BK226.out 1).trans rfl; have hcz7_2 : w5.cell? ⟨gb226, 2, none⟩ = some (.slice A0_2 l0_2.length c0_2) := (zs BK226.out 2).trans rfl; have hfz7_0 := zx BK226.out 0; have hfz7_1 := zx BK226.out 1; have hfz7_2 := zx BK226.out 2) | ((with_reducible refine gate_callee (f := 22) rfl ?_); refine goesL_ (some 6) rfl rfl Try.func22 (by kernel_rfl) rfl #[.agg #[.int .u64 a0_0, .int .u32 a0_1, .slice A0_2 l0_2.length c0_2]] rfl (by (try simp only [List.map_toArray, List.map_cons, List.map_nil]); first | done | rfl | (simp only [List.length_drop, List.length_take]; rfl)) ?_; (with_reducible refine (psalterylaw05_right.calls a0_0 a0_1 _ _ l0_2 true _ ?side1 ?side2 A2.out).mono ?_); (case side1 => repeat (first | exact (Kd.C_below HR0_2.out HB.out) | (with_reducible refine Kd.C_alloc ?_ _) | (with_reducible refine Kd.C_drewN ?_ _) | (with_reducible refine Kd.C_drew ?_))); (case side2 => exact HC0_2.out); rintro e w8 ⟨rfl, hb⟩; refine ⟨_, rfl, ?_⟩; have n0_ := zm (zF (g := gb226) (o := .cells #[.int .u64 a0_0, .int .u32 a0_1, .slice A0_2 l0_2.length c0_2] 26 (0, 0)) (by (with_reducible repeat (first | refine zh ?_ _ | refine zj ?_ | refine zi ?_ _)); exact BK226.out) hb); have n1_ := zm (zF (g := gb227) (o := .cells #[.int .u64 0, .slice none 0 0] 33 (0, 0)) (by (with_reducible repeat (first | refine zh ?_ _ | refine zj ?_ | refine zi ?_ _)); exact BK227.out) hb); have n2_ := zm (zJ (by repeat (first | (with_reducible first | exact HB.out | apply ze | apply zd | apply zf | refine zk ?_ GE226.out | refine zk ?_ GE227.out) | exact HB.out)) hb); clear BK226; clear BK227; clear HB; have BK226 := n0_; have BK227 := n1_; have HB := n2_; clear n0_ n1_ n2_; (try clear hb); (try clear hb2); (try clear hk); (try clear hi); have hcz9_0 : w8.cell? ⟨gb226, 0, none⟩ = some (.int .u64 a0_0) := (zs BK226.out 0).trans rfl; have hcz9_1 : w8.cell? ⟨gb226, 1, none⟩ = some (.int .u32 a0_1) := (zs BK226.out 1).trans rfl; have hcz9_2 : w8.cell? ⟨gb226, 2, none⟩ = some (.slice A0_2 l0_2.length c0_2) := (zs BK226.out 2).trans rfl; have hfz9_0 := zx BK226.out 0; have hfz9_1 := zx BK226.out 1; have hfz9_2 := zx BK226.out 2) | ((with_reducible refine gate_dst (N := 3) rfl ?_); refine box_event ?hg (N := 3) ?hd (cs := #[.int .u64 0, .slice none 0 0]) (t := 33) ?hr ?_; (case hd => rfl); (case hg => rfl); (case hr => first | (go_simp; done) | (go_simp; rfl)); intro gb233 hg w10 hbox hb; have n0_ := zm (zF (g := gb226) (o := .cells #[.int .u64 a0_0, .int .u32 a0_1, .slice A0_2 l0_2.length c0_2] 26 (0, 0)) (by (with_reducible repeat (first | refine zh ?_ _ | refine zj ?_ | refine zi ?_ _)); exact BK226.out) hb); have n1_ := zm (zF (g := gb227) (o := .cells #[.int .u64 0, .slice none 0 0] 33 (0, 0)) (by (with_reducible repeat (first | refine zh ?_ _ | refine zj ?_ | refine zi ?_ _)); exact BK227.out) hb); have n2_ := zm (zJ (by repeat (first | (with_reducible first | exact HB.out | apply ze | apply zd | apply zf | refine zk ?_ GE226.out | refine zk ?_ GE227.out) | exact HB.out)) hb); have n3_ := zm (hbox); have n4_ := zm ((by rw [hg]; exact (zE (by repeat (first | (with_reducible first | exact HB.out | apply ze | apply zd | apply zf | refine zk ?_ GE226.out | refine zk ?_ GE227.out) | exact HB.out))) : w.heap.size ≤ gb233)); have n5_ := zm ((by rw [hg]; exact (zE (by repeat (first | (with_reducible first | exact HB.out | apply ze | apply zd | apply zf | refine zk ?_ GE226.out | refine zk ?_ GE227.out) | exact HB.out))) : w.heap.size ≤ gb233)); have n6_ := zm ((by rw [hg]; exact zn (zD (g := gb226) (o := .cells #[.int .u64 a0_0, .int .u32 a0_1, .slice A0_2 l0_2.length c0_2] 26 (0, 0)) (by (with_reducible repeat (first | refine zh ?_ _ | refine zj ?_ | refine zi ?_ _)); exact BK226.out)) : gb226 ≠ gb233)); have n7_ := zm ((by rw [hg]; exact zg (zD (g := gb226) (o := .cells #[.int .u64 a0_0, .int .u32 a0_1, .slice A0_2 l0_2.length c0_2] 26 (0, 0)) (by (with_reducible repeat (first | refine zh ?_ _ | refine zj ?_ | refine zi ?_ _)); exact BK226.out)) : gb233 ≠ gb226)); have n8_ := zm ((by rw [hg]; exact zn (zD (g := gb227) (o := .cells #[.int .u64 0, .slice none 0 0] 33 (0, 0)) (by (with_reducible repeat (first | refine zh ?_ _ | refine zj ?_ | refine zi ?_ _)); exact BK227.out)) : gb227 ≠ gb233)); have n9_ := zm ((by rw [hg]; exact zg (zD (g := gb227) (o := .cells #[.int .u64 0, .slice none 0 0] 33 (0, 0)) (by (with_reducible repeat (first | refine zh ?_ _ | refine zj ?_ | refine zi ?_ _)); exact BK227.out)) : gb233 ≠ gb227)); clear BK226; clear BK227; clear HB; have BK226 := n0_; have BK227 := n1_; have HB := n2_; have BK233 := n3_; have GW233 := n4_; have GE233 := n5_; have NB226_233 := n6_; have NB233_226 := n7_; have NB227_233 := n8_; have NB233_227 := n9_; clear n0_ n1_ n2_ n3_ n4_ n5_ n6_ n7_ n8_ n9_; clear hb hbox hg; have hnb11 := NB233_226.out; have hnc11 := NB226_233.out; have hnb12 := NB233_227.out; have hnc12 := NB227_233.out; have hcz13_0 : w10.cell? ⟨gb233, 0, none⟩ = some (.int .u64 0) := (zs BK233.out 0).trans rfl; have hcz13_1 : w10.cell? ⟨gb233, 1, none⟩ = some (.slice none 0 0) := (zs BK233.out 1).trans rfl; have hfz13_0 := zx BK233.out 0; have hfz13_1 := zx BK233.out 1))
  go_loopg [4] k (fun kq v4 w' => ∃ (x4_1 : Int) (x234001_1 : List Int) (u234001 : Value), v4 = .int .i64 x4_1 ∧ Aside0 (psalterylaw05_AsEnc.l0 kq x4_1 a0_0 a0_1 l0_2 (IntKind.u64.wrap (a0_1)) x234001_1 = some (r1, r2)) ∧ Aside0 (kq ≤ k) ∧ Aside0 (Kd.R (Kd.int .i64) 3 w' w.heap.size (fun _ => True) u234001 x234001_1) ∧ Aside0 (w'.heap[gb226]? = some (.cells #[.int .u64 a0_0, .int .u32 a0_1, (.slice A0_2 l0_2.length c0_2)] 26 (0, 0))) ∧ Aside0 (w'.heap[gb227]? = some (.cells #[.int .u64 0, (.slice none 0 0)] 33 (0, 0))) ∧ Aside0 (w'.heap[gb233]? = some (.cells #[.int .u64 (IntKind.u64.wrap (a0_1)), u234001] 33 (0, 0))) ∧ Aside0 (Below w.heap.size w w'))
  case atStart => exact ⟨(0), (([] : List Int)), (.slice none 0 0), (by first | rfl | (simp; done) | (simp [*]; done)), H', ⟨Nat.le_refl _⟩, ⟨by first | exact Kd.R_nil _ _ _ _ _ | exact Kd.N_nil _ _ _ _ _ | exact Kd.V_nil _ _ _ _ _ | exact Kd.Q_nil _ _ _ _ _ | exact Kd.S_nil _ _ _ _ _⟩, ⟨by (with_reducible repeat (first | refine zh ?_ _ | refine zj ?_ | refine zi ?_ _)); refine zv ?_ NB226_233.out _; (with_reducible repeat (first | refine zh ?_ _ | refine zj ?_ | refine zi ?_ _)); refine zv ?_ NB226_233.out _; (with_reducible repeat (first | refine zh ?_ _ | refine zj ?_ | refine zi ?_ _)); exact BK226.out⟩, ⟨by (with_reducible repeat (first | refine zh ?_ _ | refine zj ?_ | refine zi ?_ _)); refine zv ?_ NB227_233.out _; (with_reducible repeat (first | refine zh ?_ _ | refine zj ?_ | refine zi ?_ _)); refine zv ?_ NB227_233.out _; (with_reducible repeat (first | refine zh ?_ _ | refine zj ?_ | refine zi ?_ _)); exact BK227.out⟩, ⟨by (with_reducible repeat (first | refine zh ?_ _ | refine zj ?_ | refine zi ?_ _)); refine zw (cs := #[.int .u64 (IntKind.u64.wrap (a0_1)), .slice none 0 0]) ?_ 1 _ rfl; (with_reducible repeat (first | refine zh ?_ _ | refine zj ?_ | refine zi ?_ _)); refine zw (cs := #[.int .u64 0, .slice none 0 0]) ?_ 0 _ rfl; (with_reducible repeat (first | refine zh ?_ _ | refine zj ?_ | refine zi ?_ _)); exact BK233.out⟩, ⟨by repeat (first | (with_reducible first | exact HB.out | apply ze | apply zd | apply zf | refine zk ?_ GE226.out | refine zk ?_ GE227.out | refine zk ?_ GE233.out) | exact HB.out)⟩⟩
  case round =>
   clear H'
   try clear c1
   try clear c2
   try clear p2
   try clear c3
   try clear c6
   try clear c11
   try clear c12
   try clear hcz13_0
   try clear hcz13_1
   try clear hcz7_0
   try clear hcz7_1
   try clear hcz7_2
   try clear hcz9_0
   try clear hcz9_1
   try clear hcz9_2
   try clear hfz13_0
   try clear hfz13_1
   try clear hfz7_0
   try clear hfz7_1
   try clear hfz7_2
   try clear hfz9_0
   try clear hfz9_1
   try clear hfz9_2
   obtain ⟨x4_1, x234001_1, u234001, rfl, HA, HK1, HO_234001, BK226, BK227, BK233, HB⟩ := hrel
   cases gk with
   | zero => exact absurd HA.out (by simp [psalterylaw05_AsEnc.l0])
   | succ k1 =>
    have H := HA.out
    clear HA
    simp only [psalterylaw05_AsEnc.l0] at H
    by_cases c14 : x4_1 < (l0_2.length : Int)
    ·
     rw [if_pos c14] at H
     have c14b0 : decide (x4_1 < (l0_2.length : Int)) = true := decide_eq_true c14
     clear c14
     by_cases c15 : 0 ≤ x4_1
     ·
      rw [if_pos c15] at H
      have c15b0 : decide (0 ≤ x4_1) = true := decide_eq_true c15
      clear c15
      by_cases c16 : x234001_1.length < 17592186044416
      ·
       rw [if_pos c16] at H
       have LMc16 := zm c16
       clear c16
       obtain ⟨y235, hy235⟩ : ∃ y_ : List Int, y_ = (x234001_1 ++ [wrap64 (rd l0_2 x4_1)]) := ⟨_, rfl⟩
       replace H : (psalterylaw05_AsEnc.l0 k1 (wrap64 (x4_1 + 1)) a0_0 a0_1 l0_2 (IntKind.u64.wrap (a0_1)) y235) = some (r1, r2) := by first | (rw [hy235]; with_reducible exact H) | (have H2_ := (Option.bind_some _ _).symm.trans H; rw [hy235]; with_reducible exact H2_) | (have H2_ := (Option.bind_some _ _).symm.trans H; with_reducible exact H2_) | with_reducible exact H | (rw [hy235]; exact H) | exact H
       have Ny235 := zm hy235
       clear hy235
       have H' := zm H
       clear H
       have hnb17 := NB226_227.out
       have hnc17 := NB227_226.out
       have hnb18 := NB226_233.out
       have hnc18 := NB233_226.out
       have hcz19_0 : wr.cell? ⟨gb226, 0, none⟩ = some (.int .u64 a0_0) := (zs BK226.out 0).trans rfl
       have hcz19_1 : wr.cell? ⟨gb226, 1, none⟩ = some (.int .u32 a0_1) := (zs BK226.out 1).trans rfl
       have hcz19_2 : wr.cell? ⟨gb226, 2, none⟩ = some (.slice A0_2 l0_2.length c0_2) := (zs BK226.out 2).trans rfl
       have hfz19_0 := zx BK226.out 0
       have hfz19_1 := zx BK226.out 1
       have hfz19_2 := zx BK226.out 2
       try go_wp2
       have n0_ := zm (zq HO_234001.out)
       have n1_ := zm (zj BK226.out)
       have n2_ := zm (zj BK227.out)
       have n3_ := zm (zj BK233.out)
       have n4_ := zm (zf HB.out)
       clear HO_234001
       clear BK226
       clear BK227
       clear BK233
       clear HB
       have HO_234001 := n0_
       have BK226 := n1_
       have BK227 := n2_
       have BK233 := n3_
       have HB := n4_
       clear n0_ n1_ n2_ n3_ n4_
       have p234 : 0 ≤ (x4_1 : Int) := of_decide_eq_true (by first | (with_reducible assumption) | assumption)
       have q234 : x4_1 < (l0_2.length : Int) := of_decide_eq_true (by first | (with_reducible assumption) | assumption)
       obtain ⟨ad234, e234, hx234_0⟩ := Kd.at_int HR0_2.out x4_1 p234 q234
       have hw234_0 := hx234_0
       cases e234
       replace hx234_0 := (HB.out.cell (zb w _ hx234_0)).trans hx234_0
       replace p234 := eq_true p234
       replace q234 := eq_true q234
       refine start_ (n := 12) (S := fun w' => w'.cell? ⟨gb233, 0, none⟩ = some (.int .u64 (IntKind.u64.wrap (a0_1))) ∧ w'.cell? ⟨gb233, 1, none⟩ = some (u234001) ∧ w'.cell? ⟨gb226, 0, none⟩ = some (.int .u64 a0_0) ∧ w'.cell? ⟨gb226, 1, none⟩ = some (.int .u32 a0_1) ∧ w'.cell? ⟨gb226, 2, none⟩ = some (.slice (some ad234) l0_2.length c0_2) ∧ w'.cell? (ad234.add (x4_1).toNat) = some (.int .u8 (rd l0_2 x4_1))) (ds := [11]) #[false, false, false, false, false, false, false, false, false, false, false, false] (by kernel_rfl) rfl rfl ⟨(zs BK233.out 0).trans rfl, (zs BK233.out 1).trans rfl, (zs BK226.out 0).trans rfl, (zs BK226.out 1).trans rfl, (zs BK226.out 2).trans rfl, ((HB.out.cell (zb w _ hw234_0)).trans hw234_0)⟩ (fun hHeld => ?_); refine with_tabW psalterylaw05_AsEnc.tab7 psalterylaw05_AsEnc.bits7 (fun HT_ HW_ => ?_)
       generalize wr.drew = w20 at HO_234001 BK226 BK227 BK233 HB hx234_0 hHeld ⊢
       refine pure_ (i := 0) (N := some 20) (v := ?_) (a' := ?_) #[true, false, false, false, false, false, false, false, false, false, false, false] rfl rfl (any_of HT_.out (by kernel_rfl)) (fun _ _ _ h => h) (Or.inl ⟨by rfl, ?_⟩) ?_ ?_
       rotate_left
       ·
        intro w'
        go_simp
        with_reducible rfl
       rotate_left
       ·
        simp only [Act.put, List.setIfInBounds_toArray, List.set_cons_zero, List.set_cons_succ, i64_w, i32_w]
        rfl
       refine pure_ (i := 2) (N := some 22) (v := ?_) (a' := ?_) #[true, false, true, false, false, false, false, false, false, false, false, false] rfl rfl (any_of HT_.out (by kernel_rfl)) (fun _ _ _ h => h) (Or.inl ⟨by rfl, ?_⟩) ?_ ?_
       rotate_left
       ·
        intro w'
        go_simp
        with_reducible rfl
       rotate_left
       ·
        simp only [Act.put, List.setIfInBounds_toArray, List.set_cons_zero, List.set_cons_succ, i64_w, i32_w]
        rfl
       refine pure_ (i := 4) (N := some 24) (v := ?_) (a' := ?_) #[true, false, true, false, true, false, false, false, false, false, false, false] rfl rfl (any_of HT_.out (by kernel_rfl)) (fun _ _ _ h => h) (Or.inl ⟨by rfl, ?_⟩) ?_ ?_
       rotate_left
       ·
        intro w'
        go_simp
        with_reducible rfl
       rotate_left
       ·
        simp only [Act.put, List.setIfInBounds_toArray, List.set_cons_zero, List.set_cons_succ, i64_w, i32_w]
        rfl
       refine take_ (i := 1) (N := some 21) (v := ?_) (a' := ?_) #[true, true, true, false, true, false, false, false, false, false, false, false] rfl rfl (take_ofW HT_.out HW_.out (by kernel_rfl)) (fun _ _ _ h => h) (Or.inl ⟨by rfl, ?_⟩) hHeld ?_ ?_
       rotate_left
       ·
        rintro w' ⟨s0, s1, s2, s3, s4, s5⟩
        go_simp
        with_reducible rfl
       rotate_left
       ·
        simp only [Act.put, List.setIfInBounds_toArray, List.set_cons_zero, List.set_cons_succ, i64_w, i32_w]
        rfl
       refine take_ (i := 3) (N := some 23) (v := ?_) (a' := ?_) #[true, true, true, true, true, false, false, false, false, false, false, false] rfl rfl (take_ofW HT_.out HW_.out (by kernel_rfl)) (fun _ _ _ h => h) (Or.inl ⟨by rfl, ?_⟩) hHeld ?_ ?_
       rotate_left
       ·
        rintro w' ⟨s0, s1, s2, s3, s4, s5⟩
        go_simp
        with_reducible rfl
       rotate_left
       ·
        simp only [Act.put, List.setIfInBounds_toArray, List.set_cons_zero, List.set_cons_succ, i64_w, i32_w]
        rfl
       refine pure_ (i := 5) (N := some 25) (v := ?_) (a' := ?_) #[true, true, true, true, true, true, false, false, false, false, false, false] rfl rfl (any_of HT_.out (by kernel_rfl)) (fun _ _ _ h => h) (Or.inl ⟨by rfl, ?_⟩) ?_ ?_
       rotate_left
       ·
        intro w'
        go_simp
        with_reducible rfl
       rotate_left
       ·
        simp only [Act.put, List.setIfInBounds_toArray, List.set_cons_zero, List.set_cons_succ, i64_w, i32_w]
        rfl
       refine take_ (i := 6) (N := some 26) (v := ?_) (a' := ?_) #[true, true, true, true, true, true, true, false, false, false, false, false] rfl rfl (take_ofW HT_.out HW_.out (by kernel_rfl)) (fun _ _ _ h => h) (Or.inl ⟨by rfl, ?_⟩) hHeld ?_ ?_
       rotate_left
       ·
        rintro w' ⟨s0, s1, s2, s3, s4, s5⟩
        go_simp
        with_reducible rfl
       rotate_left
       ·
        simp only [Act.put, List.setIfInBounds_toArray, List.set_cons_zero, List.set_cons_succ, i64_w, i32_w]
        rfl
       refine pure_ (i := 7) (N := some 27) (v := ?_) (a' := ?_) #[true, true, true, true, true, true, true, true, false, false, false, false] rfl rfl (any_of HT_.out (by kernel_rfl)) (fun _ _ _ h => h) (Or.inl ⟨by rfl, ?_⟩) ?_ ?_
       rotate_left
       ·
        intro w'
        go_simp
        with_reducible rfl
       rotate_left
       ·
        simp only [Act.put, List.setIfInBounds_toArray, List.set_cons_zero, List.set_cons_succ, i64_w, i32_w]
        rfl
       refine one_ (i := 8) (N := some 28) #[true, true, true, true, true, true, true, true, true, false, false, false] rfl rfl (one_of HT_.out (by kernel_rfl)) (by decide) (fun K hK => ?_)
       refine value_ (w1 := ?_) (v := ?_) (by rfl) rfl ?_ ?_
       rotate_left 2
       ·
        go_simp
        constructor
        ·
         rfl
        ·
         rfl
       refine hK.out _ _ ⟨(zs (zi BK233.out _) 0).trans rfl, (zs (zi BK233.out _) 1).trans rfl, (zs (zi BK226.out _) 0).trans rfl, (zs (zi BK226.out _) 1).trans rfl, (zs (zi BK226.out _) 2).trans rfl, (World.cell?_alloc_lt _ _ _ (zb _ _ (((HB.out.cell (zb w _ hw234_0)).trans hw234_0)))).trans (((HB.out.cell (zb w _ hw234_0)).trans hw234_0))⟩ (fun hHeld => ?_)
       clear hK K
       refine norm_ (a' := ?_) ?_ ?_
       rotate_left
       ·
        show Act.put _ (some 28) _ = _
        simp only [Act.put, List.setIfInBounds_toArray, List.set_cons_zero, List.set_cons_succ, i64_w, i32_w]
        rfl
       refine one_ (i := 9) (N := some 29) #[true, true, true, true, true, true, true, true, true, true, false, false] rfl rfl (one_of HT_.out (by kernel_rfl)) (by decide) (fun K hK => ?_)
       refine Kd.R_append_step (Kd.int .i64) (w0 := w) w.heap.size (by rfl) (.tmp 21) (.tmp 28) 31 3 (.int .i64 0) 8 rfl Try.underlying31 info3 rfl (by decide) (by omega) u234001 x234001_1 (wrap64 (rd l0_2 x4_1)) [.int .i64 (wrap64 (rd l0_2 x4_1))] (fun _ => True) (fun _ => False) rfl rfl ?aP (fun _ hk => hk.elim) ?aF ?aO ?aB ?aS ?aL ?_
       (case aP => exact rfl)
       (case aB => exact (by repeat (first | (with_reducible first | exact HB.out | apply ze | apply zd | apply zf | refine zk ?_ GE226.out | refine zk ?_ GE227.out | refine zk ?_ GE233.out) | exact HB.out)))
       (case aF => exact (fun _ _ => trivial))
       (case aO => exact (by (with_reducible repeat (first | apply zo | apply zp | apply zq)); exact HO_234001.out))
       (case aS => exact (zE (by repeat (first | (with_reducible first | exact HB.out | apply ze | apply zd | apply zf | refine zk ?_ GE226.out | refine zk ?_ GE227.out | refine zk ?_ GE233.out) | exact HB.out))))
       (case aL => have := LMc16.out; omega)
       intro v236 w21 ho hb hg hat
       rw [← Ny235.out] at ho
       have n0_ := zm (blk_grown (g := gb226) (o := .cells #[.int .u64 a0_0, .int .u32 a0_1, .slice (some ad234) l0_2.length c0_2] 26 (0, 0)) (by (with_reducible repeat (first | refine zh ?_ _ | refine zj ?_ | refine zi ?_ _)); exact BK226.out) hg (zu HO_234001.out BK226.out (by decide)))
       have n1_ := zm (blk_grown (g := gb227) (o := .cells #[.int .u64 0, .slice none 0 0] 33 (0, 0)) (by (with_reducible repeat (first | refine zh ?_ _ | refine zj ?_ | refine zi ?_ _)); exact BK227.out) hg (zu HO_234001.out BK227.out (by decide)))
       have n2_ := zm (blk_grown (g := gb233) (o := .cells #[.int .u64 (IntKind.u64.wrap (a0_1)), u234001] 33 (0, 0)) (by (with_reducible repeat (first | refine zh ?_ _ | refine zj ?_ | refine zi ?_ _)); exact BK233.out) hg (zu HO_234001.out BK233.out (by decide)))
       have n3_ := zm (hb)
       have n4_ := zm (ho)
       clear BK226
       clear BK227
       clear BK233
       clear HB
       clear HO_234001
       have BK226 := n0_
       have BK227 := n1_
       have BK233 := n2_
       have HB := n3_
       have HO237 := n4_
       clear n0_ n1_ n2_ n3_ n4_
       clear ho hb hg hat
       obtain ⟨Ao22, co22, eo22⟩ := Kd.R_slice HO237.out
       (first | subst eo22 | (injection eo22 with f1_ f2_ f3_; have f4_ := f1_.symm; have f5_ := f3_.symm; clear f1_ f2_ f3_; subst f4_; subst f5_))
       refine hK.out _ _ ⟨(zs BK233.out 0).trans rfl, (zs BK233.out 1).trans rfl, (zs BK226.out 0).trans rfl, (zs BK226.out 1).trans rfl, (zs BK226.out 2).trans rfl, ((HB.out.cell (zb w _ hw234_0)).trans hw234_0)⟩ (fun hHeld => ?_)
       clear hK K
       refine norm_ (a' := ?_) ?_ ?_
       rotate_left
       ·
        show Act.put _ (some 29) _ = _
        simp only [Act.put, List.setIfInBounds_toArray, List.set_cons_zero, List.set_cons_succ, i64_w, i32_w]
        rfl
       refine pure_ (i := 10) (N := some 30) (v := ?_) (a' := ?_) #[true, true, true, true, true, true, true, true, true, true, true, false] rfl rfl (any_of HT_.out (by kernel_rfl)) (fun _ _ _ h => h) (Or.inl ⟨by rfl, ?_⟩) ?_ ?_
       rotate_left
       ·
        intro w'
        go_simp
        with_reducible rfl
       rotate_left
       ·
        simp only [Act.put, List.setIfInBounds_toArray, List.set_cons_zero, List.set_cons_succ, i64_w, i32_w]
        rfl
       refine last_ (i := 11) (N := none) #[true, true, true, true, true, true, true, true, true, true, true, true] rfl rfl (one_of HT_.out (by kernel_rfl)) (by decide) (fun K hK => ?_)
       have hs23 : w21.cell? ⟨gb233, 1, none⟩ = some (u234001) := (zs BK233.out 1).trans rfl
       have hfs23 := zx BK233.out 1
       have hns23_0 := NB226_233.out
       have hns23_1 := NB227_233.out
       have hms23_0 := NB233_226.out
       have hms23_1 := NB233_227.out
       refine skip_ (w1 := ?_) (by rfl) rfl ?_ ?_
       rotate_left
       ·
        go_simp
        rfl
       refine hK.out _ _ ?_
       clear hK K
       refine done_ (done_of HT_.out (by kernel_rfl)) ?_
       try go_wp2
       go_roundg k1
       case measure => have := HK1.out; omega
       case rel => exact ⟨(wrap64 (x4_1 + 1)), (y235), (.slice Ao22 y235.length co22), (by first | rfl | (simp; done) | (simp [*]; done)), H', ⟨by have := HK1.out; omega⟩, ⟨by (with_reducible repeat (first | apply zo | apply zp | apply zq)); exact zG (zH (p := ⟨gb233, 1, none⟩) (Kd.R_types HO237.out BK233.out (by decide)) (fun _ hk => hk.2) (.slice Ao22 y235.length co22)) (fun _ hk => trivial)⟩, ⟨by (with_reducible repeat (first | refine zh ?_ _ | refine zj ?_ | refine zi ?_ _)); refine zv ?_ NB226_233.out _; (with_reducible repeat (first | refine zh ?_ _ | refine zj ?_ | refine zi ?_ _)); exact BK226.out⟩, ⟨by (with_reducible repeat (first | refine zh ?_ _ | refine zj ?_ | refine zi ?_ _)); refine zv ?_ NB227_233.out _; (with_reducible repeat (first | refine zh ?_ _ | refine zj ?_ | refine zi ?_ _)); exact BK227.out⟩, ⟨by (with_reducible repeat (first | refine zh ?_ _ | refine zj ?_ | refine zi ?_ _)); refine zw (cs := #[.int .u64 (IntKind.u64.wrap (a0_1)), u234001]) ?_ 1 _ rfl; (with_reducible repeat (first | refine zh ?_ _ | refine zj ?_ | refine zi ?_ _)); exact BK233.out⟩, ⟨by repeat (first | (with_reducible first | exact HB.out | apply ze | apply zd | apply zf | refine zk ?_ GE226.out | refine zk ?_ GE227.out | refine zk ?_ GE233.out) | exact HB.out)⟩⟩
      ·
       rw [if_neg c16] at H
       exact absurd H (by simp)
     ·
      rw [if_neg c15] at H
      exact absurd H (by simp)
    ·
     rw [if_neg c14] at H
     have c14b0 : decide (x4_1 < (l0_2.length : Int)) = false := decide_eq_false c14
     clear c14
     obtain ⟨y238, hy238⟩ : ∃ y_ : List Int, y_ = (([wrap64 (IntKind.u64.wrap (Int.tdiv a0_0 16777216)), wrap64 (Int.tmod (IntKind.u64.wrap (Int.tdiv a0_0 65536)) 256), wrap64 (Int.tmod (IntKind.u64.wrap (Int.tdiv a0_0 256)) 256), wrap64 (Int.tmod a0_0 256)] : List Int)) := ⟨_, rfl⟩
     replace H : (if x234001_1.length + y238.length < 17592186044416 then (some ((IntKind.u64.wrap (a0_1)), (x234001_1 ++ y238))) else (none)) = some (r1, r2) := by first | (rw [hy238]; with_reducible exact H) | (have H2_ := (Option.bind_some _ _).symm.trans H; rw [hy238]; with_reducible exact H2_) | (have H2_ := (Option.bind_some _ _).symm.trans H; with_reducible exact H2_) | with_reducible exact H | (rw [hy238]; exact H) | exact H
     have Ny238 := zm hy238
     clear hy238
     by_cases c24 : x234001_1.length + y238.length < 17592186044416
     ·
      rw [if_pos c24] at H
      have LMc24 := zm c24
      clear c24
      obtain ⟨y241, hy241⟩ : ∃ y_ : List Int, y_ = (x234001_1 ++ y238) := ⟨_, rfl⟩
      replace H : (some ((IntKind.u64.wrap (a0_1)), y241)) = some (r1, r2) := by first | (rw [hy241]; with_reducible exact H) | (have H2_ := (Option.bind_some _ _).symm.trans H; rw [hy241]; with_reducible exact H2_) | (have H2_ := (Option.bind_some _ _).symm.trans H; with_reducible exact H2_) | with_reducible exact H | (rw [hy241]; exact H) | exact H
      have Ny241 := zm hy241
      clear hy241
      simp only [Option.some.injEq, Prod.mk.injEq] at H
      obtain ⟨rfl, rfl⟩ := H
      have hnb25 := NB226_227.out
      have hnc25 := NB227_226.out
      have hnb26 := NB226_233.out
      have hnc26 := NB233_226.out
      have hcz27_0 : wr.cell? ⟨gb226, 0, none⟩ = some (.int .u64 a0_0) := (zs BK226.out 0).trans rfl
      have hcz27_1 : wr.cell? ⟨gb226, 1, none⟩ = some (.int .u32 a0_1) := (zs BK226.out 1).trans rfl
      have hcz27_2 : wr.cell? ⟨gb226, 2, none⟩ = some (.slice A0_2 l0_2.length c0_2) := (zs BK226.out 2).trans rfl
      have hfz27_0 := zx BK226.out 0
      have hfz27_1 := zx BK226.out 1
      have hfz27_2 := zx BK226.out 2
      have hnb28 := NB233_227.out
      have hnc28 := NB227_233.out
      have hcz29_0 : wr.cell? ⟨gb233, 0, none⟩ = some (.int .u64 (IntKind.u64.wrap (a0_1))) := (zs BK233.out 0).trans rfl
      have hcz29_1 : wr.cell? ⟨gb233, 1, none⟩ = some (u234001) := (zs BK233.out 1).trans rfl
      have hfz29_0 := zx BK233.out 0
      have hfz29_1 := zx BK233.out 1
      go_wp2_with (first | ((with_reducible refine gate_dst (N := 51) rfl ?_); refine Kd.R_lit (Kd.int .i64) _ 3 ?hg (N := 51) ?hd (xs := ([wrap64 (IntKind.u64.wrap (Int.tdiv a0_0 16777216)), wrap64 (Int.tmod (IntKind.u64.wrap (Int.tdiv a0_0 65536)) 256), wrap64 (Int.tmod (IntKind.u64.wrap (Int.tdiv a0_0 256)) 256), wrap64 (Int.tmod a0_0 256)] : List Int)) (inner := [.int .i64 (wrap64 (IntKind.u64.wrap (Int.tdiv a0_0 16777216))), .int .i64 (wrap64 (Int.tmod (IntKind.u64.wrap (Int.tdiv a0_0 65536)) 256)), .int .i64 (wrap64 (Int.tmod (IntKind.u64.wrap (Int.tdiv a0_0 256)) 256)), .int .i64 (wrap64 (Int.tmod a0_0 256))]) (ok := fun _ => True) (okp := fun _ => True) ?hr ?hp (fun _ hk => hk) trivial (Below.refl _ _) (Nat.le_refl _) (by simp) ?_; (case hd => rfl); (case hg => rfl); (case hr => first | (go_simp; done) | (go_simp; rfl)); (case hp => exact (Reps.one (show Kd.M (Kd.int .i64) _ _ _ (wrap64 (IntKind.u64.wrap (Int.tdiv a0_0 16777216))) [.int .i64 (wrap64 (IntKind.u64.wrap (Int.tdiv a0_0 16777216)))] from rfl) (Reps.one (show Kd.M (Kd.int .i64) _ _ _ (wrap64 (Int.tmod (IntKind.u64.wrap (Int.tdiv a0_0 65536)) 256)) [.int .i64 (wrap64 (Int.tmod (IntKind.u64.wrap (Int.tdiv a0_0 65536)) 256))] from rfl) (Reps.one (show Kd.M (Kd.int .i64) _ _ _ (wrap64 (Int.tmod (IntKind.u64.wrap (Int.tdiv a0_0 256)) 256)) [.int .i64 (wrap64 (Int.tmod (IntKind.u64.wrap (Int.tdiv a0_0 256)) 256))] from rfl) (Reps.one (show Kd.M (Kd.int .i64) _ _ _ (wrap64 (Int.tmod a0_0 256)) [.int .i64 (wrap64 (Int.tmod a0_0 256))] from rfl) (Reps.none _ _)))))); intro v239 w30 ho31 hb hg_ hnew_; clear hg_ hnew_; (first | rw [← Ny238.out] at ho31 | (simp only [Int.reduceToNat] at ho31; rw [← Ny238.out] at ho31)); have n0_ := zm (Kd.R_elder' (by (with_reducible repeat (first | apply zo | apply zp | apply zq)); exact HO_234001.out) (Kd.R_base ho31) hb); have n1_ := zm (Kd.R_lower (Kd.R_new' ho31 (Kd.R_lt (by (with_reducible repeat (first | apply zo | apply zp | apply zq)); exact HO_234001.out))) (zE (by repeat (first | (with_reducible first | exact HB.out | apply ze | apply zd | apply zf | refine zk ?_ GE226.out | refine zk ?_ GE227.out | refine zk ?_ GE233.out) | exact HB.out)))); have n2_ := zm (zF (g := gb226) (o := .cells #[.int .u64 a0_0, .int .u32 a0_1, .slice A0_2 l0_2.length c0_2] 26 (0, 0)) (by (with_reducible repeat (first | refine zh ?_ _ | refine zj ?_ | refine zi ?_ _)); exact BK226.out) hb); have n3_ := zm (zF (g := gb227) (o := .cells #[.int .u64 0, .slice none 0 0] 33 (0, 0)) (by (with_reducible repeat (first | refine zh ?_ _ | refine zj ?_ | refine zi ?_ _)); exact BK227.out) hb); have n4_ := zm (zF (g := gb233) (o := .cells #[.int .u64 (IntKind.u64.wrap (a0_1)), u234001] 33 (0, 0)) (by (with_reducible repeat (first | refine zh ?_ _ | refine zj ?_ | refine zi ?_ _)); exact BK233.out) hb); have n5_ := zm (zJ (by repeat (first | (with_reducible first | exact HB.out | apply ze | apply zd | apply zf | refine zk ?_ GE226.out | refine zk ?_ GE227.out | refine zk ?_ GE233.out) | exact HB.out)) hb); clear HO_234001; clear BK226; clear BK227; clear BK233; clear HB; have HO_234001 := n0_; have HO240 := n1_; have BK226 := n2_; have BK227 := n3_; have BK233 := n4_; have HB := n5_; clear n0_ n1_ n2_ n3_ n4_ n5_; clear hb ho31; obtain ⟨Ao33, co33, eo33⟩ := Kd.R_slice HO240.out; subst eo33) | ((with_reducible refine gate_builtin (b := .append) (xs := #[.tmp 32, .tmp 51]) rfl ?_); at_builtin; refine Kd.R_append_rows (Kd.int .i64) (w0 := w) w.heap.size rfl (.tmp 32) (.tmp 51) 31 3 (.int .i64 0) 8 rfl Try.underlying31 info3 rfl (by decide) (by omega) u234001 x234001_1 y238 _ _ _ (fun k_ => some k_ ≠ (.slice Ao33 y238.length co33 : Value).ownBlock) (fun _ => False) rfl rfl ?aO ?aR (fun _ _ h => h) (fun _ h => h.elim) ?aF ?aB ?aS ?aL ?_; (case aR => repeat (first | exact (Kd.R_reads' HO240.out).2.2 | (with_reducible refine Kd.C_alloc ?_ _) | (with_reducible refine Kd.C_drewN ?_ _) | (with_reducible refine Kd.C_drew ?_))); (case aB => exact (by repeat (first | (with_reducible first | exact HB.out | apply ze | apply zd | apply zf | refine zk ?_ GE226.out | refine zk ?_ GE227.out | refine zk ?_ GE233.out) | exact HB.out))); (case aF => exact (fun k_ hk => Kd.fresh' (Kd.R_lt (by (with_reducible repeat (first | apply zo | apply zp | apply zq)); exact HO240.out)) k_ hk)); (case aO => exact (by (with_reducible repeat (first | apply zo | apply zp | apply zq)); exact zG HO_234001.out (fun _ hk => hk.2))); (case aS => exact (zE (by repeat (first | (with_reducible first | exact HB.out | apply ze | apply zd | apply zf | refine zk ?_ GE226.out | refine zk ?_ GE227.out | refine zk ?_ GE233.out) | exact HB.out)))); (case aL => have := LMc24.out; omega); intro v242 w32 ho hb hg hat; rw [← Ny241.out] at ho; have n0_ := zm (blk_grown (g := gb226) (o := .cells #[.int .u64 a0_0, .int .u32 a0_1, .slice A0_2 l0_2.length c0_2] 26 (0, 0)) (by (with_reducible repeat (first | refine zh ?_ _ | refine zj ?_ | refine zi ?_ _)); exact BK226.out) hg (zu HO_234001.out BK226.out (by decide))); have n1_ := zm (blk_grown (g := gb227) (o := .cells #[.int .u64 0, .slice none 0 0] 33 (0, 0)) (by (with_reducible repeat (first | refine zh ?_ _ | refine zj ?_ | refine zi ?_ _)); exact BK227.out) hg (zu HO_234001.out BK227.out (by decide))); have n2_ := zm (blk_grown (g := gb233) (o := .cells #[.int .u64 (IntKind.u64.wrap (a0_1)), u234001] 33 (0, 0)) (by (with_reducible repeat (first | refine zh ?_ _ | refine zj ?_ | refine zi ?_ _)); exact BK233.out) hg (zu HO_234001.out BK233.out (by decide))); have n3_ := zm (Kd.R_after (ok := (fun _ => True)) (by (with_reducible repeat (first | apply zo | apply zp | apply zq)); exact HO240.out) hg hat); have n4_ := zm (hb); have n5_ := zm (ho); clear BK226; clear BK227; clear BK233; clear HO240; clear HB; clear HO_234001; have BK226 := n0_; have BK227 := n1_; have BK233 := n2_; have HO240 := n3_; have HB := n4_; have HO243 := n5_; clear n0_ n1_ n2_ n3_ n4_ n5_; clear ho hb hg hat; obtain ⟨Ao34, co34, eo34⟩ := Kd.R_slice HO243.out; subst eo34; have hcz35_0 : w32.cell? ⟨gb233, 0, none⟩ = some (.int .u64 (IntKind.u64.wrap (a0_1))) := (zs BK233.out 0).trans rfl; have hcz35_1 : w32.cell? ⟨gb233, 1, none⟩ = some (u234001) := (zs BK233.out 1).trans rfl; have hfz35_0 := zx BK233.out 0; have hfz35_1 := zx BK233.out 1; have hcz36_0 : w32.cell? ⟨gb227, 0, none⟩ = some (.int .u64 0) := (zs BK227.out 0).trans rfl; have hcz36_1 : w32.cell? ⟨gb227, 1, none⟩ = some (.slice none 0 0) := (zs BK227.out 1).trans rfl; have hfz36_0 := zx BK227.out 0; have hfz36_1 := zx BK227.out 1))
      refine bodyPost_ret (results_cell_row rfl _ _ gb227 33 #[.int .u64 (IntKind.u64.wrap (a0_1)), .slice Ao34 y241.length co34] (0, 0) _ rfl (by (with_reducible repeat (first | refine zh ?_ _ | refine zj ?_ | refine zi ?_ _)); refine zw (cs := #[.int .u64 (IntKind.u64.wrap (a0_1)), .slice none 0 0]) ?_ 1 _ rfl; (with_reducible repeat (first | refine zh ?_ _ | refine zj ?_ | refine zi ?_ _)); refine zw (cs := #[.int .u64 0, .slice none 0 0]) ?_ 0 _ rfl; (with_reducible repeat (first | refine zh ?_ _ | refine zj ?_ | refine zi ?_ _)); refine zv ?_ NB227_233.out _; (with_reducible repeat (first | refine zh ?_ _ | refine zj ?_ | refine zi ?_ _)); exact BK227.out) Try.underlying33 rfl (by kernel_rfl)) rfl ?_
      exact ⟨_, by first | rfl | (simp [errW_none, errW_some] <;> rfl) | (simp [*, errW_none, errW_some] <;> rfl), by (with_reducible repeat (first | apply zo | apply zp | apply zq)); exact zG (zH (p := ⟨gb227, 1, none⟩) (zH (p := ⟨gb227, 0, none⟩) (zH (p := ⟨gb233, 1, none⟩) (Kd.R_types (Kd.R_types HO243.out BK233.out (by decide)) BK227.out (by decide)) (fun _ hk => hk.1.2) (.slice Ao34 y241.length co34)) (fun _ hk => hk.2) (.int .u64 (IntKind.u64.wrap (a0_1)))) (fun _ hk => hk.2) (.slice Ao34 y241.length co34)) (fun _ hk => trivial), by repeat (first | (with_reducible first | exact HB.out | apply ze | apply zd | apply zf | refine zk ?_ GE226.out | refine zk ?_ GE227.out | refine zk ?_ GE233.out) | exact HB.out)⟩
     ·
      rw [if_neg c24] at H
      exact absurd H (by simp)
 ·
  replace c3 := Bool.eq_false_iff.mpr c3
  subst c3
  have H1 : ((psalteryref05_New.f).bind fun bt229 => (some (bt229.1, bt229.2))) = some (r1, r2) := by rw [if_neg (show ¬ (false = true) by decide)] at H; exact H
  clear H
  have H := H1
  clear H1
  replace H := Option.bind_eq_some_iff.mp H
  obtain ⟨⟨t229, t230⟩, A370, H⟩ := H
  replace H : (some (t229, t230)) = some (r1, r2) := H
  have A37 := zm A370
  clear A370
  simp only [Option.some.injEq, Prod.mk.injEq] at H
  obtain ⟨rfl, rfl⟩ := H
  go_enter Try.func20, Try.ntmps20
  go_wp2_with (first | ((with_reducible refine gate_dst (N := 1) rfl ?_); refine box_event ?hg (N := 1) ?hd (cs := #[.int .u64 a0_0, .int .u32 a0_1, .slice A0_2 l0_2.length c0_2]) (t := 26) ?hr ?_; (case hd => rfl); (case hg => rfl); (case hr => first | (go_simp; done) | (go_simp; rfl)); intro gb226 hg w38 hbox hb; have n0_ := zm (zJ (by repeat (first | (with_reducible first | exact HB.out | apply ze | apply zd | apply zf) | exact HB.out)) hb); have n1_ := zm (hbox); have n2_ := zm ((by rw [hg]; exact (zE (by repeat (first | (with_reducible first | exact HB.out | apply ze | apply zd | apply zf) | exact HB.out))) : w.heap.size ≤ gb226)); have n3_ := zm ((by rw [hg]; exact (zE (by repeat (first | (with_reducible first | exact HB.out | apply ze | apply zd | apply zf) | exact HB.out))) : w.heap.size ≤ gb226)); clear HB; have HB := n0_; have BK226 := n1_; have GW226 := n2_; have GE226 := n3_; clear n0_ n1_ n2_ n3_; clear hb hbox hg) | ((with_reducible refine gate_dst (N := 2) rfl ?_); refine box_event ?hg (N := 2) ?hd (cs := #[.int .u64 0, .slice none 0 0]) (t := 33) ?hr ?_; (case hd => rfl); (case hg => rfl); (case hr => first | (go_simp; done) | (go_simp; rfl)); intro gb227 hg w39 hbox hb; have n0_ := zm (zF (g := gb226) (o := .cells #[.int .u64 a0_0, .int .u32 a0_1, .slice A0_2 l0_2.length c0_2] 26 (0, 0)) (by (with_reducible repeat (first | refine zh ?_ _ | refine zj ?_ | refine zi ?_ _)); exact BK226.out) hb); have n1_ := zm (zJ (by repeat (first | (with_reducible first | exact HB.out | apply ze | apply zd | apply zf | refine zk ?_ GE226.out) | exact HB.out)) hb); have n2_ := zm (hbox); have n3_ := zm ((by rw [hg]; exact (zE (by repeat (first | (with_reducible first | exact HB.out | apply ze | apply zd | apply zf | refine zk ?_ GE226.out) | exact HB.out))) : w.heap.size ≤ gb227)); have n4_ := zm ((by rw [hg]; exact (zE (by repeat (first | (with_reducible first | exact HB.out | apply ze | apply zd | apply zf | refine zk ?_ GE226.out) | exact HB.out))) : w.heap.size ≤ gb227)); have n5_ := zm ((by rw [hg]; exact zn (zD (g := gb226) (o := .cells #[.int .u64 a0_0, .int .u32 a0_1, .slice A0_2 l0_2.length c0_2] 26 (0, 0)) (by (with_reducible repeat (first | refine zh ?_ _ | refine zj ?_ | refine zi ?_ _)); exact BK226.out)) : gb226 ≠ gb227)); have n6_ := zm ((by rw [hg]; exact zg (zD (g := gb226) (o := .cells #[.int .u64 a0_0, .int .u32 a0_1, .slice A0_2 l0_2.length c0_2] 26 (0, 0)) (by (with_reducible repeat (first | refine zh ?_ _ | refine zj ?_ | refine zi ?_ _)); exact BK226.out)) : gb227 ≠ gb226)); clear BK226; clear HB; have BK226 := n0_; have HB := n1_; have BK227 := n2_; have GW227 := n3_; have GE227 := n4_; have NB226_227 := n5_; have NB227_226 := n6_; clear n0_ n1_ n2_ n3_ n4_ n5_ n6_; clear hb hbox hg; have hnb40 := NB226_227.out; have hnc40 := NB227_226.out; have hcz41_0 : w39.cell? ⟨gb226, 0, none⟩ = some (.int .u64 a0_0) := (zs BK226.out 0).trans rfl; have hcz41_1 : w39.cell? ⟨gb226, 1, none⟩ = some (.int .u32 a0_1) := (zs BK226.out 1).trans rfl; have hcz41_2 : w39.cell? ⟨gb226, 2, none⟩ = some (.slice A0_2 l0_2.length c0_2) := (zs BK226.out 2).trans rfl; have hfz41_0 := zx BK226.out 0; have hfz41_1 := zx BK226.out 1; have hfz41_2 := zx BK226.out 2) | ((with_reducible refine gate_callee (f := 22) rfl ?_); refine goesL_ (some 6) rfl rfl Try.func22 (by kernel_rfl) rfl #[.agg #[.int .u64 a0_0, .int .u32 a0_1, .slice A0_2 l0_2.length c0_2]] rfl (by (try simp only [List.map_toArray, List.map_cons, List.map_nil]); first | done | rfl | (simp only [List.length_drop, List.length_take]; rfl)) ?_; (with_reducible refine (psalterylaw05_right.calls a0_0 a0_1 _ _ l0_2 false _ ?side1 ?side2 A2.out).mono ?_); (case side1 => repeat (first | exact (Kd.C_below HR0_2.out HB.out) | (with_reducible refine Kd.C_alloc ?_ _) | (with_reducible refine Kd.C_drewN ?_ _) | (with_reducible refine Kd.C_drew ?_))); (case side2 => exact HC0_2.out); rintro e w42 ⟨rfl, hb⟩; refine ⟨_, rfl, ?_⟩; have n0_ := zm (zF (g := gb226) (o := .cells #[.int .u64 a0_0, .int .u32 a0_1, .slice A0_2 l0_2.length c0_2] 26 (0, 0)) (by (with_reducible repeat (first | refine zh ?_ _ | refine zj ?_ | refine zi ?_ _)); exact BK226.out) hb); have n1_ := zm (zF (g := gb227) (o := .cells #[.int .u64 0, .slice none 0 0] 33 (0, 0)) (by (with_reducible repeat (first | refine zh ?_ _ | refine zj ?_ | refine zi ?_ _)); exact BK227.out) hb); have n2_ := zm (zJ (by repeat (first | (with_reducible first | exact HB.out | apply ze | apply zd | apply zf | refine zk ?_ GE226.out | refine zk ?_ GE227.out) | exact HB.out)) hb); clear BK226; clear BK227; clear HB; have BK226 := n0_; have BK227 := n1_; have HB := n2_; clear n0_ n1_ n2_; (try clear hb); (try clear hb2); (try clear hk); (try clear hi)) | ((with_reducible refine gate_callee (f := 57) rfl ?_); refine goesL_ (some 8) rfl rfl Try.func57 (by kernel_rfl) rfl #[] rfl (by (try simp only [List.map_toArray, List.map_cons, List.map_nil]); first | done | rfl | (simp only [List.length_drop, List.length_take]; rfl)) ?_; (with_reducible refine (psalteryref05_New.calls  t229 t230 _ A37.out).mono ?_); rintro e w43 ⟨v231, rfl, ho0, hb⟩; refine ⟨_, rfl, ?_⟩; have n0_ := zm (Kd.R_lower ho0 (zE (by repeat (first | (with_reducible first | exact HB.out | apply ze | apply zd | apply zf | refine zk ?_ GE226.out | refine zk ?_ GE227.out) | exact HB.out)))); have n1_ := zm (zF (g := gb226) (o := .cells #[.int .u64 a0_0, .int .u32 a0_1, .slice A0_2 l0_2.length c0_2] 26 (0, 0)) (by (with_reducible repeat (first | refine zh ?_ _ | refine zj ?_ | refine zi ?_ _)); exact BK226.out) hb); have n2_ := zm (zF (g := gb227) (o := .cells #[.int .u64 0, .slice none 0 0] 33 (0, 0)) (by (with_reducible repeat (first | refine zh ?_ _ | refine zj ?_ | refine zi ?_ _)); exact BK227.out) hb); have n3_ := zm (zJ (by repeat (first | (with_reducible first | exact HB.out | apply ze | apply zd | apply zf | refine zk ?_ GE226.out | refine zk ?_ GE227.out) | exact HB.out)) hb); clear BK226; clear BK227; clear HB; have HO232 := n0_; have BK226 := n1_; have BK227 := n2_; have HB := n3_; clear n0_ n1_ n2_ n3_; (try clear hb); (try clear hb2); (try clear hk); (try clear hi); (try clear ho0); have hcz44_0 : w43.cell? ⟨gb227, 0, none⟩ = some (.int .u64 0) := (zs BK227.out 0).trans rfl; have hcz44_1 : w43.cell? ⟨gb227, 1, none⟩ = some (.slice none 0 0) := (zs BK227.out 1).trans rfl; have hfz44_0 := zx BK227.out 0; have hfz44_1 := zx BK227.out 1; obtain ⟨Ao45, co45, eo45⟩ := Kd.R_slice HO232.out; subst eo45))
  refine bodyPost_ret (results_cell_row rfl _ _ gb227 33 #[.int .u64 t229, .slice Ao45 t230.length co45] (0, 0) _ rfl (by (with_reducible repeat (first | refine zh ?_ _ | refine zj ?_ | refine zi ?_ _)); refine zw (cs := #[.int .u64 t229, .slice none 0 0]) ?_ 1 _ rfl; (with_reducible repeat (first | refine zh ?_ _ | refine zj ?_ | refine zi ?_ _)); refine zw (cs := #[.int .u64 0, .slice none 0 0]) ?_ 0 _ rfl; (with_reducible repeat (first | refine zh ?_ _ | refine zj ?_ | refine zi ?_ _)); exact BK227.out) Try.underlying33 rfl (by kernel_rfl)) rfl ?_
  exact ⟨_, by first | rfl | (simp [errW_none, errW_some] <;> rfl) | (simp [*, errW_none, errW_some] <;> rfl), by (with_reducible repeat (first | apply zo | apply zp | apply zq)); exact zG (zH (p := ⟨gb227, 1, none⟩) (zH (p := ⟨gb227, 0, none⟩) (Kd.R_types HO232.out BK227.out (by decide)) (fun _ hk => hk.2) (.int .u64 t229)) (fun _ hk => hk.2) (.slice Ao45 t230.length co45)) (fun _ hk => trivial), by repeat (first | (with_reducible first | exact HB.out | apply ze | apply zd | apply zf | refine zk ?_ GE226.out | refine zk ?_ GE227.out) | exact HB.out)⟩

end Go.Proofs.Ytkaoiblgfpphoaa.Prt

namespace Go.Proofs.Ytkaoiblgfpphoaa.Prt
open Go.RowKit Go.Proofs.YtkaoiblgfpphoaaW.PrintWords Go.Proofs.YtkaoiblgfpphoaaW.PrintLast Go.Proofs.YtkaoiblgfpphoaaW.PrintMore
attribute [local go_sem] max2_int min2_int max_two min_two max_three min_three max_four min_four   -- for this text's walks alone
set_option linter.unusedVariables false
set_option linter.unusedSimpArgs false

/-! ### psalterylaw05_SameDec: function 25 -/
def psalterylaw05_SameDec.f (a0_0 : Int) (a0_1 : Int) (l0_2 : List Int) (a0_3 : Int) (a1_0 : Int) (a1_1 : Int) (l1_2 : List Int) (a1_3 : Int) : Option (Bool) := if a0_0 = a1_0 then (if (IntKind.u64.wrap (a0_1)) = a1_1 then (if (strOfNums l0_2).toList = (strOfNums l1_2).toList then (some (a0_3 == a1_3)) else (some false)) else (some false)) else (some false)
set_option maxHeartbeats 8000000 in
set_option maxRecDepth 100000 in
theorem psalterylaw05_SameDec.calls (a0_0 : Int) (a0_1 : Int) (A0_2 : Option Addr) (c0_2 : Nat) (l0_2 : List Int) (a0_3 : Int) (a1_0 : Int) (a1_1 : Int) (A1_2 : Option Addr) (c1_2 : Nat) (l1_2 : List Int) (a1_3 : Int) (r : Bool) (w : World) (hr0_2 : Kd.C (Kd.int .u8) w A0_2 l0_2.length l0_2) (hc0_2 : l0_2.length ≤ c0_2) (hr1_2 : Kd.C (Kd.int .u8) w A1_2 l1_2.length l1_2) (hc1_2 : l1_2.length ≤ c1_2) (h : psalterylaw05_SameDec.f a0_0 a0_1 l0_2 a0_3 a1_0 a1_1 l1_2 a1_3 = some r) :
  Calls Try.prog 25 #[.agg #[.int .u64 a0_0, .int .u32 a0_1, .slice A0_2 l0_2.length c0_2, .int .i64 a0_3], .agg #[.int .u64 a1_0, .int .u64 a1_1, .slice A1_2 l1_2.length c1_2, .int .i64 a1_3]] w fun e w' => e = .returned (.bool r) ∧ Below w.heap.size w w' := by
 have hu43 := Try.underlying43
 have hu46 := Try.underlying46
 have HR0_2 := zm hr0_2
 have HC0_2 := zm hc0_2
 clear hr0_2 hc0_2
 have HR1_2 := zm hr1_2
 have HC1_2 := zm hc1_2
 clear hr1_2 hc1_2
 have HB := zm (Below.refl w.heap.size w)
 have H : (if a0_0 = a1_0 then (if (IntKind.u64.wrap (a0_1)) = a1_1 then (if (strOfNums l0_2).toList = (strOfNums l1_2).toList then (some (a0_3 == a1_3)) else (some false)) else (some false)) else (some false)) = some r := h
 clear h
 by_cases c3 : a0_0 = a1_0
 ·
  rw [if_pos c3] at H
  have c3b0 : (a0_0 == a1_0) = true := beq_iff_eq.mpr c3
  have c3b1 : (a0_0 != a1_0) = false := bne_eq_false_iff_eq.mpr c3
  clear c3
  by_cases c4 : (IntKind.u64.wrap (a0_1)) = a1_1
  ·
   rw [if_pos c4] at H
   have c4b0 : ((IntKind.u64.wrap (a0_1)) == a1_1) = true := beq_iff_eq.mpr c4
   have c4b1 : ((IntKind.u64.wrap (a0_1)) != a1_1) = false := bne_eq_false_iff_eq.mpr c4
   clear c4
   by_cases c5 : (strOfNums l0_2).toList = (strOfNums l1_2).toList
   ·
    rw [if_pos c5] at H
    have c5b0 : ((strOfNums l0_2).toList == (strOfNums l1_2).toList) = true := beq_iff_eq.mpr c5
    have c5b1 : ((strOfNums l0_2).toList != (strOfNums l1_2).toList) = false := bne_eq_false_iff_eq.mpr c5
    clear c5
    obtain rfl := Option.some.inj H
    go_enter Try.func25, Try.ntmps25
    go_wp2_with (first | ((with_reducible refine gate_dst (N := 2) rfl ?_); refine box_event ?hg (N := 2) ?hd (cs := #[.int .u64 a0_0, .int .u32 a0_1, .slice A0_2 l0_2.length c0_2, .int .i64 a0_3]) (t := 43) ?hr ?_; (case hd => rfl); (case hg => rfl); (case hr => first | (go_simp; done) | (go_simp; rfl)); intro gb282 hg w6 hbox hb; have n0_ := zm (zJ (by repeat (first | (with_reducible first | exact HB.out | apply ze | apply zd | apply zf) | exact HB.out)) hb); have n1_ := zm (hbox); have n2_ := zm ((by rw [hg]; exact (zE (by repeat (first | (with_reducible first | exact HB.out | apply ze | apply zd | apply zf) | exact HB.out))) : w.heap.size ≤ gb282)); have n3_ := zm ((by rw [hg]; exact (zE (by repeat (first | (with_reducible first | exact HB.out | apply ze | apply zd | apply zf) | exact HB.out))) : w.heap.size ≤ gb282)); clear HB; have HB := n0_; have BK282 := n1_; have GW282 := n2_; have GE282 := n3_; clear n0_ n1_ n2_ n3_; clear hb hbox hg) | ((with_reducible refine gate_dst (N := 3) rfl ?_); refine box_event ?hg (N := 3) ?hd (cs := #[.int .u64 a1_0, .int .u64 a1_1, .slice A1_2 l1_2.length c1_2, .int .i64 a1_3]) (t := 46) ?hr ?_; (case hd => rfl); (case hg => rfl); (case hr => first | (go_simp; done) | (go_simp; rfl)); intro gb283 hg w7 hbox hb; have n0_ := zm (zF (g := gb282) (o := .cells #[.int .u64 a0_0, .int .u32 a0_1, .slice A0_2 l0_2.length c0_2, .int .i64 a0_3] 43 (0, 0)) (by (with_reducible repeat (first | refine zh ?_ _ | refine zj ?_ | refine zi ?_ _)); exact BK282.out) hb); have n1_ := zm (zJ (by repeat (first | (with_reducible first | exact HB.out | apply ze | apply zd | apply zf | refine zk ?_ GE282.out) | exact HB.out)) hb); have n2_ := zm (hbox); have n3_ := zm ((by rw [hg]; exact (zE (by repeat (first | (with_reducible first | exact HB.out | apply ze | apply zd | apply zf | refine zk ?_ GE282.out) | exact HB.out))) : w.heap.size ≤ gb283)); have n4_ := zm ((by rw [hg]; exact (zE (by repeat (first | (with_reducible first | exact HB.out | apply ze | apply zd | apply zf | refine zk ?_ GE282.out) | exact HB.out))) : w.heap.size ≤ gb283)); have n5_ := zm ((by rw [hg]; exact zn (zD (g := gb282) (o := .cells #[.int .u64 a0_0, .int .u32 a0_1, .slice A0_2 l0_2.length c0_2, .int .i64 a0_3] 43 (0, 0)) (by (with_reducible repeat (first | refine zh ?_ _ | refine zj ?_ | refine zi ?_ _)); exact BK282.out)) : gb282 ≠ gb283)); have n6_ := zm ((by rw [hg]; exact zg (zD (g := gb282) (o := .cells #[.int .u64 a0_0, .int .u32 a0_1, .slice A0_2 l0_2.length c0_2, .int .i64 a0_3] 43 (0, 0)) (by (with_reducible repeat (first | refine zh ?_ _ | refine zj ?_ | refine zi ?_ _)); exact BK282.out)) : gb283 ≠ gb282)); clear BK282; clear HB; have BK282 := n0_; have HB := n1_; have BK283 := n2_; have GW283 := n3_; have GE283 := n4_; have NB282_283 := n5_; have NB283_282 := n6_; clear n0_ n1_ n2_ n3_ n4_ n5_ n6_; clear hb hbox hg; have hnb8 := NB282_283.out; have hnc8 := NB283_282.out; have hcz9_0 : w7.cell? ⟨gb282, 0, none⟩ = some (.int .u64 a0_0) := (zs BK282.out 0).trans rfl; have hcz9_1 : w7.cell? ⟨gb282, 1, none⟩ = some (.int .u32 a0_1) := (zs BK282.out 1).trans rfl; have hcz9_2 : w7.cell? ⟨gb282, 2, none⟩ = some (.slice A0_2 l0_2.length c0_2) := (zs BK282.out 2).trans rfl; have hcz9_3 : w7.cell? ⟨gb282, 3, none⟩ = some (.int .i64 a0_3) := (zs BK282.out 3).trans rfl; have hfz9_0 := zx BK282.out 0; have hfz9_1 := zx BK282.out 1; have hfz9_2 := zx BK282.out 2; have hfz9_3 := zx BK282.out 3; have hcz10_0 : w7.cell? ⟨gb283, 0, none⟩ = some (.int .u64 a1_0) := (zs BK283.out 0).trans rfl; have hcz10_1 : w7.cell? ⟨gb283, 1, none⟩ = some (.int .u64 a1_1) := (zs BK283.out 1).trans rfl; have hcz10_2 : w7.cell? ⟨gb283, 2, none⟩ = some (.slice A1_2 l1_2.length c1_2) := (zs BK283.out 2).trans rfl; have hcz10_3 : w7.cell? ⟨gb283, 3, none⟩ = some (.int .i64 a1_3) := (zs BK283.out 3).trans rfl; have hfz10_0 := zx BK283.out 0; have hfz10_1 := zx BK283.out 1; have hfz10_2 := zx BK283.out 2; have hfz10_3 := zx BK283.out 3; have hcv11 := Kd.C_string (P := Try.prog) (A := A0_2) (c := c0_2) Try.underlying24 Try.underlying5 Try.underlying9 (Kd.C_below HR0_2.out HB.out); have hcv12 := Kd.C_string (P := Try.prog) (A := A1_2) (c := c1_2) Try.underlying24 Try.underlying5 Try.underlying9 (Kd.C_below HR1_2.out HB.out)))
    go_ret
    exact ⟨by first | rfl | (simp [errW_none, errW_some] <;> rfl) | (simp [*, errW_none, errW_some] <;> rfl), by repeat (first | (with_reducible first | exact HB.out | apply ze | apply zd | apply zf | refine zk ?_ GE282.out | refine zk ?_ GE283.out) | exact HB.out)⟩
   ·
    rw [if_neg c5] at H
    have c5b0 : ((strOfNums l0_2).toList == (strOfNums l1_2).toList) = false := beq_eq_false_iff_ne.mpr c5
    have c5b1 : ((strOfNums l0_2).toList != (strOfNums l1_2).toList) = true := bne_iff_ne.mpr c5
    obtain rfl := Option.some.inj H
    go_enter Try.func25, Try.ntmps25
    go_wp2_with (first | ((with_reducible refine gate_dst (N := 2) rfl ?_); refine box_event ?hg (N := 2) ?hd (cs := #[.int .u64 a0_0, .int .u32 a0_1, .slice A0_2 l0_2.length c0_2, .int .i64 a0_3]) (t := 43) ?hr ?_; (case hd => rfl); (case hg => rfl); (case hr => first | (go_simp; done) | (go_simp; rfl)); intro gb282 hg w13 hbox hb; have n0_ := zm (zJ (by repeat (first | (with_reducible first | exact HB.out | apply ze | apply zd | apply zf) | exact HB.out)) hb); have n1_ := zm (hbox); have n2_ := zm ((by rw [hg]; exact (zE (by repeat (first | (with_reducible first | exact HB.out | apply ze | apply zd | apply zf) | exact HB.out))) : w.heap.size ≤ gb282)); have n3_ := zm ((by rw [hg]; exact (zE (by repeat (first | (with_reducible first | exact HB.out | apply ze | apply zd | apply zf) | exact HB.out))) : w.heap.size ≤ gb282)); clear HB; have HB := n0_; have BK282 := n1_; have GW282 := n2_; have GE282 := n3_; clear n0_ n1_ n2_ n3_; clear hb hbox hg) | ((with_reducible refine gate_dst (N := 3) rfl ?_); refine box_event ?hg (N := 3) ?hd (cs := #[.int .u64 a1_0, .int .u64 a1_1, .slice A1_2 l1_2.length c1_2, .int .i64 a1_3]) (t := 46) ?hr ?_; (case hd => rfl); (case hg => rfl); (case hr => first | (go_simp; done) | (go_simp; rfl)); intro gb283 hg w14 hbox hb; have n0_ := zm (zF (g := gb282) (o := .cells #[.int .u64 a0_0, .int .u32 a0_1, .slice A0_2 l0_2.length c0_2, .int .i64 a0_3] 43 (0, 0)) (by (with_reducible repeat (first | refine zh ?_ _ | refine zj ?_ | refine zi ?_ _)); exact BK282.out) hb); have n1_ := zm (zJ (by repeat (first | (with_reducible first | exact HB.out | apply ze | apply zd | apply zf | refine zk ?_ GE282.out) | exact HB.out)) hb); have n2_ := zm (hbox); have n3_ := zm ((by rw [hg]; exact (zE (by repeat (first | (with_reducible first | exact HB.out | apply ze | apply zd | apply zf | refine zk ?_ GE282.out) | exact HB.out))) : w.heap.size ≤ gb283)); have n4_ := zm ((by rw [hg]; exact (zE (by repeat (first | (with_reducible first | exact HB.out | apply ze | apply zd | apply zf | refine zk ?_ GE282.out) | exact HB.out))) : w.heap.size ≤ gb283)); have n5_ := zm ((by rw [hg]; exact zn (zD (g := gb282) (o := .cells #[.int .u64 a0_0, .int .u32 a0_1, .slice A0_2 l0_2.length c0_2, .int .i64 a0_3] 43 (0, 0)) (by (with_reducible repeat (first | refine zh ?_ _ | refine zj ?_ | refine zi ?_ _)); exact BK282.out)) : gb282 ≠ gb283)); have n6_ := zm ((by rw [hg]; exact zg (zD (g := gb282) (o := .cells #[.int .u64 a0_0, .int .u32 a0_1, .slice A0_2 l0_2.length c0_2, .int .i64 a0_3] 43 (0, 0)) (by (with_reducible repeat (first | refine zh ?_ _ | refine zj ?_ | refine zi ?_ _)); exact BK282.out)) : gb283 ≠ gb282)); clear BK282; clear HB; have BK282 := n0_; have HB := n1_; have BK283 := n2_; have GW283 := n3_; have GE283 := n4_; have NB282_283 := n5_; have NB283_282 := n6_; clear n0_ n1_ n2_ n3_ n4_ n5_ n6_; clear hb hbox hg; have hnb15 := NB282_283.out; have hnc15 := NB283_282.out; have hcz16_0 : w14.cell? ⟨gb282, 0, none⟩ = some (.int .u64 a0_0) := (zs BK282.out 0).trans rfl; have hcz16_1 : w14.cell? ⟨gb282, 1, none⟩ = some (.int .u32 a0_1) := (zs BK282.out 1).trans rfl; have hcz16_2 : w14.cell? ⟨gb282, 2, none⟩ = some (.slice A0_2 l0_2.length c0_2) := (zs BK282.out 2).trans rfl; have hcz16_3 : w14.cell? ⟨gb282, 3, none⟩ = some (.int .i64 a0_3) := (zs BK282.out 3).trans rfl; have hfz16_0 := zx BK282.out 0; have hfz16_1 := zx BK282.out 1; have hfz16_2 := zx BK282.out 2; have hfz16_3 := zx BK282.out 3; have hcz17_0 : w14.cell? ⟨gb283, 0, none⟩ = some (.int .u64 a1_0) := (zs BK283.out 0).trans rfl; have hcz17_1 : w14.cell? ⟨gb283, 1, none⟩ = some (.int .u64 a1_1) := (zs BK283.out 1).trans rfl; have hcz17_2 : w14.cell? ⟨gb283, 2, none⟩ = some (.slice A1_2 l1_2.length c1_2) := (zs BK283.out 2).trans rfl; have hcz17_3 : w14.cell? ⟨gb283, 3, none⟩ = some (.int .i64 a1_3) := (zs BK283.out 3).trans rfl; have hfz17_0 := zx BK283.out 0; have hfz17_1 := zx BK283.out 1; have hfz17_2 := zx BK283.out 2; have hfz17_3 := zx BK283.out 3; have hcv18 := Kd.C_string (P := Try.prog) (A := A0_2) (c := c0_2) Try.underlying24 Try.underlying5 Try.underlying9 (Kd.C_below HR0_2.out HB.out); have hcv19 := Kd.C_string (P := Try.prog) (A := A1_2) (c := c1_2) Try.underlying24 Try.underlying5 Try.underlying9 (Kd.C_below HR1_2.out HB.out)))
    go_ret
    exact ⟨by first | rfl | (simp [errW_none, errW_some] <;> rfl) | (simp [*, errW_none, errW_some] <;> rfl), by repeat (first | (with_reducible first | exact HB.out | apply ze | apply zd | apply zf | refine zk ?_ GE282.out | refine zk ?_ GE283.out) | exact HB.out)⟩
  ·
   rw [if_neg c4] at H
   have c4b0 : ((IntKind.u64.wrap (a0_1)) == a1_1) = false := beq_eq_false_iff_ne.mpr c4
   have c4b1 : ((IntKind.u64.wrap (a0_1)) != a1_1) = true := bne_iff_ne.mpr c4
   obtain rfl := Option.some.inj H
   go_enter Try.func25, Try.ntmps25
   go_wp2_with (first | ((with_reducible refine gate_dst (N := 2) rfl ?_); refine box_event ?hg (N := 2) ?hd (cs := #[.int .u64 a0_0, .int .u32 a0_1, .slice A0_2 l0_2.length c0_2, .int .i64 a0_3]) (t := 43) ?hr ?_; (case hd => rfl); (case hg => rfl); (case hr => first | (go_simp; done) | (go_simp; rfl)); intro gb282 hg w20 hbox hb; have n0_ := zm (zJ (by repeat (first | (with_reducible first | exact HB.out | apply ze | apply zd | apply zf) | exact HB.out)) hb); have n1_ := zm (hbox); have n2_ := zm ((by rw [hg]; exact (zE (by repeat (first | (with_reducible first | exact HB.out | apply ze | apply zd | apply zf) | exact HB.out))) : w.heap.size ≤ gb282)); have n3_ := zm ((by rw [hg]; exact (zE (by repeat (first | (with_reducible first | exact HB.out | apply ze | apply zd | apply zf) | exact HB.out))) : w.heap.size ≤ gb282)); clear HB; have HB := n0_; have BK282 := n1_; have GW282 := n2_; have GE282 := n3_; clear n0_ n1_ n2_ n3_; clear hb hbox hg) | ((with_reducible refine gate_dst (N := 3) rfl ?_); refine box_event ?hg (N := 3) ?hd (cs := #[.int .u64 a1_0, .int .u64 a1_1, .slice A1_2 l1_2.length c1_2, .int .i64 a1_3]) (t := 46) ?hr ?_; (case hd => rfl); (case hg => rfl); (case hr => first | (go_simp; done) | (go_simp; rfl)); intro gb283 hg w21 hbox hb; have n0_ := zm (zF (g := gb282) (o := .cells #[.int .u64 a0_0, .int .u32 a0_1, .slice A0_2 l0_2.length c0_2, .int .i64 a0_3] 43 (0, 0)) (by (with_reducible repeat (first | refine zh ?_ _ | refine zj ?_ | refine zi ?_ _)); exact BK282.out) hb); have n1_ := zm (zJ (by repeat (first | (with_reducible first | exact HB.out | apply ze | apply zd | apply zf | refine zk ?_ GE282.out) | exact HB.out)) hb); have n2_ := zm (hbox); have n3_ := zm ((by rw [hg]; exact (zE (by repeat (first | (with_reducible first | exact HB.out | apply ze | apply zd | apply zf | refine zk ?_ GE282.out) | exact HB.out))) : w.heap.size ≤ gb283)); have n4_ := zm ((by rw [hg]; exact (zE (by repeat (first | (with_reducible first | exact HB.out | apply ze | apply zd | apply zf | refine zk ?_ GE282.out) | exact HB.out))) : w.heap.size ≤ gb283)); have n5_ := zm ((by rw [hg]; exact zn (zD (g := gb282) (o := .cells #[.int .u64 a0_0, .int .u32 a0_1, .slice A0_2 l0_2.length c0_2, .int .i64 a0_3] 43 (0, 0)) (by (with_reducible repeat (first | refine zh ?_ _ | refine zj ?_ | refine zi ?_ _)); exact BK282.out)) : gb282 ≠ gb283)); have n6_ := zm ((by rw [hg]; exact zg (zD (g := gb282) (o := .cells #[.int .u64 a0_0, .int .u32 a0_1, .slice A0_2 l0_2.length c0_2, .int .i64 a0_3] 43 (0, 0)) (by (with_reducible repeat (first | refine zh ?_ _ | refine zj ?_ | refine zi ?_ _)); exact BK282.out)) : gb283 ≠ gb282)); clear BK282; clear HB; have BK282 := n0_; have HB := n1_; have BK283 := n2_; have GW283 := n3_; have GE283 := n4_; have NB282_283 := n5_; have NB283_282 := n6_; clear n0_ n1_ n2_ n3_ n4_ n5_ n6_; clear hb hbox hg; have hnb22 := NB282_283.out; have hnc22 := NB283_282.out; have hcz23_0 : w21.cell? ⟨gb282, 0, none⟩ = some (.int .u64 a0_0) := (zs BK282.out 0).trans rfl; have hcz23_1 : w21.cell? ⟨gb282, 1, none⟩ = some (.int .u32 a0_1) := (zs BK282.out 1).trans rfl; have hcz23_2 : w21.cell? ⟨gb282, 2, none⟩ = some (.slice A0_2 l0_2.length c0_2) := (zs BK282.out 2).trans rfl; have hcz23_3 : w21.cell? ⟨gb282, 3, none⟩ = some (.int .i64 a0_3) := (zs BK282.out 3).trans rfl; have hfz23_0 := zx BK282.out 0; have hfz23_1 := zx BK282.out 1; have hfz23_2 := zx BK282.out 2; have hfz23_3 := zx BK282.out 3; have hcz24_0 : w21.cell? ⟨gb283, 0, none⟩ = some (.int .u64 a1_0) := (zs BK283.out 0).trans rfl; have hcz24_1 : w21.cell? ⟨gb283, 1, none⟩ = some (.int .u64 a1_1) := (zs BK283.out 1).trans rfl; have hcz24_2 : w21.cell? ⟨gb283, 2, none⟩ = some (.slice A1_2 l1_2.length c1_2) := (zs BK283.out 2).trans rfl; have hcz24_3 : w21.cell? ⟨gb283, 3, none⟩ = some (.int .i64 a1_3) := (zs BK283.out 3).trans rfl; have hfz24_0 := zx BK283.out 0; have hfz24_1 := zx BK283.out 1; have hfz24_2 := zx BK283.out 2; have hfz24_3 := zx BK283.out 3))
   go_ret
   exact ⟨by first | rfl | (simp [errW_none, errW_some] <;> rfl) | (simp [*, errW_none, errW_some] <;> rfl), by repeat (first | (with_reducible first | exact HB.out | apply ze | apply zd | apply zf | refine zk ?_ GE282.out | refine zk ?_ GE283.out) | exact HB.out)⟩
 ·
  rw [if_neg c3] at H
  have c3b0 : (a0_0 == a1_0) = false := beq_eq_false_iff_ne.mpr c3
  have c3b1 : (a0_0 != a1_0) = true := bne_iff_ne.mpr c3
  obtain rfl := Option.some.inj H
  go_enter Try.func25, Try.ntmps25
  go_wp2_with (first | ((with_reducible refine gate_dst (N := 2) rfl ?_); refine box_event ?hg (N := 2) ?hd (cs := #[.int .u64 a0_0, .int .u32 a0_1, .slice A0_2 l0_2.length c0_2, .int .i64 a0_3]) (t := 43) ?hr ?_; (case hd => rfl); (case hg => rfl); (case hr => first | (go_simp; done) | (go_simp; rfl)); intro gb282 hg w25 hbox hb; have n0_ := zm (zJ (by repeat (first | (with_reducible first | exact HB.out | apply ze | apply zd | apply zf) | exact HB.out)) hb); have n1_ := zm (hbox); have n2_ := zm ((by rw [hg]; exact (zE (by repeat (first | (with_reducible first | exact HB.out | apply ze | apply zd | apply zf) | exact HB.out))) : w.heap.size ≤ gb282)); have n3_ := zm ((by rw [hg]; exact (zE (by repeat (first | (with_reducible first | exact HB.out | apply ze | apply zd | apply zf) | exact HB.out))) : w.heap.size ≤ gb282)); clear HB; have HB := n0_; have BK282 := n1_; have GW282 := n2_; have GE282 := n3_; clear n0_ n1_ n2_ n3_; clear hb hbox hg) | ((with_reducible refine gate_dst (N := 3) rfl ?_); refine box_event ?hg (N := 3) ?hd (cs := #[.int .u64 a1_0, .int .u64 a1_1, .slice A1_2 l1_2.length c1_2, .int .i64 a1_3]) (t := 46) ?hr ?_; (case hd => rfl); (case hg => rfl); (case hr => first | (go_simp; done) | (go_simp; rfl)); intro gb283 hg w26 hbox hb; have n0_ := zm (zF (g := gb282) (o := .cells #[.int .u64 a0_0, .int .u32 a0_1, .slice A0_2 l0_2.length c0_2, .int .i64 a0_3] 43 (0, 0)) (by (with_reducible repeat (first | refine zh ?_ _ | refine zj ?_ | refine zi ?_ _)); exact BK282.out) hb); have n1_ := zm (zJ (by repeat (first | (with_reducible first | exact HB.out | apply ze | apply zd | apply zf | refine zk ?_ GE282.out) | exact HB.out)) hb); have n2_ := zm (hbox); have n3_ := zm ((by rw [hg]; exact (zE (by repeat (first | (with_reducible first | exact HB.out | apply ze | apply zd | apply zf | refine zk ?_ GE282.out) | exact HB.out))) : w.heap.size ≤ gb283)); have n4_ := zm ((by rw [hg]; exact (zE (by repeat (first | (with_reducible first | exact HB.out | apply ze | apply zd | apply zf | refine zk ?_ GE282.out) | exact HB.out))) : w.heap.size ≤ gb283)); have n5_ := zm ((by rw [hg]; exact zn (zD (g := gb282) (o := .cells #[.int .u64 a0_0, .int .u32 a0_1, .slice A0_2 l0_2.length c0_2, .int .i64 a0_3] 43 (0, 0)) (by (with_reducible repeat (first | refine zh ?_ _ | refine zj ?_ | refine zi ?_ _)); exact BK282.out)) : gb282 ≠ gb283)); have n6_ := zm ((by rw [hg]; exact zg (zD (g := gb282) (o := .cells #[.int .u64 a0_0, .int .u32 a0_1, .slice A0_2 l0_2.length c0_2, .int .i64 a0_3] 43 (0, 0)) (by (with_reducible repeat (first | refine zh ?_ _ | refine zj ?_ | refine zi ?_ _)); exact BK282.out)) : gb283 ≠ gb282)); clear BK282; clear HB; have BK282 := n0_; have HB := n1_; have BK283 := n2_; have GW283 := n3_; have GE283 := n4_; have NB282_283 := n5_; have NB283_282 := n6_; clear n0_ n1_ n2_ n3_ n4_ n5_ n6_; clear hb hbox hg; have hnb27 := NB282_283.out; have hnc27 := NB283_282.out; have hcz28_0 : w26.cell? ⟨gb282, 0, none⟩ = some (.int .u64 a0_0) := (zs BK282.out 0).trans rfl; have hcz28_1 : w26.cell? ⟨gb282, 1, none⟩ = some (.int .u32 a0_1) := (zs BK282.out 1).trans rfl; have hcz28_2 : w26.cell? ⟨gb282, 2, none⟩ = some (.slice A0_2 l0_2.length c0_2) := (zs BK282.out 2).trans rfl; have hcz28_3 : w26.cell? ⟨gb282, 3, none⟩ = some (.int .i64 a0_3) := (zs BK282.out 3).trans rfl; have hfz28_0 := zx BK282.out 0; have hfz28_1 := zx BK282.out 1; have hfz28_2 := zx BK282.out 2; have hfz28_3 := zx BK282.out 3; have hcz29_0 : w26.cell? ⟨gb283, 0, none⟩ = some (.int .u64 a1_0) := (zs BK283.out 0).trans rfl; have hcz29_1 : w26.cell? ⟨gb283, 1, none⟩ = some (.int .u64 a1_1) := (zs BK283.out 1).trans rfl; have hcz29_2 : w26.cell? ⟨gb283, 2, none⟩ = some (.slice A1_2 l1_2.length c1_2) := (zs BK283.out 2).trans rfl; have hcz29_3 : w26.cell? ⟨gb283, 3, none⟩ = some (.int .i64 a1_3) := (zs BK283.out 3).trans rfl; have hfz29_0 := zx BK283.out 0; have hfz29_1 := zx BK283.out 1; have hfz29_2 := zx BK283.out 2; have hfz29_3 := zx BK283.out 3))
  go_ret
  exact ⟨by first | rfl | (simp [errW_none, errW_some] <;> rfl) | (simp [*, errW_none, errW_some] <;> rfl), by repeat (first | (with_reducible first | exact HB.out | apply ze | apply zd | apply zf | refine zk ?_ GE282.out | refine zk ?_ GE283.out) | exact HB.out)⟩

end Go.Proofs.Ytkaoiblgfpphoaa.Prt

namespace Go.Proofs.Ytkaoiblgfpphoaa.Prt
open Go.RowKit Go.Proofs.YtkaoiblgfpphoaaW.PrintWords Go.Proofs.YtkaoiblgfpphoaaW.PrintLast Go.Proofs.YtkaoiblgfpphoaaW.PrintMore
attribute [local go_sem] max2_int min2_int max_two min_two max_three min_three max_four min_four   -- for this text's walks alone
set_option linter.unusedVariables false
set_option linter.unusedSimpArgs false

/-! ### psalterylaw05_SameEnc: function 23 -/
mutual
def psalterylaw05_SameEnc.j0 : Nat → Bool → Int → List Int → Int → List Int → Option (Bool)
 | 0, _, _, _, _, _ => none
 | k + 1, x27, x246000, x246001, x251000, x251001 => if x27 = true then (some false) else (psalterylaw05_SameEnc.l0 k 0 x246000 x246001 x251000 x251001)
def psalterylaw05_SameEnc.l0 : Nat → Int → Int → List Int → Int → List Int → Option (Bool)
 | 0, _, _, _, _, _ => none
 | k + 1, x6, x246000, x246001, x251000, x251001 => if x6 < (x251001.length : Int) then (if 0 ≤ x6 then (if x6 < (x246001.length : Int) then (if (rd x251001 x6) = (rd x246001 x6) then (psalterylaw05_SameEnc.l0 k (wrap64 (x6 + 1)) x246000 x246001 x251000 x251001) else (some false)) else (none)) else (none)) else (some true)
end
def psalterylaw05_SameEnc.f (k : Nat) (a0_0 : Int) (a0_1 : Int) (l0_2 : List Int) (a1_0 : Int) (l1_1 : List Int) : Option (Bool) := (psalterylaw05_AsEnc.f k a0_0 a0_1 l0_2).bind fun bt246 => ((psalterylaw05_right.f a0_0 a0_1 l0_2).bind fun t251 => (if t251 = true then (if bt246.1 = a1_0 then (psalterylaw05_SameEnc.j0 k ((bt246.2.length : Int) != (l1_1.length : Int)) a1_0 l1_1 bt246.1 bt246.2) else (psalterylaw05_SameEnc.j0 k true a1_0 l1_1 bt246.1 bt246.2)) else (psalterylaw05_SameEnc.j0 k true a1_0 l1_1 bt246.1 bt246.2)))
theorem psalterylaw05_SameEnc.mono_l : ∀ k, (∀ y0 y1 y2 y3 y4, LeO (psalterylaw05_SameEnc.j0 k y0 y1 y2 y3 y4) (psalterylaw05_SameEnc.j0 (k + 1) y0 y1 y2 y3 y4)) ∧ (∀ y0 y1 y2 y3 y4, LeO (psalterylaw05_SameEnc.l0 k y0 y1 y2 y3 y4) (psalterylaw05_SameEnc.l0 (k + 1) y0 y1 y2 y3 y4))
 | 0 => ⟨fun _ _ _ _ _ r h => by simp [psalterylaw05_SameEnc.j0] at h, fun _ _ _ _ _ r h => by simp [psalterylaw05_SameEnc.l0] at h⟩
 | k + 1 => by
  obtain ⟨ih0, ih1⟩ := psalterylaw05_SameEnc.mono_l k
  refine ⟨?_, ?_⟩
  ·
   intro y0 y1 y2 y3 y4
   unfold psalterylaw05_SameEnc.j0
   repeat' first
   | (with_reducible exact ih0 _ _ _ _ _)
   | (with_reducible exact ih1 _ _ _ _ _)
   | (with_reducible exact psalterylaw05_AsEnc.mono _ _ _ _)
   | (with_reducible exact LeO.refl _)
   | (with_reducible exact LeO.none _)
   | (with_reducible refine LeO.ite ?_ ?_)
   | (with_reducible refine LeO.bind ?_ (fun _ => ?_))
   | exact ih0 _ _ _ _ _
   | exact ih1 _ _ _ _ _
   | exact psalterylaw05_AsEnc.mono _ _ _ _
   | exact LeO.none _
   | refine LeO.ite ?_ ?_
   | refine LeO.bind ?_ (fun _ => ?_)
  ·
   intro y0 y1 y2 y3 y4
   unfold psalterylaw05_SameEnc.l0
   repeat' first
   | (with_reducible exact ih0 _ _ _ _ _)
   | (with_reducible exact ih1 _ _ _ _ _)
   | (with_reducible exact psalterylaw05_AsEnc.mono _ _ _ _)
   | (with_reducible exact LeO.refl _)
   | (with_reducible exact LeO.none _)
   | (with_reducible refine LeO.ite ?_ ?_)
   | (with_reducible refine LeO.bind ?_ (fun _ => ?_))
   | exact ih0 _ _ _ _ _
   | exact ih1 _ _ _ _ _
   | exact psalterylaw05_AsEnc.mono _ _ _ _
   | exact LeO.none _
   | refine LeO.ite ?_ ?_
   | refine LeO.bind ?_ (fun _ => ?_)
theorem psalterylaw05_SameEnc.mono : ∀ a0 a1 a2 a3 a4 k, LeO (psalterylaw05_SameEnc.f k a0 a1 a2 a3 a4) (psalterylaw05_SameEnc.f (k + 1) a0 a1 a2 a3 a4) := by
 intro a0 a1 a2 a3 a4 k
 obtain ⟨ih0, ih1⟩ := psalterylaw05_SameEnc.mono_l k
 unfold psalterylaw05_SameEnc.f
 repeat' first
   | (with_reducible exact ih0 _ _ _ _ _)
   | (with_reducible exact ih1 _ _ _ _ _)
   | (with_reducible exact psalterylaw05_AsEnc.mono _ _ _ _)
   | (with_reducible exact LeO.refl _)
   | (with_reducible exact LeO.none _)
   | (with_reducible refine LeO.ite ?_ ?_)
   | (with_reducible refine LeO.bind ?_ (fun _ => ?_))
   | exact ih0 _ _ _ _ _
   | exact ih1 _ _ _ _ _
   | exact psalterylaw05_AsEnc.mono _ _ _ _
   | exact LeO.none _
   | refine LeO.ite ?_ ?_
   | refine LeO.bind ?_ (fun _ => ?_)
set_option maxHeartbeats 8000000 in
set_option maxRecDepth 100000 in
theorem psalterylaw05_SameEnc.calls (k : Nat) (a0_0 : Int) (a0_1 : Int) (A0_2 : Option Addr) (c0_2 : Nat) (l0_2 : List Int) (a1_0 : Int) (A1_1 : Option Addr) (c1_1 : Nat) (l1_1 : List Int) (r : Bool) (w : World) (hr0_2 : Kd.C (Kd.int .u8) w A0_2 l0_2.length l0_2) (hc0_2 : l0_2.length ≤ c0_2) (hr1_1 : Kd.C (Kd.int .i64) w A1_1 l1_1.length l1_1) (hc1_1 : l1_1.length ≤ c1_1) (h : psalterylaw05_SameEnc.f k a0_0 a0_1 l0_2 a1_0 l1_1 = some r) :
  Calls Try.prog 23 #[.agg #[.int .u64 a0_0, .int .u32 a0_1, .slice A0_2 l0_2.length c0_2], .agg #[.int .u64 a1_0, .slice A1_1 l1_1.length c1_1]] w fun e w' => e = .returned (.bool r) ∧ Below w.heap.size w w' := by
 have hu26 := Try.underlying26
 have hu33 := Try.underlying33
 have HR0_2 := zm hr0_2
 have HC0_2 := zm hc0_2
 clear hr0_2 hc0_2
 have HR1_1 := zm hr1_1
 have HC1_1 := zm hc1_1
 clear hr1_1 hc1_1
 have HB := zm (Below.refl w.heap.size w)
 have H : ((psalterylaw05_AsEnc.f k a0_0 a0_1 l0_2).bind fun bt246 => ((psalterylaw05_right.f a0_0 a0_1 l0_2).bind fun t251 => (if t251 = true then (if bt246.1 = a1_0 then (psalterylaw05_SameEnc.j0 k ((bt246.2.length : Int) != (l1_1.length : Int)) a1_0 l1_1 bt246.1 bt246.2) else (psalterylaw05_SameEnc.j0 k true a1_0 l1_1 bt246.1 bt246.2)) else (psalterylaw05_SameEnc.j0 k true a1_0 l1_1 bt246.1 bt246.2)))) = some r := h
 clear h
 replace H := Option.bind_eq_some_iff.mp H
 obtain ⟨⟨t246, t247⟩, A30, H⟩ := H
 replace H : ((psalterylaw05_right.f a0_0 a0_1 l0_2).bind fun t251 => (if t251 = true then (if t246 = a1_0 then (psalterylaw05_SameEnc.j0 k ((t247.length : Int) != (l1_1.length : Int)) a1_0 l1_1 t246 t247) else (psalterylaw05_SameEnc.j0 k true a1_0 l1_1 t246 t247)) else (psalterylaw05_SameEnc.j0 k true a1_0 l1_1 t246 t247))) = some r := H
 have A3 := zm A30
 clear A30
 have HC4 := zm H
 clear H
 go_enter Try.func23, Try.ntmps23
 go_upto_region 2 with (first | ((with_reducible refine gate_dst (N := 2) rfl ?_); (try (refine gate_guard (by rfl) ?_; dsimp only)); refine box_event ?hg (N := 2) ?hd (cs := #[.int .u64 a0_0, .int .u32 a0_1, .slice A0_2 l0_2.length c0_2]) (t := 26) ?hr ?_; (case hd => rfl); (case hg => rfl); (case hr => first | (go_simp; done) | (go_simp; rfl)); intro gb244 hg w5 hbox hb; have n0_ := zm (zJ (by repeat (first | (with_reducible first | exact HB.out | apply ze | apply zd | apply zf) | exact HB.out)) hb); have n1_ := zm (hbox); have n2_ := zm ((by rw [hg]; exact (zE (by repeat (first | (with_reducible first | exact HB.out | apply ze | apply zd | apply zf) | exact HB.out))) : w.heap.size ≤ gb244)); have n3_ := zm ((by rw [hg]; exact (zE (by repeat (first | (with_reducible first | exact HB.out | apply ze | apply zd | apply zf) | exact HB.out))) : w.heap.size ≤ gb244)); clear HB; have HB := n0_; have BK244 := n1_; have GW244 := n2_; have GE244 := n3_; clear n0_ n1_ n2_ n3_; clear hb hbox hg) | ((with_reducible refine gate_dst (N := 3) rfl ?_); (try (refine gate_guard (by rfl) ?_; dsimp only)); refine box_event ?hg (N := 3) ?hd (cs := #[.int .u64 a1_0, .slice A1_1 l1_1.length c1_1]) (t := 33) ?hr ?_; (case hd => rfl); (case hg => rfl); (case hr => first | (go_simp; done) | (go_simp; rfl)); intro gb245 hg w6 hbox hb; have n0_ := zm (zF (g := gb244) (o := .cells #[.int .u64 a0_0, .int .u32 a0_1, .slice A0_2 l0_2.length c0_2] 26 (0, 0)) (by (with_reducible repeat (first | refine zh ?_ _ | refine zj ?_ | refine zi ?_ _)); exact BK244.out) hb); have n1_ := zm (zJ (by repeat (first | (with_reducible first | exact HB.out | apply ze | apply zd | apply zf | refine zk ?_ GE244.out) | exact HB.out)) hb); have n2_ := zm (hbox); have n3_ := zm ((by rw [hg]; exact (zE (by repeat (first | (with_reducible first | exact HB.out | apply ze | apply zd | apply zf | refine zk ?_ GE244.out) | exact HB.out))) : w.heap.size ≤ gb245)); have n4_ := zm ((by rw [hg]; exact (zE (by repeat (first | (with_reducible first | exact HB.out | apply ze | apply zd | apply zf | refine zk ?_ GE244.out) | exact HB.out))) : w.heap.size ≤ gb245)); have n5_ := zm ((by rw [hg]; exact zn (zD (g := gb244) (o := .cells #[.int .u64 a0_0, .int .u32 a0_1, .slice A0_2 l0_2.length c0_2] 26 (0, 0)) (by (with_reducible repeat (first | refine zh ?_ _ | refine zj ?_ | refine zi ?_ _)); exact BK244.out)) : gb244 ≠ gb245)); have n6_ := zm ((by rw [hg]; exact zg (zD (g := gb244) (o := .cells #[.int .u64 a0_0, .int .u32 a0_1, .slice A0_2 l0_2.length c0_2] 26 (0, 0)) (by (with_reducible repeat (first | refine zh ?_ _ | refine zj ?_ | refine zi ?_ _)); exact BK244.out)) : gb245 ≠ gb244)); clear BK244; clear HB; have BK244 := n0_; have HB := n1_; have BK245 := n2_; have GW245 := n3_; have GE245 := n4_; have NB244_245 := n5_; have NB245_244 := n6_; clear n0_ n1_ n2_ n3_ n4_ n5_ n6_; clear hb hbox hg; have hnb7 := NB244_245.out; have hnc7 := NB245_244.out; have hcz8_0 : w6.cell? ⟨gb244, 0, none⟩ = some (.int .u64 a0_0) := (zs BK244.out 0).trans rfl; have hcz8_1 : w6.cell? ⟨gb244, 1, none⟩ = some (.int .u32 a0_1) := (zs BK244.out 1).trans rfl; have hcz8_2 : w6.cell? ⟨gb244, 2, none⟩ = some (.slice A0_2 l0_2.length c0_2) := (zs BK244.out 2).trans rfl; have hfz8_0 := zx BK244.out 0; have hfz8_1 := zx BK244.out 1; have hfz8_2 := zx BK244.out 2) | (go_at_call 20; (with_reducible refine (psalterylaw05_AsEnc.calls k a0_0 a0_1 _ _ l0_2 t246 t247 _ ?side1 ?side2 A3.out).mono ?_); (case side1 => repeat (first | exact (Kd.C_below HR0_2.out HB.out) | (with_reducible refine Kd.C_alloc ?_ _) | (with_reducible refine Kd.C_drewN ?_ _) | (with_reducible refine Kd.C_drew ?_))); (case side2 => exact HC0_2.out); rintro e w9 ⟨v248, rfl, ho0, hb⟩; have n0_ := zm (Kd.R_lower ho0 (zE (by repeat (first | (with_reducible first | exact HB.out | apply ze | apply zd | apply zf | refine zk ?_ GE244.out | refine zk ?_ GE245.out) | exact HB.out)))); have n1_ := zm (zF (g := gb244) (o := .cells #[.int .u64 a0_0, .int .u32 a0_1, .slice A0_2 l0_2.length c0_2] 26 (0, 0)) (by (with_reducible repeat (first | refine zh ?_ _ | refine zj ?_ | refine zi ?_ _)); exact BK244.out) hb); have n2_ := zm (zF (g := gb245) (o := .cells #[.int .u64 a1_0, .slice A1_1 l1_1.length c1_1] 33 (0, 0)) (by (with_reducible repeat (first | refine zh ?_ _ | refine zj ?_ | refine zi ?_ _)); exact BK245.out) hb); have n3_ := zm (zJ (by repeat (first | (with_reducible first | exact HB.out | apply ze | apply zd | apply zf | refine zk ?_ GE244.out | refine zk ?_ GE245.out) | exact HB.out)) hb); clear BK244; clear BK245; clear HB; have HO249 := n0_; have BK244 := n1_; have BK245 := n2_; have HB := n3_; clear n0_ n1_ n2_ n3_; (try clear hb); (try clear hb2); (try clear hk); (try clear hi); (try clear ho0)) | ((with_reducible refine gate_dst (N := 5) rfl ?_); (try (refine gate_guard (by rfl) ?_; dsimp only)); refine box_event ?hg (N := 5) ?hd (cs := #[.int .u64 0, .slice none 0 0]) (t := 33) ?hr ?_; (case hd => rfl); (case hg => rfl); (case hr => first | (go_simp; done) | (go_simp; rfl)); intro gb250 hg w10 hbox hb; have n0_ := zm (Kd.R_below (by (with_reducible repeat (first | apply zo | apply zp | apply zq)); exact HO249.out) hb); have n1_ := zm (zF (g := gb244) (o := .cells #[.int .u64 a0_0, .int .u32 a0_1, .slice A0_2 l0_2.length c0_2] 26 (0, 0)) (by (with_reducible repeat (first | refine zh ?_ _ | refine zj ?_ | refine zi ?_ _)); exact BK244.out) hb); have n2_ := zm (zF (g := gb245) (o := .cells #[.int .u64 a1_0, .slice A1_1 l1_1.length c1_1] 33 (0, 0)) (by (with_reducible repeat (first | refine zh ?_ _ | refine zj ?_ | refine zi ?_ _)); exact BK245.out) hb); have n3_ := zm (zJ (by repeat (first | (with_reducible first | exact HB.out | apply ze | apply zd | apply zf | refine zk ?_ GE244.out | refine zk ?_ GE245.out) | exact HB.out)) hb); have n4_ := zm (hbox); have n5_ := zm ((by rw [hg]; exact (zE (by repeat (first | (with_reducible first | exact HB.out | apply ze | apply zd | apply zf | refine zk ?_ GE244.out | refine zk ?_ GE245.out) | exact HB.out))) : w.heap.size ≤ gb250)); have n6_ := zm ((by rw [hg]; exact (zE (by repeat (first | (with_reducible first | exact HB.out | apply ze | apply zd | apply zf | refine zk ?_ GE244.out | refine zk ?_ GE245.out) | exact HB.out))) : w.heap.size ≤ gb250)); have n7_ := zm ((by rw [hg]; exact zn (zD (g := gb244) (o := .cells #[.int .u64 a0_0, .int .u32 a0_1, .slice A0_2 l0_2.length c0_2] 26 (0, 0)) (by (with_reducible repeat (first | refine zh ?_ _ | refine zj ?_ | refine zi ?_ _)); exact BK244.out)) : gb244 ≠ gb250)); have n8_ := zm ((by rw [hg]; exact zg (zD (g := gb244) (o := .cells #[.int .u64 a0_0, .int .u32 a0_1, .slice A0_2 l0_2.length c0_2] 26 (0, 0)) (by (with_reducible repeat (first | refine zh ?_ _ | refine zj ?_ | refine zi ?_ _)); exact BK244.out)) : gb250 ≠ gb244)); have n9_ := zm ((by rw [hg]; exact zn (zD (g := gb245) (o := .cells #[.int .u64 a1_0, .slice A1_1 l1_1.length c1_1] 33 (0, 0)) (by (with_reducible repeat (first | refine zh ?_ _ | refine zj ?_ | refine zi ?_ _)); exact BK245.out)) : gb245 ≠ gb250)); have n10_ := zm ((by rw [hg]; exact zg (zD (g := gb245) (o := .cells #[.int .u64 a1_0, .slice A1_1 l1_1.length c1_1] 33 (0, 0)) (by (with_reducible repeat (first | refine zh ?_ _ | refine zj ?_ | refine zi ?_ _)); exact BK245.out)) : gb250 ≠ gb245)); clear HO249; clear BK244; clear BK245; clear HB; have HO249 := n0_; have BK244 := n1_; have BK245 := n2_; have HB := n3_; have BK250 := n4_; have GW250 := n5_; have GE250 := n6_; have NB244_250 := n7_; have NB250_244 := n8_; have NB245_250 := n9_; have NB250_245 := n10_; clear n0_ n1_ n2_ n3_ n4_ n5_ n6_ n7_ n8_ n9_ n10_; clear hb hbox hg; have hnb11 := NB250_244.out; have hnc11 := NB244_250.out; have hnb12 := NB250_245.out; have hnc12 := NB245_250.out; have hcz13_0 : w10.cell? ⟨gb250, 0, none⟩ = some (.int .u64 0) := (zs BK250.out 0).trans rfl; have hcz13_1 : w10.cell? ⟨gb250, 1, none⟩ = some (.slice none 0 0) := (zs BK250.out 1).trans rfl; have hfz13_0 := zx BK250.out 0; have hfz13_1 := zx BK250.out 1; obtain ⟨Ao14, co14, eo14⟩ := Kd.R_slice HO249.out; subst eo14))
 repeat (go_quiet (first | ((with_reducible refine gate_dst (N := 2) rfl ?_); (try (refine gate_guard (by rfl) ?_; dsimp only)); refine box_event ?hg (N := 2) ?hd (cs := #[.int .u64 a0_0, .int .u32 a0_1, .slice A0_2 l0_2.length c0_2]) (t := 26) ?hr ?_; (case hd => rfl); (case hg => rfl); (case hr => first | (go_simp; done) | (go_simp; rfl)); intro gb244 hg w5 hbox hb; have n0_ := zm (zJ (by repeat (first | (with_reducible first | exact HB.out | apply ze | apply zd | apply zf) | exact HB.out)) hb); have n1_ := zm (hbox); have n2_ := zm ((by rw [hg]; exact (zE (by repeat (first | (with_reducible first | exact HB.out | apply ze | apply zd | apply zf) | exact HB.out))) : w.heap.size ≤ gb244)); have n3_ := zm ((by rw [hg]; exact (zE (by repeat (first | (with_reducible first | exact HB.out | apply ze | apply zd | apply zf) | exact HB.out))) : w.heap.size ≤ gb244)); clear HB; have HB := n0_; have BK244 := n1_; have GW244 := n2_; have GE244 := n3_; clear n0_ n1_ n2_ n3_; clear hb hbox hg) | ((with_reducible refine gate_dst (N := 3) rfl ?_); (try (refine gate_guard (by rfl) ?_; dsimp only)); refine box_event ?hg (N := 3) ?hd (cs := #[.int .u64 a1_0, .slice A1_1 l1_1.length c1_1]) (t := 33) ?hr ?_; (case hd => rfl); (case hg => rfl); (case hr => first | (go_simp; done) | (go_simp; rfl)); intro gb245 hg w6 hbox hb; have n0_ := zm (zF (g := gb244) (o := .cells #[.int .u64 a0_0, .int .u32 a0_1, .slice A0_2 l0_2.length c0_2] 26 (0, 0)) (by (with_reducible repeat (first | refine zh ?_ _ | refine zj ?_ | refine zi ?_ _)); exact BK244.out) hb); have n1_ := zm (zJ (by repeat (first | (with_reducible first | exact HB.out | apply ze | apply zd | apply zf | refine zk ?_ GE244.out) | exact HB.out)) hb); have n2_ := zm (hbox); have n3_ := zm ((by rw [hg]; exact (zE (by repeat (first | (with_reducible first | exact HB.out | apply ze | apply zd | apply zf | refine zk ?_ GE244.out) | exact HB.out))) : w.heap.size ≤ gb245)); have n4_ := zm ((by rw [hg]; exact (zE (by repeat (first | (with_reducible first | exact HB.out | apply ze | apply zd | apply zf | refine zk ?_ GE244.out) | exact HB.out))) : w.heap.size ≤ gb245)); have n5_ := zm ((by rw [hg]; exact zn (zD (g := gb244) (o := .cells #[.int .u64 a0_0, .int .u32 a0_1, .slice A0_2 l0_2.length c0_2] 26 (0, 0)) (by (with_reducible repeat (first | refine zh ?_ _ | refine zj ?_ | refine zi ?_ _)); exact BK244.out)) : gb244 ≠ gb245)); have n6_ := zm ((by rw [hg]; exact zg (zD (g := gb244) (o := .cells #[.int .u64 a0_0, .int .u32 a0_1, .slice A0_2 l0_2.length c0_2] 26 (0, 0)) (by (with_reducible repeat (first | refine zh ?_ _ | refine zj ?_ | refine zi ?_ _)); exact BK244.out)) : gb245 ≠ gb244)); clear BK244; clear HB; have BK244 := n0_; have HB := n1_; have BK245 := n2_; have GW245 := n3_; have GE245 := n4_; have NB244_245 := n5_; have NB245_244 := n6_; clear n0_ n1_ n2_ n3_ n4_ n5_ n6_; clear hb hbox hg; have hnb7 := NB244_245.out; have hnc7 := NB245_244.out; have hcz8_0 : w6.cell? ⟨gb244, 0, none⟩ = some (.int .u64 a0_0) := (zs BK244.out 0).trans rfl; have hcz8_1 : w6.cell? ⟨gb244, 1, none⟩ = some (.int .u32 a0_1) := (zs BK244.out 1).trans rfl; have hcz8_2 : w6.cell? ⟨gb244, 2, none⟩ = some (.slice A0_2 l0_2.length c0_2) := (zs BK244.out 2).trans rfl; have hfz8_0 := zx BK244.out 0; have hfz8_1 := zx BK244.out 1; have hfz8_2 := zx BK244.out 2) | (go_at_call 20; (with_reducible refine (psalterylaw05_AsEnc.calls k a0_0 a0_1 _ _ l0_2 t246 t247 _ ?side1 ?side2 A3.out).mono ?_); (case side1 => repeat (first | exact (Kd.C_below HR0_2.out HB.out) | (with_reducible refine Kd.C_alloc ?_ _) | (with_reducible refine Kd.C_drewN ?_ _) | (with_reducible refine Kd.C_drew ?_))); (case side2 => exact HC0_2.out); rintro e w9 ⟨v248, rfl, ho0, hb⟩; have n0_ := zm (Kd.R_lower ho0 (zE (by repeat (first | (with_reducible first | exact HB.out | apply ze | apply zd | apply zf | refine zk ?_ GE244.out | refine zk ?_ GE245.out) | exact HB.out)))); have n1_ := zm (zF (g := gb244) (o := .cells #[.int .u64 a0_0, .int .u32 a0_1, .slice A0_2 l0_2.length c0_2] 26 (0, 0)) (by (with_reducible repeat (first | refine zh ?_ _ | refine zj ?_ | refine zi ?_ _)); exact BK244.out) hb); have n2_ := zm (zF (g := gb245) (o := .cells #[.int .u64 a1_0, .slice A1_1 l1_1.length c1_1] 33 (0, 0)) (by (with_reducible repeat (first | refine zh ?_ _ | refine zj ?_ | refine zi ?_ _)); exact BK245.out) hb); have n3_ := zm (zJ (by repeat (first | (with_reducible first | exact HB.out | apply ze | apply zd | apply zf | refine zk ?_ GE244.out | refine zk ?_ GE245.out) | exact HB.out)) hb); clear BK244; clear BK245; clear HB; have HO249 := n0_; have BK244 := n1_; have BK245 := n2_; have HB := n3_; clear n0_ n1_ n2_ n3_; (try clear hb); (try clear hb2); (try clear hk); (try clear hi); (try clear ho0)) | ((with_reducible refine gate_dst (N := 5) rfl ?_); (try (refine gate_guard (by rfl) ?_; dsimp only)); refine box_event ?hg (N := 5) ?hd (cs := #[.int .u64 0, .slice none 0 0]) (t := 33) ?hr ?_; (case hd => rfl); (case hg => rfl); (case hr => first | (go_simp; done) | (go_simp; rfl)); intro gb250 hg w10 hbox hb; have n0_ := zm (Kd.R_below (by (with_reducible repeat (first | apply zo | apply zp | apply zq)); exact HO249.out) hb); have n1_ := zm (zF (g := gb244) (o := .cells #[.int .u64 a0_0, .int .u32 a0_1, .slice A0_2 l0_2.length c0_2] 26 (0, 0)) (by (with_reducible repeat (first | refine zh ?_ _ | refine zj ?_ | refine zi ?_ _)); exact BK244.out) hb); have n2_ := zm (zF (g := gb245) (o := .cells #[.int .u64 a1_0, .slice A1_1 l1_1.length c1_1] 33 (0, 0)) (by (with_reducible repeat (first | refine zh ?_ _ | refine zj ?_ | refine zi ?_ _)); exact BK245.out) hb); have n3_ := zm (zJ (by repeat (first | (with_reducible first | exact HB.out | apply ze | apply zd | apply zf | refine zk ?_ GE244.out | refine zk ?_ GE245.out) | exact HB.out)) hb); have n4_ := zm (hbox); have n5_ := zm ((by rw [hg]; exact (zE (by repeat (first | (with_reducible first | exact HB.out | apply ze | apply zd | apply zf | refine zk ?_ GE244.out | refine zk ?_ GE245.out) | exact HB.out))) : w.heap.size ≤ gb250)); have n6_ := zm ((by rw [hg]; exact (zE (by repeat (first | (with_reducible first | exact HB.out | apply ze | apply zd | apply zf | refine zk ?_ GE244.out | refine zk ?_ GE245.out) | exact HB.out))) : w.heap.size ≤ gb250)); have n7_ := zm ((by rw [hg]; exact zn (zD (g := gb244) (o := .cells #[.int .u64 a0_0, .int .u32 a0_1, .slice A0_2 l0_2.length c0_2] 26 (0, 0)) (by (with_reducible repeat (first | refine zh ?_ _ | refine zj ?_ | refine zi ?_ _)); exact BK244.out)) : gb244 ≠ gb250)); have n8_ := zm ((by rw [hg]; exact zg (zD (g := gb244) (o := .cells #[.int .u64 a0_0, .int .u32 a0_1, .slice A0_2 l0_2.length c0_2] 26 (0, 0)) (by (with_reducible repeat (first | refine zh ?_ _ | refine zj ?_ | refine zi ?_ _)); exact BK244.out)) : gb250 ≠ gb244)); have n9_ := zm ((by rw [hg]; exact zn (zD (g := gb245) (o := .cells #[.int .u64 a1_0, .slice A1_1 l1_1.length c1_1] 33 (0, 0)) (by (with_reducible repeat (first | refine zh ?_ _ | refine zj ?_ | refine zi ?_ _)); exact BK245.out)) : gb245 ≠ gb250)); have n10_ := zm ((by rw [hg]; exact zg (zD (g := gb245) (o := .cells #[.int .u64 a1_0, .slice A1_1 l1_1.length c1_1] 33 (0, 0)) (by (with_reducible repeat (first | refine zh ?_ _ | refine zj ?_ | refine zi ?_ _)); exact BK245.out)) : gb250 ≠ gb245)); clear HO249; clear BK244; clear BK245; clear HB; have HO249 := n0_; have BK244 := n1_; have BK245 := n2_; have HB := n3_; have BK250 := n4_; have GW250 := n5_; have GE250 := n6_; have NB244_250 := n7_; have NB250_244 := n8_; have NB245_250 := n9_; have NB250_245 := n10_; clear n0_ n1_ n2_ n3_ n4_ n5_ n6_ n7_ n8_ n9_ n10_; clear hb hbox hg; have hnb11 := NB250_244.out; have hnc11 := NB244_250.out; have hnb12 := NB250_245.out; have hnc12 := NB245_250.out; have hcz13_0 : w10.cell? ⟨gb250, 0, none⟩ = some (.int .u64 0) := (zs BK250.out 0).trans rfl; have hcz13_1 : w10.cell? ⟨gb250, 1, none⟩ = some (.slice none 0 0) := (zs BK250.out 1).trans rfl; have hfz13_0 := zx BK250.out 0; have hfz13_1 := zx BK250.out 1; obtain ⟨Ao14, co14, eo14⟩ := Kd.R_slice HO249.out; subst eo14)); go_upto_region 2 with (first | ((with_reducible refine gate_dst (N := 2) rfl ?_); (try (refine gate_guard (by rfl) ?_; dsimp only)); refine box_event ?hg (N := 2) ?hd (cs := #[.int .u64 a0_0, .int .u32 a0_1, .slice A0_2 l0_2.length c0_2]) (t := 26) ?hr ?_; (case hd => rfl); (case hg => rfl); (case hr => first | (go_simp; done) | (go_simp; rfl)); intro gb244 hg w5 hbox hb; have n0_ := zm (zJ (by repeat (first | (with_reducible first | exact HB.out | apply ze | apply zd | apply zf) | exact HB.out)) hb); have n1_ := zm (hbox); have n2_ := zm ((by rw [hg]; exact (zE (by repeat (first | (with_reducible first | exact HB.out | apply ze | apply zd | apply zf) | exact HB.out))) : w.heap.size ≤ gb244)); have n3_ := zm ((by rw [hg]; exact (zE (by repeat (first | (with_reducible first | exact HB.out | apply ze | apply zd | apply zf) | exact HB.out))) : w.heap.size ≤ gb244)); clear HB; have HB := n0_; have BK244 := n1_; have GW244 := n2_; have GE244 := n3_; clear n0_ n1_ n2_ n3_; clear hb hbox hg) | ((with_reducible refine gate_dst (N := 3) rfl ?_); (try (refine gate_guard (by rfl) ?_; dsimp only)); refine box_event ?hg (N := 3) ?hd (cs := #[.int .u64 a1_0, .slice A1_1 l1_1.length c1_1]) (t := 33) ?hr ?_; (case hd => rfl); (case hg => rfl); (case hr => first | (go_simp; done) | (go_simp; rfl)); intro gb245 hg w6 hbox hb; have n0_ := zm (zF (g := gb244) (o := .cells #[.int .u64 a0_0, .int .u32 a0_1, .slice A0_2 l0_2.length c0_2] 26 (0, 0)) (by (with_reducible repeat (first | refine zh ?_ _ | refine zj ?_ | refine zi ?_ _)); exact BK244.out) hb); have n1_ := zm (zJ (by repeat (first | (with_reducible first | exact HB.out | apply ze | apply zd | apply zf | refine zk ?_ GE244.out) | exact HB.out)) hb); have n2_ := zm (hbox); have n3_ := zm ((by rw [hg]; exact (zE (by repeat (first | (with_reducible first | exact HB.out | apply ze | apply zd | apply zf | refine zk ?_ GE244.out) | exact HB.out))) : w.heap.size ≤ gb245)); have n4_ := zm ((by rw [hg]; exact (zE (by repeat (first | (with_reducible first | exact HB.out | apply ze | apply zd | apply zf | refine zk ?_ GE244.out) | exact HB.out))) : w.heap.size ≤ gb245)); have n5_ := zm ((by rw [hg]; exact zn (zD (g := gb244) (o := .cells #[.int .u64 a0_0, .int .u32 a0_1, .slice A0_2 l0_2.length c0_2] 26 (0, 0)) (by (with_reducible repeat (first | refine zh ?_ _ | refine zj ?_ | refine zi ?_ _)); exact BK244.out)) : gb244 ≠ gb245)); have n6_ := zm ((by rw [hg]; exact zg (zD (g := gb244) (o := .cells #[.int .u64 a0_0, .int .u32 a0_1, .slice A0_2 l0_2.length c0_2] 26 (0, 0)) (by (with_reducible repeat (first | refine zh ?_ _ | refine zj ?_ | refine zi ?_ _)); exact BK244.out)) : gb245 ≠ gb244)); clear BK244; clear HB; have BK244 := n0_; have HB := n1_; have BK245 := n2_; have GW245 := n3_; have GE245 := n4_; have NB244_245 := n5_; have NB245_244 := n6_; clear n0_ n1_ n2_ n3_ n4_ n5_ n6_; clear hb hbox hg; have hnb7 := NB244_245.out; have hnc7 := NB245_244.out; have hcz8_0 : w6.cell? ⟨gb244, 0, none⟩ = some (.int .u64 a0_0) := (zs BK244.out 0).trans rfl; have hcz8_1 : w6.cell? ⟨gb244, 1, none⟩ = some (.int .u32 a0_1) := (zs BK244.out 1).trans rfl; have hcz8_2 : w6.cell? ⟨gb244, 2, none⟩ = some (.slice A0_2 l0_2.length c0_2) := (zs BK244.out 2).trans rfl; have hfz8_0 := zx BK244.out 0; have hfz8_1 := zx BK244.out 1; have hfz8_2 := zx BK244.out 2) | (go_at_call 20; (with_reducible refine (psalterylaw05_AsEnc.calls k a0_0 a0_1 _ _ l0_2 t246 t247 _ ?side1 ?side2 A3.out).mono ?_); (case side1 => repeat (first | exact (Kd.C_below HR0_2.out HB.out) | (with_reducible refine Kd.C_alloc ?_ _) | (with_reducible refine Kd.C_drewN ?_ _) | (with_reducible refine Kd.C_drew ?_))); (case side2 => exact HC0_2.out); rintro e w9 ⟨v248, rfl, ho0, hb⟩; have n0_ := zm (Kd.R_lower ho0 (zE (by repeat (first | (with_reducible first | exact HB.out | apply ze | apply zd | apply zf | refine zk ?_ GE244.out | refine zk ?_ GE245.out) | exact HB.out)))); have n1_ := zm (zF (g := gb244) (o := .cells #[.int .u64 a0_0, .int .u32 a0_1, .slice A0_2 l0_2.length c0_2] 26 (0, 0)) (by (with_reducible repeat (first | refine zh ?_ _ | refine zj ?_ | refine zi ?_ _)); exact BK244.out) hb); have n2_ := zm (zF (g := gb245) (o := .cells #[.int .u64 a1_0, .slice A1_1 l1_1.length c1_1] 33 (0, 0)) (by (with_reducible repeat (first | refine zh ?_ _ | refine zj ?_ | refine zi ?_ _)); exact BK245.out) hb); have n3_ := zm (zJ (by repeat (first | (with_reducible first | exact HB.out | apply ze | apply zd | apply zf | refine zk ?_ GE244.out | refine zk ?_ GE245.out) | exact HB.out)) hb); clear BK244; clear BK245; clear HB; have HO249 := n0_; have BK244 := n1_; have BK245 := n2_; have HB := n3_; clear n0_ n1_ n2_ n3_; (try clear hb); (try clear hb2); (try clear hk); (try clear hi); (try clear ho0)) | ((with_reducible refine gate_dst (N := 5) rfl ?_); (try (refine gate_guard (by rfl) ?_; dsimp only)); refine box_event ?hg (N := 5) ?hd (cs := #[.int .u64 0, .slice none 0 0]) (t := 33) ?hr ?_; (case hd => rfl); (case hg => rfl); (case hr => first | (go_simp; done) | (go_simp; rfl)); intro gb250 hg w10 hbox hb; have n0_ := zm (Kd.R_below (by (with_reducible repeat (first | apply zo | apply zp | apply zq)); exact HO249.out) hb); have n1_ := zm (zF (g := gb244) (o := .cells #[.int .u64 a0_0, .int .u32 a0_1, .slice A0_2 l0_2.length c0_2] 26 (0, 0)) (by (with_reducible repeat (first | refine zh ?_ _ | refine zj ?_ | refine zi ?_ _)); exact BK244.out) hb); have n2_ := zm (zF (g := gb245) (o := .cells #[.int .u64 a1_0, .slice A1_1 l1_1.length c1_1] 33 (0, 0)) (by (with_reducible repeat (first | refine zh ?_ _ | refine zj ?_ | refine zi ?_ _)); exact BK245.out) hb); have n3_ := zm (zJ (by repeat (first | (with_reducible first | exact HB.out | apply ze | apply zd | apply zf | refine zk ?_ GE244.out | refine zk ?_ GE245.out) | exact HB.out)) hb); have n4_ := zm (hbox); have n5_ := zm ((by rw [hg]; exact (zE (by repeat (first | (with_reducible first | exact HB.out | apply ze | apply zd | apply zf | refine zk ?_ GE244.out | refine zk ?_ GE245.out) | exact HB.out))) : w.heap.size ≤ gb250)); have n6_ := zm ((by rw [hg]; exact (zE (by repeat (first | (with_reducible first | exact HB.out | apply ze | apply zd | apply zf | refine zk ?_ GE244.out | refine zk ?_ GE245.out) | exact HB.out))) : w.heap.size ≤ gb250)); have n7_ := zm ((by rw [hg]; exact zn (zD (g := gb244) (o := .cells #[.int .u64 a0_0, .int .u32 a0_1, .slice A0_2 l0_2.length c0_2] 26 (0, 0)) (by (with_reducible repeat (first | refine zh ?_ _ | refine zj ?_ | refine zi ?_ _)); exact BK244.out)) : gb244 ≠ gb250)); have n8_ := zm ((by rw [hg]; exact zg (zD (g := gb244) (o := .cells #[.int .u64 a0_0, .int .u32 a0_1, .slice A0_2 l0_2.length c0_2] 26 (0, 0)) (by (with_reducible repeat (first | refine zh ?_ _ | refine zj ?_ | refine zi ?_ _)); exact BK244.out)) : gb250 ≠ gb244)); have n9_ := zm ((by rw [hg]; exact zn (zD (g := gb245) (o := .cells #[.int .u64 a1_0, .slice A1_1 l1_1.length c1_1] 33 (0, 0)) (by (with_reducible repeat (first | refine zh ?_ _ | refine zj ?_ | refine zi ?_ _)); exact BK245.out)) : gb245 ≠ gb250)); have n10_ := zm ((by rw [hg]; exact zg (zD (g := gb245) (o := .cells #[.int .u64 a1_0, .slice A1_1 l1_1.length c1_1] 33 (0, 0)) (by (with_reducible repeat (first | refine zh ?_ _ | refine zj ?_ | refine zi ?_ _)); exact BK245.out)) : gb250 ≠ gb245)); clear HO249; clear BK244; clear BK245; clear HB; have HO249 := n0_; have BK244 := n1_; have BK245 := n2_; have HB := n3_; have BK250 := n4_; have GW250 := n5_; have GE250 := n6_; have NB244_250 := n7_; have NB250_244 := n8_; have NB245_250 := n9_; have NB250_245 := n10_; clear n0_ n1_ n2_ n3_ n4_ n5_ n6_ n7_ n8_ n9_ n10_; clear hb hbox hg; have hnb11 := NB250_244.out; have hnc11 := NB244_250.out; have hnb12 := NB250_245.out; have hnc12 := NB245_250.out; have hcz13_0 : w10.cell? ⟨gb250, 0, none⟩ = some (.int .u64 0) := (zs BK250.out 0).trans rfl; have hcz13_1 : w10.cell? ⟨gb250, 1, none⟩ = some (.slice none 0 0) := (zs BK250.out 1).trans rfl; have hfz13_0 := zx BK250.out 0; have hfz13_1 := zx BK250.out 1; obtain ⟨Ao14, co14, eo14⟩ := Kd.R_slice HO249.out; subst eo14)))
 (try simp only [Act.put, List.setIfInBounds_toArray, List.set_cons_zero, List.set_cons_succ])
 go_cut [27] (fun v27 wc => ∃ (kq : Nat) (x27_3 : Bool), v27 = .bool x27_3 ∧ Aside0 (psalterylaw05_SameEnc.j0 kq x27_3 a1_0 l1_1 t246 t247 = some r) ∧ Aside0 (kq ≤ k) ∧ Aside0 (Kd.R (Kd.int .i64) 3 wc w.heap.size (fun _ => True) (.slice Ao14 t247.length co14) t247) ∧ Aside0 (wc.heap[gb244]? = some (.cells #[.int .u64 a0_0, .int .u32 a0_1, (.slice A0_2 l0_2.length c0_2)] 26 (0, 0))) ∧ Aside0 (wc.heap[gb245]? = some (.cells #[.int .u64 a1_0, (.slice A1_1 l1_1.length c1_1)] 33 (0, 0))) ∧ Aside0 (wc.heap[gb250]? = some (.cells #[.int .u64 t246, (.slice Ao14 t247.length co14)] 33 (0, 0))) ∧ Aside0 (Below w.heap.size w wc))
 case first =>
  have H := HC4.out
  clear HC4
  replace H := Option.bind_eq_some_iff.mp H
  obtain ⟨t251, A150, H⟩ := H
  replace H : (if t251 = true then (if t246 = a1_0 then (psalterylaw05_SameEnc.j0 k ((t247.length : Int) != (l1_1.length : Int)) a1_0 l1_1 t246 t247) else (psalterylaw05_SameEnc.j0 k true a1_0 l1_1 t246 t247)) else (psalterylaw05_SameEnc.j0 k true a1_0 l1_1 t246 t247)) = some r := H
  have A15 := zm A150
  clear A150
  by_cases c16 : t251 = true
  ·
   subst c16
   have H1 : (if t246 = a1_0 then (psalterylaw05_SameEnc.j0 k ((t247.length : Int) != (l1_1.length : Int)) a1_0 l1_1 t246 t247) else (psalterylaw05_SameEnc.j0 k true a1_0 l1_1 t246 t247)) = some r := by rw [if_pos rfl] at H; exact H
   clear H
   have H := H1
   clear H1
   by_cases c17 : t246 = a1_0
   ·
    rw [if_pos c17] at H
    have c17b0 : (t246 == a1_0) = true := beq_iff_eq.mpr c17
    have c17b1 : (t246 != a1_0) = false := bne_eq_false_iff_eq.mpr c17
    clear c17
    (first | rw [c17b0] | (simp only [i64_w, i32_w]; rw [c17b0]) | skip)
    have H' := zm H
    clear H
    have hnb18 := NB244_245.out
    have hnc18 := NB245_244.out
    have hnb19 := NB244_250.out
    have hnc19 := NB250_244.out
    have hcz20_0 : w10.cell? ⟨gb244, 0, none⟩ = some (.int .u64 a0_0) := (zs BK244.out 0).trans rfl
    have hcz20_1 : w10.cell? ⟨gb244, 1, none⟩ = some (.int .u32 a0_1) := (zs BK244.out 1).trans rfl
    have hcz20_2 : w10.cell? ⟨gb244, 2, none⟩ = some (.slice A0_2 l0_2.length c0_2) := (zs BK244.out 2).trans rfl
    have hfz20_0 := zx BK244.out 0
    have hfz20_1 := zx BK244.out 1
    have hfz20_2 := zx BK244.out 2
    go_wp2_with (first | (go_at_call 22; (with_reducible refine (psalterylaw05_right.calls a0_0 a0_1 _ _ l0_2 true _ ?side1 ?side2 A15.out).mono ?_); (case side1 => exact Kd.C_below HR0_2.out (by repeat (first | (with_reducible first | exact HB.out | apply ze | apply zd | apply zf | refine zk ?_ GE244.out | refine zk ?_ GE245.out | refine zk ?_ GE250.out) | exact HB.out))); (case side2 => exact HC0_2.out); rintro e w21 ⟨rfl, hb⟩; have n0_ := zm (Kd.R_below (by (with_reducible repeat (first | apply zo | apply zp | apply zq)); exact (zG (zH (p := ⟨gb250, 1, none⟩) (zH (p := ⟨gb250, 0, none⟩) (Kd.R_types HO249.out BK250.out (by decide)) (fun _ hk => hk.2) (.int .u64 t246)) (fun _ hk => hk.2) (.slice Ao14 t247.length co14)) (fun _ h_ => h_.1))) hb); have n1_ := zm (zF (g := gb244) (o := .cells #[.int .u64 a0_0, .int .u32 a0_1, .slice A0_2 l0_2.length c0_2] 26 (0, 0)) (by (with_reducible repeat (first | refine zh ?_ _ | refine zj ?_ | refine zi ?_ _)); refine zv ?_ NB244_250.out _; (with_reducible repeat (first | refine zh ?_ _ | refine zj ?_ | refine zi ?_ _)); refine zv ?_ NB244_250.out _; (with_reducible repeat (first | refine zh ?_ _ | refine zj ?_ | refine zi ?_ _)); exact BK244.out) hb); have n2_ := zm (zF (g := gb245) (o := .cells #[.int .u64 a1_0, .slice A1_1 l1_1.length c1_1] 33 (0, 0)) (by (with_reducible repeat (first | refine zh ?_ _ | refine zj ?_ | refine zi ?_ _)); refine zv ?_ NB245_250.out _; (with_reducible repeat (first | refine zh ?_ _ | refine zj ?_ | refine zi ?_ _)); refine zv ?_ NB245_250.out _; (with_reducible repeat (first | refine zh ?_ _ | refine zj ?_ | refine zi ?_ _)); exact BK245.out) hb); have n3_ := zm (zF (g := gb250) (o := .cells #[.int .u64 t246, .slice Ao14 t247.length co14] 33 (0, 0)) (by (with_reducible repeat (first | refine zh ?_ _ | refine zj ?_ | refine zi ?_ _)); refine zw (cs := #[.int .u64 t246, .slice none 0 0]) ?_ 1 _ rfl; (with_reducible repeat (first | refine zh ?_ _ | refine zj ?_ | refine zi ?_ _)); refine zw (cs := #[.int .u64 0, .slice none 0 0]) ?_ 0 _ rfl; (with_reducible repeat (first | refine zh ?_ _ | refine zj ?_ | refine zi ?_ _)); exact BK250.out) hb); have n4_ := zm (zJ (by repeat (first | (with_reducible first | exact HB.out | apply ze | apply zd | apply zf | refine zk ?_ GE244.out | refine zk ?_ GE245.out | refine zk ?_ GE250.out) | exact HB.out)) hb); clear HO249; clear BK244; clear BK245; clear BK250; clear HB; have HO249 := n0_; have BK244 := n1_; have BK245 := n2_; have BK250 := n3_; have HB := n4_; clear n0_ n1_ n2_ n3_ n4_; (try clear hb); (try clear hb2); (try clear hk); (try clear hi); have hnb22 := NB250_245.out; have hnc22 := NB245_250.out; have hcz23_0 : w21.cell? ⟨gb250, 0, none⟩ = some (.int .u64 t246) := (zs BK250.out 0).trans rfl; have hcz23_1 : w21.cell? ⟨gb250, 1, none⟩ = some (.slice Ao14 t247.length co14) := (zs BK250.out 1).trans rfl; have hfz23_0 := zx BK250.out 0; have hfz23_1 := zx BK250.out 1; have hcz24_0 : w21.cell? ⟨gb245, 0, none⟩ = some (.int .u64 a1_0) := (zs BK245.out 0).trans rfl; have hcz24_1 : w21.cell? ⟨gb245, 1, none⟩ = some (.slice A1_1 l1_1.length c1_1) := (zs BK245.out 1).trans rfl; have hfz24_0 := zx BK245.out 0; have hfz24_1 := zx BK245.out 1))
    repeat (go_quiet (first | (go_at_call 22; (with_reducible refine (psalterylaw05_right.calls a0_0 a0_1 _ _ l0_2 true _ ?side1 ?side2 A15.out).mono ?_); (case side1 => exact Kd.C_below HR0_2.out (by repeat (first | (with_reducible first | exact HB.out | apply ze | apply zd | apply zf | refine zk ?_ GE244.out | refine zk ?_ GE245.out | refine zk ?_ GE250.out) | exact HB.out))); (case side2 => exact HC0_2.out); rintro e w21 ⟨rfl, hb⟩; have n0_ := zm (Kd.R_below (by (with_reducible repeat (first | apply zo | apply zp | apply zq)); exact (zG (zH (p := ⟨gb250, 1, none⟩) (zH (p := ⟨gb250, 0, none⟩) (Kd.R_types HO249.out BK250.out (by decide)) (fun _ hk => hk.2) (.int .u64 t246)) (fun _ hk => hk.2) (.slice Ao14 t247.length co14)) (fun _ h_ => h_.1))) hb); have n1_ := zm (zF (g := gb244) (o := .cells #[.int .u64 a0_0, .int .u32 a0_1, .slice A0_2 l0_2.length c0_2] 26 (0, 0)) (by (with_reducible repeat (first | refine zh ?_ _ | refine zj ?_ | refine zi ?_ _)); refine zv ?_ NB244_250.out _; (with_reducible repeat (first | refine zh ?_ _ | refine zj ?_ | refine zi ?_ _)); refine zv ?_ NB244_250.out _; (with_reducible repeat (first | refine zh ?_ _ | refine zj ?_ | refine zi ?_ _)); exact BK244.out) hb); have n2_ := zm (zF (g := gb245) (o := .cells #[.int .u64 a1_0, .slice A1_1 l1_1.length c1_1] 33 (0, 0)) (by (with_reducible repeat (first | refine zh ?_ _ | refine zj ?_ | refine zi ?_ _)); refine zv ?_ NB245_250.out _; (with_reducible repeat (first | refine zh ?_ _ | refine zj ?_ | refine zi ?_ _)); refine zv ?_ NB245_250.out _; (with_reducible repeat (first | refine zh ?_ _ | refine zj ?_ | refine zi ?_ _)); exact BK245.out) hb); have n3_ := zm (zF (g := gb250) (o := .cells #[.int .u64 t246, .slice Ao14 t247.length co14] 33 (0, 0)) (by (with_reducible repeat (first | refine zh ?_ _ | refine zj ?_ | refine zi ?_ _)); refine zw (cs := #[.int .u64 t246, .slice none 0 0]) ?_ 1 _ rfl; (with_reducible repeat (first | refine zh ?_ _ | refine zj ?_ | refine zi ?_ _)); refine zw (cs := #[.int .u64 0, .slice none 0 0]) ?_ 0 _ rfl; (with_reducible repeat (first | refine zh ?_ _ | refine zj ?_ | refine zi ?_ _)); exact BK250.out) hb); have n4_ := zm (zJ (by repeat (first | (with_reducible first | exact HB.out | apply ze | apply zd | apply zf | refine zk ?_ GE244.out | refine zk ?_ GE245.out | refine zk ?_ GE250.out) | exact HB.out)) hb); clear HO249; clear BK244; clear BK245; clear BK250; clear HB; have HO249 := n0_; have BK244 := n1_; have BK245 := n2_; have BK250 := n3_; have HB := n4_; clear n0_ n1_ n2_ n3_ n4_; (try clear hb); (try clear hb2); (try clear hk); (try clear hi); have hnb22 := NB250_245.out; have hnc22 := NB245_250.out; have hcz23_0 : w21.cell? ⟨gb250, 0, none⟩ = some (.int .u64 t246) := (zs BK250.out 0).trans rfl; have hcz23_1 : w21.cell? ⟨gb250, 1, none⟩ = some (.slice Ao14 t247.length co14) := (zs BK250.out 1).trans rfl; have hfz23_0 := zx BK250.out 0; have hfz23_1 := zx BK250.out 1; have hcz24_0 : w21.cell? ⟨gb245, 0, none⟩ = some (.int .u64 a1_0) := (zs BK245.out 0).trans rfl; have hcz24_1 : w21.cell? ⟨gb245, 1, none⟩ = some (.slice A1_1 l1_1.length c1_1) := (zs BK245.out 1).trans rfl; have hfz24_0 := zx BK245.out 0; have hfz24_1 := zx BK245.out 1)); try go_wp2_with (first | (go_at_call 22; (with_reducible refine (psalterylaw05_right.calls a0_0 a0_1 _ _ l0_2 true _ ?side1 ?side2 A15.out).mono ?_); (case side1 => exact Kd.C_below HR0_2.out (by repeat (first | (with_reducible first | exact HB.out | apply ze | apply zd | apply zf | refine zk ?_ GE244.out | refine zk ?_ GE245.out | refine zk ?_ GE250.out) | exact HB.out))); (case side2 => exact HC0_2.out); rintro e w21 ⟨rfl, hb⟩; have n0_ := zm (Kd.R_below (by (with_reducible repeat (first | apply zo | apply zp | apply zq)); exact (zG (zH (p := ⟨gb250, 1, none⟩) (zH (p := ⟨gb250, 0, none⟩) (Kd.R_types HO249.out BK250.out (by decide)) (fun _ hk => hk.2) (.int .u64 t246)) (fun _ hk => hk.2) (.slice Ao14 t247.length co14)) (fun _ h_ => h_.1))) hb); have n1_ := zm (zF (g := gb244) (o := .cells #[.int .u64 a0_0, .int .u32 a0_1, .slice A0_2 l0_2.length c0_2] 26 (0, 0)) (by (with_reducible repeat (first | refine zh ?_ _ | refine zj ?_ | refine zi ?_ _)); refine zv ?_ NB244_250.out _; (with_reducible repeat (first | refine zh ?_ _ | refine zj ?_ | refine zi ?_ _)); refine zv ?_ NB244_250.out _; (with_reducible repeat (first | refine zh ?_ _ | refine zj ?_ | refine zi ?_ _)); exact BK244.out) hb); have n2_ := zm (zF (g := gb245) (o := .cells #[.int .u64 a1_0, .slice A1_1 l1_1.length c1_1] 33 (0, 0)) (by (with_reducible repeat (first | refine zh ?_ _ | refine zj ?_ | refine zi ?_ _)); refine zv ?_ NB245_250.out _; (with_reducible repeat (first | refine zh ?_ _ | refine zj ?_ | refine zi ?_ _)); refine zv ?_ NB245_250.out _; (with_reducible repeat (first | refine zh ?_ _ | refine zj ?_ | refine zi ?_ _)); exact BK245.out) hb); have n3_ := zm (zF (g := gb250) (o := .cells #[.int .u64 t246, .slice Ao14 t247.length co14] 33 (0, 0)) (by (with_reducible repeat (first | refine zh ?_ _ | refine zj ?_ | refine zi ?_ _)); refine zw (cs := #[.int .u64 t246, .slice none 0 0]) ?_ 1 _ rfl; (with_reducible repeat (first | refine zh ?_ _ | refine zj ?_ | refine zi ?_ _)); refine zw (cs := #[.int .u64 0, .slice none 0 0]) ?_ 0 _ rfl; (with_reducible repeat (first | refine zh ?_ _ | refine zj ?_ | refine zi ?_ _)); exact BK250.out) hb); have n4_ := zm (zJ (by repeat (first | (with_reducible first | exact HB.out | apply ze | apply zd | apply zf | refine zk ?_ GE244.out | refine zk ?_ GE245.out | refine zk ?_ GE250.out) | exact HB.out)) hb); clear HO249; clear BK244; clear BK245; clear BK250; clear HB; have HO249 := n0_; have BK244 := n1_; have BK245 := n2_; have BK250 := n3_; have HB := n4_; clear n0_ n1_ n2_ n3_ n4_; (try clear hb); (try clear hb2); (try clear hk); (try clear hi); have hnb22 := NB250_245.out; have hnc22 := NB245_250.out; have hcz23_0 : w21.cell? ⟨gb250, 0, none⟩ = some (.int .u64 t246) := (zs BK250.out 0).trans rfl; have hcz23_1 : w21.cell? ⟨gb250, 1, none⟩ = some (.slice Ao14 t247.length co14) := (zs BK250.out 1).trans rfl; have hfz23_0 := zx BK250.out 0; have hfz23_1 := zx BK250.out 1; have hcz24_0 : w21.cell? ⟨gb245, 0, none⟩ = some (.int .u64 a1_0) := (zs BK245.out 0).trans rfl; have hcz24_1 : w21.cell? ⟨gb245, 1, none⟩ = some (.slice A1_1 l1_1.length c1_1) := (zs BK245.out 1).trans rfl; have hfz24_0 := zx BK245.out 0; have hfz24_1 := zx BK245.out 1)))
    go_meet
    case rel => exact ⟨_, (((t247.length : Int) != (l1_1.length : Int))), (by first | rfl | (simp; done) | (simp [*]; done)), H', ⟨by first | omega | exact Nat.le_refl _⟩, ⟨by (with_reducible repeat (first | apply zo | apply zp | apply zq)); exact HO249.out⟩, ⟨by (with_reducible repeat (first | refine zh ?_ _ | refine zj ?_ | refine zi ?_ _)); exact BK244.out⟩, ⟨by (with_reducible repeat (first | refine zh ?_ _ | refine zj ?_ | refine zi ?_ _)); exact BK245.out⟩, ⟨by (with_reducible repeat (first | refine zh ?_ _ | refine zj ?_ | refine zi ?_ _)); exact BK250.out⟩, ⟨by repeat (first | (with_reducible first | exact HB.out | apply ze | apply zd | apply zf | refine zk ?_ GE244.out | refine zk ?_ GE245.out | refine zk ?_ GE250.out) | exact HB.out)⟩⟩
   ·
    rw [if_neg c17] at H
    have c17b0 : (t246 == a1_0) = false := beq_eq_false_iff_ne.mpr c17
    have c17b1 : (t246 != a1_0) = true := bne_iff_ne.mpr c17
    (first | rw [c17b0] | (simp only [i64_w, i32_w]; rw [c17b0]) | skip)
    have H' := zm H
    clear H
    have hnb25 := NB244_245.out
    have hnc25 := NB245_244.out
    have hnb26 := NB244_250.out
    have hnc26 := NB250_244.out
    have hcz27_0 : w10.cell? ⟨gb244, 0, none⟩ = some (.int .u64 a0_0) := (zs BK244.out 0).trans rfl
    have hcz27_1 : w10.cell? ⟨gb244, 1, none⟩ = some (.int .u32 a0_1) := (zs BK244.out 1).trans rfl
    have hcz27_2 : w10.cell? ⟨gb244, 2, none⟩ = some (.slice A0_2 l0_2.length c0_2) := (zs BK244.out 2).trans rfl
    have hfz27_0 := zx BK244.out 0
    have hfz27_1 := zx BK244.out 1
    have hfz27_2 := zx BK244.out 2
    go_wp2_with (first | (go_at_call 22; (with_reducible refine (psalterylaw05_right.calls a0_0 a0_1 _ _ l0_2 true _ ?side1 ?side2 A15.out).mono ?_); (case side1 => exact Kd.C_below HR0_2.out (by repeat (first | (with_reducible first | exact HB.out | apply ze | apply zd | apply zf | refine zk ?_ GE244.out | refine zk ?_ GE245.out | refine zk ?_ GE250.out) | exact HB.out))); (case side2 => exact HC0_2.out); rintro e w28 ⟨rfl, hb⟩; have n0_ := zm (Kd.R_below (by (with_reducible repeat (first | apply zo | apply zp | apply zq)); exact (zG (zH (p := ⟨gb250, 1, none⟩) (zH (p := ⟨gb250, 0, none⟩) (Kd.R_types HO249.out BK250.out (by decide)) (fun _ hk => hk.2) (.int .u64 t246)) (fun _ hk => hk.2) (.slice Ao14 t247.length co14)) (fun _ h_ => h_.1))) hb); have n1_ := zm (zF (g := gb244) (o := .cells #[.int .u64 a0_0, .int .u32 a0_1, .slice A0_2 l0_2.length c0_2] 26 (0, 0)) (by (with_reducible repeat (first | refine zh ?_ _ | refine zj ?_ | refine zi ?_ _)); refine zv ?_ NB244_250.out _; (with_reducible repeat (first | refine zh ?_ _ | refine zj ?_ | refine zi ?_ _)); refine zv ?_ NB244_250.out _; (with_reducible repeat (first | refine zh ?_ _ | refine zj ?_ | refine zi ?_ _)); exact BK244.out) hb); have n2_ := zm (zF (g := gb245) (o := .cells #[.int .u64 a1_0, .slice A1_1 l1_1.length c1_1] 33 (0, 0)) (by (with_reducible repeat (first | refine zh ?_ _ | refine zj ?_ | refine zi ?_ _)); refine zv ?_ NB245_250.out _; (with_reducible repeat (first | refine zh ?_ _ | refine zj ?_ | refine zi ?_ _)); refine zv ?_ NB245_250.out _; (with_reducible repeat (first | refine zh ?_ _ | refine zj ?_ | refine zi ?_ _)); exact BK245.out) hb); have n3_ := zm (zF (g := gb250) (o := .cells #[.int .u64 t246, .slice Ao14 t247.length co14] 33 (0, 0)) (by (with_reducible repeat (first | refine zh ?_ _ | refine zj ?_ | refine zi ?_ _)); refine zw (cs := #[.int .u64 t246, .slice none 0 0]) ?_ 1 _ rfl; (with_reducible repeat (first | refine zh ?_ _ | refine zj ?_ | refine zi ?_ _)); refine zw (cs := #[.int .u64 0, .slice none 0 0]) ?_ 0 _ rfl; (with_reducible repeat (first | refine zh ?_ _ | refine zj ?_ | refine zi ?_ _)); exact BK250.out) hb); have n4_ := zm (zJ (by repeat (first | (with_reducible first | exact HB.out | apply ze | apply zd | apply zf | refine zk ?_ GE244.out | refine zk ?_ GE245.out | refine zk ?_ GE250.out) | exact HB.out)) hb); clear HO249; clear BK244; clear BK245; clear BK250; clear HB; have HO249 := n0_; have BK244 := n1_; have BK245 := n2_; have BK250 := n3_; have HB := n4_; clear n0_ n1_ n2_ n3_ n4_; (try clear hb); (try clear hb2); (try clear hk); (try clear hi); have hnb29 := NB250_245.out; have hnc29 := NB245_250.out; have hcz30_0 : w28.cell? ⟨gb250, 0, none⟩ = some (.int .u64 t246) := (zs BK250.out 0).trans rfl; have hcz30_1 : w28.cell? ⟨gb250, 1, none⟩ = some (.slice Ao14 t247.length co14) := (zs BK250.out 1).trans rfl; have hfz30_0 := zx BK250.out 0; have hfz30_1 := zx BK250.out 1; have hcz31_0 : w28.cell? ⟨gb245, 0, none⟩ = some (.int .u64 a1_0) := (zs BK245.out 0).trans rfl; have hcz31_1 : w28.cell? ⟨gb245, 1, none⟩ = some (.slice A1_1 l1_1.length c1_1) := (zs BK245.out 1).trans rfl; have hfz31_0 := zx BK245.out 0; have hfz31_1 := zx BK245.out 1))
    repeat (go_quiet (first | (go_at_call 22; (with_reducible refine (psalterylaw05_right.calls a0_0 a0_1 _ _ l0_2 true _ ?side1 ?side2 A15.out).mono ?_); (case side1 => exact Kd.C_below HR0_2.out (by repeat (first | (with_reducible first | exact HB.out | apply ze | apply zd | apply zf | refine zk ?_ GE244.out | refine zk ?_ GE245.out | refine zk ?_ GE250.out) | exact HB.out))); (case side2 => exact HC0_2.out); rintro e w28 ⟨rfl, hb⟩; have n0_ := zm (Kd.R_below (by (with_reducible repeat (first | apply zo | apply zp | apply zq)); exact (zG (zH (p := ⟨gb250, 1, none⟩) (zH (p := ⟨gb250, 0, none⟩) (Kd.R_types HO249.out BK250.out (by decide)) (fun _ hk => hk.2) (.int .u64 t246)) (fun _ hk => hk.2) (.slice Ao14 t247.length co14)) (fun _ h_ => h_.1))) hb); have n1_ := zm (zF (g := gb244) (o := .cells #[.int .u64 a0_0, .int .u32 a0_1, .slice A0_2 l0_2.length c0_2] 26 (0, 0)) (by (with_reducible repeat (first | refine zh ?_ _ | refine zj ?_ | refine zi ?_ _)); refine zv ?_ NB244_250.out _; (with_reducible repeat (first | refine zh ?_ _ | refine zj ?_ | refine zi ?_ _)); refine zv ?_ NB244_250.out _; (with_reducible repeat (first | refine zh ?_ _ | refine zj ?_ | refine zi ?_ _)); exact BK244.out) hb); have n2_ := zm (zF (g := gb245) (o := .cells #[.int .u64 a1_0, .slice A1_1 l1_1.length c1_1] 33 (0, 0)) (by (with_reducible repeat (first | refine zh ?_ _ | refine zj ?_ | refine zi ?_ _)); refine zv ?_ NB245_250.out _; (with_reducible repeat (first | refine zh ?_ _ | refine zj ?_ | refine zi ?_ _)); refine zv ?_ NB245_250.out _; (with_reducible repeat (first | refine zh ?_ _ | refine zj ?_ | refine zi ?_ _)); exact BK245.out) hb); have n3_ := zm (zF (g := gb250) (o := .cells #[.int .u64 t246, .slice Ao14 t247.length co14] 33 (0, 0)) (by (with_reducible repeat (first | refine zh ?_ _ | refine zj ?_ | refine zi ?_ _)); refine zw (cs := #[.int .u64 t246, .slice none 0 0]) ?_ 1 _ rfl; (with_reducible repeat (first | refine zh ?_ _ | refine zj ?_ | refine zi ?_ _)); refine zw (cs := #[.int .u64 0, .slice none 0 0]) ?_ 0 _ rfl; (with_reducible repeat (first | refine zh ?_ _ | refine zj ?_ | refine zi ?_ _)); exact BK250.out) hb); have n4_ := zm (zJ (by repeat (first | (with_reducible first | exact HB.out | apply ze | apply zd | apply zf | refine zk ?_ GE244.out | refine zk ?_ GE245.out | refine zk ?_ GE250.out) | exact HB.out)) hb); clear HO249; clear BK244; clear BK245; clear BK250; clear HB; have HO249 := n0_; have BK244 := n1_; have BK245 := n2_; have BK250 := n3_; have HB := n4_; clear n0_ n1_ n2_ n3_ n4_; (try clear hb); (try clear hb2); (try clear hk); (try clear hi); have hnb29 := NB250_245.out; have hnc29 := NB245_250.out; have hcz30_0 : w28.cell? ⟨gb250, 0, none⟩ = some (.int .u64 t246) := (zs BK250.out 0).trans rfl; have hcz30_1 : w28.cell? ⟨gb250, 1, none⟩ = some (.slice Ao14 t247.length co14) := (zs BK250.out 1).trans rfl; have hfz30_0 := zx BK250.out 0; have hfz30_1 := zx BK250.out 1; have hcz31_0 : w28.cell? ⟨gb245, 0, none⟩ = some (.int .u64 a1_0) := (zs BK245.out 0).trans rfl; have hcz31_1 : w28.cell? ⟨gb245, 1, none⟩ = some (.slice A1_1 l1_1.length c1_1) := (zs BK245.out 1).trans rfl; have hfz31_0 := zx BK245.out 0; have hfz31_1 := zx BK245.out 1)); try go_wp2_with (first | (go_at_call 22; (with_reducible refine (psalterylaw05_right.calls a0_0 a0_1 _ _ l0_2 true _ ?side1 ?side2 A15.out).mono ?_); (case side1 => exact Kd.C_below HR0_2.out (by repeat (first | (with_reducible first | exact HB.out | apply ze | apply zd | apply zf | refine zk ?_ GE244.out | refine zk ?_ GE245.out | refine zk ?_ GE250.out) | exact HB.out))); (case side2 => exact HC0_2.out); rintro e w28 ⟨rfl, hb⟩; have n0_ := zm (Kd.R_below (by (with_reducible repeat (first | apply zo | apply zp | apply zq)); exact (zG (zH (p := ⟨gb250, 1, none⟩) (zH (p := ⟨gb250, 0, none⟩) (Kd.R_types HO249.out BK250.out (by decide)) (fun _ hk => hk.2) (.int .u64 t246)) (fun _ hk => hk.2) (.slice Ao14 t247.length co14)) (fun _ h_ => h_.1))) hb); have n1_ := zm (zF (g := gb244) (o := .cells #[.int .u64 a0_0, .int .u32 a0_1, .slice A0_2 l0_2.length c0_2] 26 (0, 0)) (by (with_reducible repeat (first | refine zh ?_ _ | refine zj ?_ | refine zi ?_ _)); refine zv ?_ NB244_250.out _; (with_reducible repeat (first | refine zh ?_ _ | refine zj ?_ | refine zi ?_ _)); refine zv ?_ NB244_250.out _; (with_reducible repeat (first | refine zh ?_ _ | refine zj ?_ | refine zi ?_ _)); exact BK244.out) hb); have n2_ := zm (zF (g := gb245) (o := .cells #[.int .u64 a1_0, .slice A1_1 l1_1.length c1_1] 33 (0, 0)) (by (with_reducible repeat (first | refine zh ?_ _ | refine zj ?_ | refine zi ?_ _)); refine zv ?_ NB245_250.out _; (with_reducible repeat (first | refine zh ?_ _ | refine zj ?_ | refine zi ?_ _)); refine zv ?_ NB245_250.out _; (with_reducible repeat (first | refine zh ?_ _ | refine zj ?_ | refine zi ?_ _)); exact BK245.out) hb); have n3_ := zm (zF (g := gb250) (o := .cells #[.int .u64 t246, .slice Ao14 t247.length co14] 33 (0, 0)) (by (with_reducible repeat (first | refine zh ?_ _ | refine zj ?_ | refine zi ?_ _)); refine zw (cs := #[.int .u64 t246, .slice none 0 0]) ?_ 1 _ rfl; (with_reducible repeat (first | refine zh ?_ _ | refine zj ?_ | refine zi ?_ _)); refine zw (cs := #[.int .u64 0, .slice none 0 0]) ?_ 0 _ rfl; (with_reducible repeat (first | refine zh ?_ _ | refine zj ?_ | refine zi ?_ _)); exact BK250.out) hb); have n4_ := zm (zJ (by repeat (first | (with_reducible first | exact HB.out | apply ze | apply zd | apply zf | refine zk ?_ GE244.out | refine zk ?_ GE245.out | refine zk ?_ GE250.out) | exact HB.out)) hb); clear HO249; clear BK244; clear BK245; clear BK250; clear HB; have HO249 := n0_; have BK244 := n1_; have BK245 := n2_; have BK250 := n3_; have HB := n4_; clear n0_ n1_ n2_ n3_ n4_; (try clear hb); (try clear hb2); (try clear hk); (try clear hi); have hnb29 := NB250_245.out; have hnc29 := NB245_250.out; have hcz30_0 : w28.cell? ⟨gb250, 0, none⟩ = some (.int .u64 t246) := (zs BK250.out 0).trans rfl; have hcz30_1 : w28.cell? ⟨gb250, 1, none⟩ = some (.slice Ao14 t247.length co14) := (zs BK250.out 1).trans rfl; have hfz30_0 := zx BK250.out 0; have hfz30_1 := zx BK250.out 1; have hcz31_0 : w28.cell? ⟨gb245, 0, none⟩ = some (.int .u64 a1_0) := (zs BK245.out 0).trans rfl; have hcz31_1 : w28.cell? ⟨gb245, 1, none⟩ = some (.slice A1_1 l1_1.length c1_1) := (zs BK245.out 1).trans rfl; have hfz31_0 := zx BK245.out 0; have hfz31_1 := zx BK245.out 1)))
    go_meet
    case rel => exact ⟨_, (true), (by first | rfl | (simp; done) | (simp [*]; done)), H', ⟨by first | omega | exact Nat.le_refl _⟩, ⟨by (with_reducible repeat (first | apply zo | apply zp | apply zq)); exact HO249.out⟩, ⟨by (with_reducible repeat (first | refine zh ?_ _ | refine zj ?_ | refine zi ?_ _)); exact BK244.out⟩, ⟨by (with_reducible repeat (first | refine zh ?_ _ | refine zj ?_ | refine zi ?_ _)); exact BK245.out⟩, ⟨by (with_reducible repeat (first | refine zh ?_ _ | refine zj ?_ | refine zi ?_ _)); exact BK250.out⟩, ⟨by repeat (first | (with_reducible first | exact HB.out | apply ze | apply zd | apply zf | refine zk ?_ GE244.out | refine zk ?_ GE245.out | refine zk ?_ GE250.out) | exact HB.out)⟩⟩
  ·
   replace c16 := Bool.eq_false_iff.mpr c16
   subst c16
   have H1 : (psalterylaw05_SameEnc.j0 k true a1_0 l1_1 t246 t247) = some r := by rw [if_neg (show ¬ (false = true) by decide)] at H; exact H
   clear H
   have H := H1
   clear H1
   have H' := zm H
   clear H
   have hnb32 := NB244_245.out
   have hnc32 := NB245_244.out
   have hnb33 := NB244_250.out
   have hnc33 := NB250_244.out
   have hcz34_0 : w10.cell? ⟨gb244, 0, none⟩ = some (.int .u64 a0_0) := (zs BK244.out 0).trans rfl
   have hcz34_1 : w10.cell? ⟨gb244, 1, none⟩ = some (.int .u32 a0_1) := (zs BK244.out 1).trans rfl
   have hcz34_2 : w10.cell? ⟨gb244, 2, none⟩ = some (.slice A0_2 l0_2.length c0_2) := (zs BK244.out 2).trans rfl
   have hfz34_0 := zx BK244.out 0
   have hfz34_1 := zx BK244.out 1
   have hfz34_2 := zx BK244.out 2
   go_wp2_with (first | (go_at_call 22; (with_reducible refine (psalterylaw05_right.calls a0_0 a0_1 _ _ l0_2 false _ ?side1 ?side2 A15.out).mono ?_); (case side1 => exact Kd.C_below HR0_2.out (by repeat (first | (with_reducible first | exact HB.out | apply ze | apply zd | apply zf | refine zk ?_ GE244.out | refine zk ?_ GE245.out | refine zk ?_ GE250.out) | exact HB.out))); (case side2 => exact HC0_2.out); rintro e w35 ⟨rfl, hb⟩; have n0_ := zm (Kd.R_below (by (with_reducible repeat (first | apply zo | apply zp | apply zq)); exact (zG (zH (p := ⟨gb250, 1, none⟩) (zH (p := ⟨gb250, 0, none⟩) (Kd.R_types HO249.out BK250.out (by decide)) (fun _ hk => hk.2) (.int .u64 t246)) (fun _ hk => hk.2) (.slice Ao14 t247.length co14)) (fun _ h_ => h_.1))) hb); have n1_ := zm (zF (g := gb244) (o := .cells #[.int .u64 a0_0, .int .u32 a0_1, .slice A0_2 l0_2.length c0_2] 26 (0, 0)) (by (with_reducible repeat (first | refine zh ?_ _ | refine zj ?_ | refine zi ?_ _)); refine zv ?_ NB244_250.out _; (with_reducible repeat (first | refine zh ?_ _ | refine zj ?_ | refine zi ?_ _)); refine zv ?_ NB244_250.out _; (with_reducible repeat (first | refine zh ?_ _ | refine zj ?_ | refine zi ?_ _)); exact BK244.out) hb); have n2_ := zm (zF (g := gb245) (o := .cells #[.int .u64 a1_0, .slice A1_1 l1_1.length c1_1] 33 (0, 0)) (by (with_reducible repeat (first | refine zh ?_ _ | refine zj ?_ | refine zi ?_ _)); refine zv ?_ NB245_250.out _; (with_reducible repeat (first | refine zh ?_ _ | refine zj ?_ | refine zi ?_ _)); refine zv ?_ NB245_250.out _; (with_reducible repeat (first | refine zh ?_ _ | refine zj ?_ | refine zi ?_ _)); exact BK245.out) hb); have n3_ := zm (zF (g := gb250) (o := .cells #[.int .u64 t246, .slice Ao14 t247.length co14] 33 (0, 0)) (by (with_reducible repeat (first | refine zh ?_ _ | refine zj ?_ | refine zi ?_ _)); refine zw (cs := #[.int .u64 t246, .slice none 0 0]) ?_ 1 _ rfl; (with_reducible repeat (first | refine zh ?_ _ | refine zj ?_ | refine zi ?_ _)); refine zw (cs := #[.int .u64 0, .slice none 0 0]) ?_ 0 _ rfl; (with_reducible repeat (first | refine zh ?_ _ | refine zj ?_ | refine zi ?_ _)); exact BK250.out) hb); have n4_ := zm (zJ (by repeat (first | (with_reducible first | exact HB.out | apply ze | apply zd | apply zf | refine zk ?_ GE244.out | refine zk ?_ GE245.out | refine zk ?_ GE250.out) | exact HB.out)) hb); clear HO249; clear BK244; clear BK245; clear BK250; clear HB; have HO249 := n0_; have BK244 := n1_; have BK245 := n2_; have BK250 := n3_; have HB := n4_; clear n0_ n1_ n2_ n3_ n4_; (try clear hb); (try clear hb2); (try clear hk); (try clear hi)))
   repeat (go_quiet (first | (go_at_call 22; (with_reducible refine (psalterylaw05_right.calls a0_0 a0_1 _ _ l0_2 false _ ?side1 ?side2 A15.out).mono ?_); (case side1 => exact Kd.C_below HR0_2.out (by repeat (first | (with_reducible first | exact HB.out | apply ze | apply zd | apply zf | refine zk ?_ GE244.out | refine zk ?_ GE245.out | refine zk ?_ GE250.out) | exact HB.out))); (case side2 => exact HC0_2.out); rintro e w35 ⟨rfl, hb⟩; have n0_ := zm (Kd.R_below (by (with_reducible repeat (first | apply zo | apply zp | apply zq)); exact (zG (zH (p := ⟨gb250, 1, none⟩) (zH (p := ⟨gb250, 0, none⟩) (Kd.R_types HO249.out BK250.out (by decide)) (fun _ hk => hk.2) (.int .u64 t246)) (fun _ hk => hk.2) (.slice Ao14 t247.length co14)) (fun _ h_ => h_.1))) hb); have n1_ := zm (zF (g := gb244) (o := .cells #[.int .u64 a0_0, .int .u32 a0_1, .slice A0_2 l0_2.length c0_2] 26 (0, 0)) (by (with_reducible repeat (first | refine zh ?_ _ | refine zj ?_ | refine zi ?_ _)); refine zv ?_ NB244_250.out _; (with_reducible repeat (first | refine zh ?_ _ | refine zj ?_ | refine zi ?_ _)); refine zv ?_ NB244_250.out _; (with_reducible repeat (first | refine zh ?_ _ | refine zj ?_ | refine zi ?_ _)); exact BK244.out) hb); have n2_ := zm (zF (g := gb245) (o := .cells #[.int .u64 a1_0, .slice A1_1 l1_1.length c1_1] 33 (0, 0)) (by (with_reducible repeat (first | refine zh ?_ _ | refine zj ?_ | refine zi ?_ _)); refine zv ?_ NB245_250.out _; (with_reducible repeat (first | refine zh ?_ _ | refine zj ?_ | refine zi ?_ _)); refine zv ?_ NB245_250.out _; (with_reducible repeat (first | refine zh ?_ _ | refine zj ?_ | refine zi ?_ _)); exact BK245.out) hb); have n3_ := zm (zF (g := gb250) (o := .cells #[.int .u64 t246, .slice Ao14 t247.length co14] 33 (0, 0)) (by (with_reducible repeat (first | refine zh ?_ _ | refine zj ?_ | refine zi ?_ _)); refine zw (cs := #[.int .u64 t246, .slice none 0 0]) ?_ 1 _ rfl; (with_reducible repeat (first | refine zh ?_ _ | refine zj ?_ | refine zi ?_ _)); refine zw (cs := #[.int .u64 0, .slice none 0 0]) ?_ 0 _ rfl; (with_reducible repeat (first | refine zh ?_ _ | refine zj ?_ | refine zi ?_ _)); exact BK250.out) hb); have n4_ := zm (zJ (by repeat (first | (with_reducible first | exact HB.out | apply ze | apply zd | apply zf | refine zk ?_ GE244.out | refine zk ?_ GE245.out | refine zk ?_ GE250.out) | exact HB.out)) hb); clear HO249; clear BK244; clear BK245; clear BK250; clear HB; have HO249 := n0_; have BK244 := n1_; have BK245 := n2_; have BK250 := n3_; have HB := n4_; clear n0_ n1_ n2_ n3_ n4_; (try clear hb); (try clear hb2); (try clear hk); (try clear hi))); try go_wp2_with (first | (go_at_call 22; (with_reducible refine (psalterylaw05_right.calls a0_0 a0_1 _ _ l0_2 false _ ?side1 ?side2 A15.out).mono ?_); (case side1 => exact Kd.C_below HR0_2.out (by repeat (first | (with_reducible first | exact HB.out | apply ze | apply zd | apply zf | refine zk ?_ GE244.out | refine zk ?_ GE245.out | refine zk ?_ GE250.out) | exact HB.out))); (case side2 => exact HC0_2.out); rintro e w35 ⟨rfl, hb⟩; have n0_ := zm (Kd.R_below (by (with_reducible repeat (first | apply zo | apply zp | apply zq)); exact (zG (zH (p := ⟨gb250, 1, none⟩) (zH (p := ⟨gb250, 0, none⟩) (Kd.R_types HO249.out BK250.out (by decide)) (fun _ hk => hk.2) (.int .u64 t246)) (fun _ hk => hk.2) (.slice Ao14 t247.length co14)) (fun _ h_ => h_.1))) hb); have n1_ := zm (zF (g := gb244) (o := .cells #[.int .u64 a0_0, .int .u32 a0_1, .slice A0_2 l0_2.length c0_2] 26 (0, 0)) (by (with_reducible repeat (first | refine zh ?_ _ | refine zj ?_ | refine zi ?_ _)); refine zv ?_ NB244_250.out _; (with_reducible repeat (first | refine zh ?_ _ | refine zj ?_ | refine zi ?_ _)); refine zv ?_ NB244_250.out _; (with_reducible repeat (first | refine zh ?_ _ | refine zj ?_ | refine zi ?_ _)); exact BK244.out) hb); have n2_ := zm (zF (g := gb245) (o := .cells #[.int .u64 a1_0, .slice A1_1 l1_1.length c1_1] 33 (0, 0)) (by (with_reducible repeat (first | refine zh ?_ _ | refine zj ?_ | refine zi ?_ _)); refine zv ?_ NB245_250.out _; (with_reducible repeat (first | refine zh ?_ _ | refine zj ?_ | refine zi ?_ _)); refine zv ?_ NB245_250.out _; (with_reducible repeat (first | refine zh ?_ _ | refine zj ?_ | refine zi ?_ _)); exact BK245.out) hb); have n3_ := zm (zF (g := gb250) (o := .cells #[.int .u64 t246, .slice Ao14 t247.length co14] 33 (0, 0)) (by (with_reducible repeat (first | refine zh ?_ _ | refine zj ?_ | refine zi ?_ _)); refine zw (cs := #[.int .u64 t246, .slice none 0 0]) ?_ 1 _ rfl; (with_reducible repeat (first | refine zh ?_ _ | refine zj ?_ | refine zi ?_ _)); refine zw (cs := #[.int .u64 0, .slice none 0 0]) ?_ 0 _ rfl; (with_reducible repeat (first | refine zh ?_ _ | refine zj ?_ | refine zi ?_ _)); exact BK250.out) hb); have n4_ := zm (zJ (by repeat (first | (with_reducible first | exact HB.out | apply ze | apply zd | apply zf | refine zk ?_ GE244.out | refine zk ?_ GE245.out | refine zk ?_ GE250.out) | exact HB.out)) hb); clear HO249; clear BK244; clear BK245; clear BK250; clear HB; have HO249 := n0_; have BK244 := n1_; have BK245 := n2_; have BK250 := n3_; have HB := n4_; clear n0_ n1_ n2_ n3_ n4_; (try clear hb); (try clear hb2); (try clear hk); (try clear hi))))
   go_meet
   case rel => exact ⟨_, (true), (by first | rfl | (simp; done) | (simp [*]; done)), H', ⟨by first | omega | exact Nat.le_refl _⟩, ⟨by (with_reducible repeat (first | apply zo | apply zp | apply zq)); exact HO249.out⟩, ⟨by (with_reducible repeat (first | refine zh ?_ _ | refine zj ?_ | refine zi ?_ _)); exact BK244.out⟩, ⟨by (with_reducible repeat (first | refine zh ?_ _ | refine zj ?_ | refine zi ?_ _)); exact BK245.out⟩, ⟨by (with_reducible repeat (first | refine zh ?_ _ | refine zj ?_ | refine zi ?_ _)); exact BK250.out⟩, ⟨by repeat (first | (with_reducible first | exact HB.out | apply ze | apply zd | apply zf | refine zk ?_ GE244.out | refine zk ?_ GE245.out | refine zk ?_ GE250.out) | exact HB.out)⟩⟩
 case rest =>
  clear HC4
  try clear c1
  try clear c2
  try clear p2
  try clear c3
  try clear c7
  try clear c11
  try clear c12
  try clear c16
  try clear c17
  try clear c17b0
  try clear c17b1
  try clear c18
  try clear c19
  try clear c22
  try clear c23
  try clear c25
  try clear c26
  try clear c29
  try clear c32
  try clear c33
  try clear hcz13_0
  try clear hcz13_1
  try clear hcz20_0
  try clear hcz20_1
  try clear hcz20_2
  try clear hcz23_0
  try clear hcz23_1
  try clear hcz24_0
  try clear hcz24_1
  try clear hcz27_0
  try clear hcz27_1
  try clear hcz27_2
  try clear hcz30_0
  try clear hcz30_1
  try clear hcz31_0
  try clear hcz31_1
  try clear hcz34_0
  try clear hcz34_1
  try clear hcz34_2
  try clear hcz8_0
  try clear hcz8_1
  try clear hcz8_2
  try clear hfz13_0
  try clear hfz13_1
  try clear hfz20_0
  try clear hfz20_1
  try clear hfz20_2
  try clear hfz23_0
  try clear hfz23_1
  try clear hfz24_0
  try clear hfz24_1
  try clear hfz27_0
  try clear hfz27_1
  try clear hfz27_2
  try clear hfz30_0
  try clear hfz30_1
  try clear hfz31_0
  try clear hfz31_1
  try clear hfz34_0
  try clear hfz34_1
  try clear hfz34_2
  try clear hfz8_0
  try clear hfz8_1
  try clear hfz8_2
  obtain ⟨kq, x27_3, rfl, HA, HJ3, HO_251001, BK244, BK245, BK250, HB⟩ := hcut
  cases kq with
  | zero => exact absurd HA.out (by simp [psalterylaw05_SameEnc.j0])
  | succ kj3 =>
   have H := HA.out
   clear HA
   simp only [psalterylaw05_SameEnc.j0] at H
   by_cases c36 : x27_3 = true
   ·
    subst c36
    have H1 : (some false) = some r := by rw [if_pos rfl] at H; exact H
    clear H
    have H := H1
    clear H1
    obtain rfl := Option.some.inj H
    go_wp2
    repeat (go_quiet (fail); try go_wp2)
    go_ret
    exact ⟨by first | rfl | (simp [errW_none, errW_some] <;> rfl) | (simp [*, errW_none, errW_some] <;> rfl), by repeat (first | (with_reducible first | exact HB.out | apply ze | apply zd | apply zf | refine zk ?_ GE244.out | refine zk ?_ GE245.out | refine zk ?_ GE250.out) | exact HB.out)⟩
   ·
    replace c36 := Bool.eq_false_iff.mpr c36
    subst c36
    have H1 : (psalterylaw05_SameEnc.l0 kj3 0 a1_0 l1_1 t246 t247) = some r := by rw [if_neg (show ¬ (false = true) by decide)] at H; exact H
    clear H
    have H := H1
    clear H1
    have H' := zm H
    clear H
    go_wp2
    repeat (go_quiet (fail); try go_wp2)
    go_loopg [6] kj3 (fun kq v6 w' => ∃ (x6_2 : Int), v6 = .int .i64 x6_2 ∧ Aside0 (psalterylaw05_SameEnc.l0 kq x6_2 a1_0 l1_1 t246 t247 = some r) ∧ Aside0 (kq ≤ kj3) ∧ Aside0 (Kd.R (Kd.int .i64) 3 w' w.heap.size (fun _ => True) (.slice Ao14 t247.length co14) t247) ∧ Aside0 (w'.heap[gb244]? = some (.cells #[.int .u64 a0_0, .int .u32 a0_1, (.slice A0_2 l0_2.length c0_2)] 26 (0, 0))) ∧ Aside0 (w'.heap[gb245]? = some (.cells #[.int .u64 a1_0, (.slice A1_1 l1_1.length c1_1)] 33 (0, 0))) ∧ Aside0 (w'.heap[gb250]? = some (.cells #[.int .u64 t246, (.slice Ao14 t247.length co14)] 33 (0, 0))) ∧ Aside0 (Below w.heap.size w w'))
    case atStart => exact ⟨(0), (by first | rfl | (simp; done) | (simp [*]; done)), H', ⟨Nat.le_refl _⟩, ⟨by (with_reducible repeat (first | apply zo | apply zp | apply zq)); exact HO_251001.out⟩, ⟨by (with_reducible repeat (first | refine zh ?_ _ | refine zj ?_ | refine zi ?_ _)); exact BK244.out⟩, ⟨by (with_reducible repeat (first | refine zh ?_ _ | refine zj ?_ | refine zi ?_ _)); exact BK245.out⟩, ⟨by (with_reducible repeat (first | refine zh ?_ _ | refine zj ?_ | refine zi ?_ _)); exact BK250.out⟩, ⟨by repeat (first | (with_reducible first | exact HB.out | apply ze | apply zd | apply zf | refine zk ?_ GE244.out | refine zk ?_ GE245.out | refine zk ?_ GE250.out) | exact HB.out)⟩⟩
    case round =>
     clear H'
     try clear c1
     try clear c2
     try clear p2
     try clear c3
     try clear c7
     try clear c11
     try clear c12
     try clear c16
     try clear c17
     try clear c17b0
     try clear c17b1
     try clear c18
     try clear c19
     try clear c22
     try clear c23
     try clear c25
     try clear c26
     try clear c29
     try clear c32
     try clear c33
     try clear c36
     try clear hcz13_0
     try clear hcz13_1
     try clear hcz20_0
     try clear hcz20_1
     try clear hcz20_2
     try clear hcz23_0
     try clear hcz23_1
     try clear hcz24_0
     try clear hcz24_1
     try clear hcz27_0
     try clear hcz27_1
     try clear hcz27_2
     try clear hcz30_0
     try clear hcz30_1
     try clear hcz31_0
     try clear hcz31_1
     try clear hcz34_0
     try clear hcz34_1
     try clear hcz34_2
     try clear hcz8_0
     try clear hcz8_1
     try clear hcz8_2
     try clear hfz13_0
     try clear hfz13_1
     try clear hfz20_0
     try clear hfz20_1
     try clear hfz20_2
     try clear hfz23_0
     try clear hfz23_1
     try clear hfz24_0
     try clear hfz24_1
     try clear hfz27_0
     try clear hfz27_1
     try clear hfz27_2
     try clear hfz30_0
     try clear hfz30_1
     try clear hfz31_0
     try clear hfz31_1
     try clear hfz34_0
     try clear hfz34_1
     try clear hfz34_2
     try clear hfz8_0
     try clear hfz8_1
     try clear hfz8_2
     try clear p2
     obtain ⟨x6_2, rfl, HA, HK2, HO_251001, BK244, BK245, BK250, HB⟩ := hrel
     cases gk with
     | zero => exact absurd HA.out (by simp [psalterylaw05_SameEnc.l0])
     | succ k2 =>
      have H := HA.out
      clear HA
      simp only [psalterylaw05_SameEnc.l0] at H
      by_cases c37 : x6_2 < (t247.length : Int)
      ·
       rw [if_pos c37] at H
       have c37b0 : decide (x6_2 < (t247.length : Int)) = true := decide_eq_true c37
       clear c37
       by_cases c38 : 0 ≤ x6_2
       ·
        rw [if_pos c38] at H
        have c38b0 : decide (0 ≤ x6_2) = true := decide_eq_true c38
        clear c38
        by_cases c39 : x6_2 < (l1_1.length : Int)
        ·
         rw [if_pos c39] at H
         have c39b0 : decide (x6_2 < (l1_1.length : Int)) = true := decide_eq_true c39
         clear c39
         by_cases c40 : (rd t247 x6_2) = (rd l1_1 x6_2)
         ·
          rw [if_pos c40] at H
          have c40b0 : ((rd t247 x6_2) == (rd l1_1 x6_2)) = true := beq_iff_eq.mpr c40
          have c40b1 : ((rd t247 x6_2) != (rd l1_1 x6_2)) = false := bne_eq_false_iff_eq.mpr c40
          clear c40
          have H' := zm H
          clear H
          have hnb41 := NB250_244.out
          have hnc41 := NB244_250.out
          have hnb42 := NB250_245.out
          have hnc42 := NB245_250.out
          have hcz43_0 : wr.cell? ⟨gb250, 0, none⟩ = some (.int .u64 t246) := (zs BK250.out 0).trans rfl
          have hcz43_1 : wr.cell? ⟨gb250, 1, none⟩ = some (.slice Ao14 t247.length co14) := (zs BK250.out 1).trans rfl
          have hfz43_0 := zx BK250.out 0
          have hfz43_1 := zx BK250.out 1
          have p252 : 0 ≤ (x6_2 : Int) := of_decide_eq_true (by first | (with_reducible assumption) | assumption)
          have q252 : x6_2 < (t247.length : Int) := of_decide_eq_true (by first | (with_reducible assumption) | assumption)
          obtain ⟨ad252, e252, hx252_0⟩ := Kd.at_int (Kd.R_reads' HO_251001.out).2.2 x6_2 p252 q252
          cases e252
          replace p252 := eq_true p252
          replace q252 := eq_true q252
          have hnb44 := NB245_244.out
          have hnc44 := NB244_245.out
          have hcz45_0 : wr.cell? ⟨gb245, 0, none⟩ = some (.int .u64 a1_0) := (zs BK245.out 0).trans rfl
          have hcz45_1 : wr.cell? ⟨gb245, 1, none⟩ = some (.slice A1_1 l1_1.length c1_1) := (zs BK245.out 1).trans rfl
          have hfz45_0 := zx BK245.out 0
          have hfz45_1 := zx BK245.out 1
          have p253 : 0 ≤ (x6_2 : Int) := of_decide_eq_true (by first | (with_reducible assumption) | assumption)
          have q253 : x6_2 < (l1_1.length : Int) := of_decide_eq_true (by first | (with_reducible assumption) | assumption)
          obtain ⟨ad253, e253, hx253_0⟩ := Kd.at_int HR1_1.out x6_2 p253 q253
          cases e253
          replace hx253_0 := (HB.out.cell (zb w _ hx253_0)).trans hx253_0
          replace p253 := eq_true p253
          replace q253 := eq_true q253
          go_wp2
          repeat (go_quiet (fail); try go_wp2)
          go_roundg k2
          case measure => have := HJ3.out; have := HK2.out; omega
          case rel => exact ⟨(wrap64 (x6_2 + 1)), (by first | rfl | (simp; done) | (simp [*]; done)), H', ⟨by have := HJ3.out; have := HK2.out; omega⟩, ⟨by (with_reducible repeat (first | apply zo | apply zp | apply zq)); exact HO_251001.out⟩, ⟨by (with_reducible repeat (first | refine zh ?_ _ | refine zj ?_ | refine zi ?_ _)); exact BK244.out⟩, ⟨by (with_reducible repeat (first | refine zh ?_ _ | refine zj ?_ | refine zi ?_ _)); exact BK245.out⟩, ⟨by (with_reducible repeat (first | refine zh ?_ _ | refine zj ?_ | refine zi ?_ _)); exact BK250.out⟩, ⟨by repeat (first | (with_reducible first | exact HB.out | apply ze | apply zd | apply zf | refine zk ?_ GE244.out | refine zk ?_ GE245.out | refine zk ?_ GE250.out) | exact HB.out)⟩⟩
         ·
          rw [if_neg c40] at H
          have c40b0 : ((rd t247 x6_2) == (rd l1_1 x6_2)) = false := beq_eq_false_iff_ne.mpr c40
          have c40b1 : ((rd t247 x6_2) != (rd l1_1 x6_2)) = true := bne_iff_ne.mpr c40
          obtain rfl := Option.some.inj H
          have hnb46 := NB250_244.out
          have hnc46 := NB244_250.out
          have hnb47 := NB250_245.out
          have hnc47 := NB245_250.out
          have hcz48_0 : wr.cell? ⟨gb250, 0, none⟩ = some (.int .u64 t246) := (zs BK250.out 0).trans rfl
          have hcz48_1 : wr.cell? ⟨gb250, 1, none⟩ = some (.slice Ao14 t247.length co14) := (zs BK250.out 1).trans rfl
          have hfz48_0 := zx BK250.out 0
          have hfz48_1 := zx BK250.out 1
          have p252 : 0 ≤ (x6_2 : Int) := of_decide_eq_true (by first | (with_reducible assumption) | assumption)
          have q252 : x6_2 < (t247.length : Int) := of_decide_eq_true (by first | (with_reducible assumption) | assumption)
          obtain ⟨ad252, e252, hx252_0⟩ := Kd.at_int (Kd.R_reads' HO_251001.out).2.2 x6_2 p252 q252
          cases e252
          replace p252 := eq_true p252
          replace q252 := eq_true q252
          have hnb49 := NB245_244.out
          have hnc49 := NB244_245.out
          have hcz50_0 : wr.cell? ⟨gb245, 0, none⟩ = some (.int .u64 a1_0) := (zs BK245.out 0).trans rfl
          have hcz50_1 : wr.cell? ⟨gb245, 1, none⟩ = some (.slice A1_1 l1_1.length c1_1) := (zs BK245.out 1).trans rfl
          have hfz50_0 := zx BK245.out 0
          have hfz50_1 := zx BK245.out 1
          have p253 : 0 ≤ (x6_2 : Int) := of_decide_eq_true (by first | (with_reducible assumption) | assumption)
          have q253 : x6_2 < (l1_1.length : Int) := of_decide_eq_true (by first | (with_reducible assumption) | assumption)
          obtain ⟨ad253, e253, hx253_0⟩ := Kd.at_int HR1_1.out x6_2 p253 q253
          cases e253
          replace hx253_0 := (HB.out.cell (zb w _ hx253_0)).trans hx253_0
          replace p253 := eq_true p253
          replace q253 := eq_true q253
          go_wp2
          repeat (go_quiet (fail); try go_wp2)
          go_ret
          exact ⟨by first | rfl | (simp [errW_none, errW_some] <;> rfl) | (simp [*, errW_none, errW_some] <;> rfl), by repeat (first | (with_reducible first | exact HB.out | apply ze | apply zd | apply zf | refine zk ?_ GE244.out | refine zk ?_ GE245.out | refine zk ?_ GE250.out) | exact HB.out)⟩
        ·
         rw [if_neg c39] at H
         exact absurd H (by simp)
       ·
        rw [if_neg c38] at H
        exact absurd H (by simp)
      ·
       rw [if_neg c37] at H
       have c37b0 : decide (x6_2 < (t247.length : Int)) = false := decide_eq_false c37
       clear c37
       obtain rfl := Option.some.inj H
       have hnb51 := NB250_244.out
       have hnc51 := NB244_250.out
       have hnb52 := NB250_245.out
       have hnc52 := NB245_250.out
       have hcz53_0 : wr.cell? ⟨gb250, 0, none⟩ = some (.int .u64 t246) := (zs BK250.out 0).trans rfl
       have hcz53_1 : wr.cell? ⟨gb250, 1, none⟩ = some (.slice Ao14 t247.length co14) := (zs BK250.out 1).trans rfl
       have hfz53_0 := zx BK250.out 0
       have hfz53_1 := zx BK250.out 1
       go_wp2
       repeat (go_quiet (fail); try go_wp2)
       go_ret
       exact ⟨by first | rfl | (simp [errW_none, errW_some] <;> rfl) | (simp [*, errW_none, errW_some] <;> rfl), by repeat (first | (with_reducible first | exact HB.out | apply ze | apply zd | apply zf | refine zk ?_ GE244.out | refine zk ?_ GE245.out | refine zk ?_ GE250.out) | exact HB.out)⟩

end Go.Proofs.Ytkaoiblgfpphoaa.Prt

namespace Go.Proofs.Ytkaoiblgfpphoaa.Prt
open Go.RowKit Go.Proofs.YtkaoiblgfpphoaaW.PrintWords Go.Proofs.YtkaoiblgfpphoaaW.PrintLast Go.Proofs.YtkaoiblgfpphoaaW.PrintMore
attribute [local go_sem] max2_int min2_int max_two min_two max_three min_three max_four min_four   -- for this text's walks alone
set_option linter.unusedVariables false
set_option linter.unusedSimpArgs false

/-! ### coder_Finish: function 24 -/
def coder_Finish.f (a0_0 : Int) (a0_1 : Int) (l0_2 : List Int) : Option (List Int) := (coder_own.f a0_0 a0_1 l0_2).bind fun bt135 => ((some (([(bt135.1 / 16777216) % 256, (bt135.1 / 65536) % 256, (bt135.1 / 256) % 256, (bt135.1) % 256] : List Int) : List Int)).bind fun y140 => (if bt135.2.2.length + y140.length < 140737488355328 then (some (bt135.2.2 ++ y140)) else (none)))
set_option maxHeartbeats 8000000 in
set_option maxRecDepth 100000 in
theorem coder_Finish.calls (a0_0 : Int) (a0_1 : Int) (A0_2 : Option Addr) (c0_2 : Nat) (l0_2 : List Int) (r : List Int) (w : World) (hr0_2 : Kd.C (Kd.int .u8) w A0_2 l0_2.length l0_2) (hc0_2 : l0_2.length ≤ c0_2) (h : coder_Finish.f a0_0 a0_1 l0_2 = some r) :
  Calls Try.prog 24 #[.agg #[.int .u64 a0_0, .int .u32 a0_1, .slice A0_2 l0_2.length c0_2]] w fun e w' => ∃ v0_ : Value, e = .returned (v0_) ∧ Kd.R (Kd.int .u8) 5 w' w.heap.size (fun _ => True) v0_ r ∧ Below w.heap.size w w' := by
 have hu26 := Try.underlying26
 have HR0_2 := zm hr0_2
 have HC0_2 := zm hc0_2
 clear hr0_2 hc0_2
 have HB := zm (Below.refl w.heap.size w)
 have H : ((coder_own.f a0_0 a0_1 l0_2).bind fun bt135 => ((some (([(bt135.1 / 16777216) % 256, (bt135.1 / 65536) % 256, (bt135.1 / 256) % 256, (bt135.1) % 256] : List Int) : List Int)).bind fun y140 => (if bt135.2.2.length + y140.length < 140737488355328 then (some (bt135.2.2 ++ y140)) else (none)))) = some r := h
 clear h
 replace H := Option.bind_eq_some_iff.mp H
 obtain ⟨⟨t135, t136, t137⟩, A20, H⟩ := H
 replace H : ((some (([(t135 / 16777216) % 256, (t135 / 65536) % 256, (t135 / 256) % 256, (t135) % 256] : List Int) : List Int)).bind fun y140 => (if t137.length + y140.length < 140737488355328 then (some (t137 ++ y140)) else (none))) = some r := H
 have A2 := zm A20
 clear A20
 obtain ⟨y140, hy140⟩ : ∃ y_ : List Int, y_ = (([(t135 / 16777216) % 256, (t135 / 65536) % 256, (t135 / 256) % 256, (t135) % 256] : List Int)) := ⟨_, rfl⟩
 replace H : (if t137.length + y140.length < 140737488355328 then (some (t137 ++ y140)) else (none)) = some r := by first | (rw [hy140]; with_reducible exact H) | (have H2_ := (Option.bind_some _ _).symm.trans H; rw [hy140]; with_reducible exact H2_) | (have H2_ := (Option.bind_some _ _).symm.trans H; with_reducible exact H2_) | with_reducible exact H | (rw [hy140]; exact H) | exact H
 have Ny140 := zm hy140
 clear hy140
 by_cases c3 : t137.length + y140.length < 140737488355328
 ·
  rw [if_pos c3] at H
  have LMc3 := zm c3
  clear c3
  obtain ⟨y143, hy143⟩ : ∃ y_ : List Int, y_ = (t137 ++ y140) := ⟨_, rfl⟩
  replace H : (some y143) = some r := by first | (rw [hy143]; with_reducible exact H) | (have H2_ := (Option.bind_some _ _).symm.trans H; rw [hy143]; with_reducible exact H2_) | (have H2_ := (Option.bind_some _ _).symm.trans H; with_reducible exact H2_) | with_reducible exact H | (rw [hy143]; exact H) | exact H
  have Ny143 := zm hy143
  clear hy143
  obtain rfl := Option.some.inj H
  go_enter Try.func24, Try.ntmps24
  go_wp2_with (first | ((with_reducible refine gate_dst (N := 1) rfl ?_); refine box_event ?hg (N := 1) ?hd (cs := #[.int .u64 a0_0, .int .u32 a0_1, .slice A0_2 l0_2.length c0_2]) (t := 26) ?hr ?_; (case hd => rfl); (case hg => rfl); (case hr => first | (go_simp; done) | (go_simp; rfl)); intro gb134 hg w4 hbox hb; have n0_ := zm (zJ (by repeat (first | (with_reducible first | exact HB.out | apply ze | apply zd | apply zf) | exact HB.out)) hb); have n1_ := zm (hbox); have n2_ := zm ((by rw [hg]; exact (zE (by repeat (first | (with_reducible first | exact HB.out | apply ze | apply zd | apply zf) | exact HB.out))) : w.heap.size ≤ gb134)); have n3_ := zm ((by rw [hg]; exact (zE (by repeat (first | (with_reducible first | exact HB.out | apply ze | apply zd | apply zf) | exact HB.out))) : w.heap.size ≤ gb134)); clear HB; have HB := n0_; have BK134 := n1_; have GW134 := n2_; have GE134 := n3_; clear n0_ n1_ n2_ n3_; clear hb hbox hg; have hcz5_0 : w4.cell? ⟨gb134, 0, none⟩ = some (.int .u64 a0_0) := (zs BK134.out 0).trans rfl; have hcz5_1 : w4.cell? ⟨gb134, 1, none⟩ = some (.int .u32 a0_1) := (zs BK134.out 1).trans rfl; have hcz5_2 : w4.cell? ⟨gb134, 2, none⟩ = some (.slice A0_2 l0_2.length c0_2) := (zs BK134.out 2).trans rfl; have hfz5_0 := zx BK134.out 0; have hfz5_1 := zx BK134.out 1; have hfz5_2 := zx BK134.out 2) | ((with_reducible refine gate_callee (f := 51) rfl ?_); refine goesL_ (some 4) rfl rfl Try.func51 (by kernel_rfl) rfl #[.agg #[.int .u64 a0_0, .int .u32 a0_1, .slice A0_2 l0_2.length c0_2]] rfl (by (try simp only [List.map_toArray, List.map_cons, List.map_nil]); first | done | rfl | (simp only [List.length_drop, List.length_take]; rfl)) ?_; (with_reducible refine (coder_own.calls a0_0 a0_1 _ _ l0_2 t135 t136 t137 _ ?side1 ?side2 A2.out).mono ?_); (case side1 => repeat (first | exact (Kd.C_below HR0_2.out HB.out) | (with_reducible refine Kd.C_alloc ?_ _) | (with_reducible refine Kd.C_drewN ?_ _) | (with_reducible refine Kd.C_drew ?_))); (case side2 => exact HC0_2.out); rintro e w6 ⟨v138, rfl, ho0, hb⟩; refine ⟨_, rfl, ?_⟩; have n0_ := zm (Kd.R_lower ho0 (zE (by repeat (first | (with_reducible first | exact HB.out | apply ze | apply zd | apply zf | refine zk ?_ GE134.out) | exact HB.out)))); have n1_ := zm (zF (g := gb134) (o := .cells #[.int .u64 a0_0, .int .u32 a0_1, .slice A0_2 l0_2.length c0_2] 26 (0, 0)) (by (with_reducible repeat (first | refine zh ?_ _ | refine zj ?_ | refine zi ?_ _)); exact BK134.out) hb); have n2_ := zm (zJ (by repeat (first | (with_reducible first | exact HB.out | apply ze | apply zd | apply zf | refine zk ?_ GE134.out) | exact HB.out)) hb); clear BK134; clear HB; have HO139 := n0_; have BK134 := n1_; have HB := n2_; clear n0_ n1_ n2_; (try clear hb); (try clear hb2); (try clear hk); (try clear hi); (try clear ho0); have hcz7_0 : w6.cell? ⟨gb134, 0, none⟩ = some (.int .u64 a0_0) := (zs BK134.out 0).trans rfl; have hcz7_1 : w6.cell? ⟨gb134, 1, none⟩ = some (.int .u32 a0_1) := (zs BK134.out 1).trans rfl; have hcz7_2 : w6.cell? ⟨gb134, 2, none⟩ = some (.slice A0_2 l0_2.length c0_2) := (zs BK134.out 2).trans rfl; have hfz7_0 := zx BK134.out 0; have hfz7_1 := zx BK134.out 1; have hfz7_2 := zx BK134.out 2; obtain ⟨Ao8, co8, eo8⟩ := Kd.R_slice HO139.out; subst eo8) | ((with_reducible refine gate_dst (N := 22) rfl ?_); refine Kd.R_lit (Kd.int .u8) _ 5 ?hg (N := 22) ?hd (xs := ([(t135 / 16777216) % 256, (t135 / 65536) % 256, (t135 / 256) % 256, (t135) % 256] : List Int)) (inner := [.int .u8 ((t135 / 16777216) % 256), .int .u8 ((t135 / 65536) % 256), .int .u8 ((t135 / 256) % 256), .int .u8 ((t135) % 256)]) (ok := fun _ => True) (okp := fun _ => True) ?hr ?hp (fun _ hk => hk) trivial (Below.refl _ _) (Nat.le_refl _) (by simp) ?_; (case hd => rfl); (case hg => rfl); (case hr => first | (go_simp; done) | (go_simp; rfl)); (case hp => exact (Reps.one (show Kd.M (Kd.int .u8) _ _ _ ((t135 / 16777216) % 256) [.int .u8 ((t135 / 16777216) % 256)] from rfl) (Reps.one (show Kd.M (Kd.int .u8) _ _ _ ((t135 / 65536) % 256) [.int .u8 ((t135 / 65536) % 256)] from rfl) (Reps.one (show Kd.M (Kd.int .u8) _ _ _ ((t135 / 256) % 256) [.int .u8 ((t135 / 256) % 256)] from rfl) (Reps.one (show Kd.M (Kd.int .u8) _ _ _ ((t135) % 256) [.int .u8 ((t135) % 256)] from rfl) (Reps.none _ _)))))); intro v141 w9 ho10 hb hg_ hnew_; clear hg_ hnew_; (first | rw [← Ny140.out] at ho10 | (simp only [Int.reduceToNat] at ho10; rw [← Ny140.out] at ho10)); have n0_ := zm (Kd.R_elder' (by (with_reducible repeat (first | apply zo | apply zp | apply zq)); exact (zG (zH (p := ⟨gb134, 2, none⟩) (zH (p := ⟨gb134, 1, none⟩) (zH (p := ⟨gb134, 0, none⟩) (Kd.R_types HO139.out BK134.out (by decide)) (fun _ hk => hk.2) (.int .u64 t135)) (fun _ hk => hk.2) (.int .u32 t136)) (fun _ hk => hk.2) (.slice Ao8 t137.length co8)) (fun _ h_ => h_.1))) (Kd.R_base ho10) hb); have n1_ := zm (Kd.R_lower (Kd.R_new' ho10 (Kd.R_lt (by (with_reducible repeat (first | apply zo | apply zp | apply zq)); exact (zG (zH (p := ⟨gb134, 2, none⟩) (zH (p := ⟨gb134, 1, none⟩) (zH (p := ⟨gb134, 0, none⟩) (Kd.R_types HO139.out BK134.out (by decide)) (fun _ hk => hk.2) (.int .u64 t135)) (fun _ hk => hk.2) (.int .u32 t136)) (fun _ hk => hk.2) (.slice Ao8 t137.length co8)) (fun _ h_ => h_.1))))) (zE (by repeat (first | (with_reducible first | exact HB.out | apply ze | apply zd | apply zf | refine zk ?_ GE134.out) | exact HB.out)))); have n2_ := zm (zF (g := gb134) (o := .cells #[.int .u64 t135, .int .u32 t136, .slice Ao8 t137.length co8] 26 (0, 0)) (by (with_reducible repeat (first | refine zh ?_ _ | refine zj ?_ | refine zi ?_ _)); refine zw (cs := #[.int .u64 t135, .int .u32 t136, .slice A0_2 l0_2.length c0_2]) ?_ 2 _ rfl; (with_reducible repeat (first | refine zh ?_ _ | refine zj ?_ | refine zi ?_ _)); refine zw (cs := #[.int .u64 t135, .int .u32 a0_1, .slice A0_2 l0_2.length c0_2]) ?_ 1 _ rfl; (with_reducible repeat (first | refine zh ?_ _ | refine zj ?_ | refine zi ?_ _)); refine zw (cs := #[.int .u64 a0_0, .int .u32 a0_1, .slice A0_2 l0_2.length c0_2]) ?_ 0 _ rfl; (with_reducible repeat (first | refine zh ?_ _ | refine zj ?_ | refine zi ?_ _)); exact BK134.out) hb); have n3_ := zm (zJ (by repeat (first | (with_reducible first | exact HB.out | apply ze | apply zd | apply zf | refine zk ?_ GE134.out) | exact HB.out)) hb); clear HO139; clear BK134; clear HB; have HO139 := n0_; have HO142 := n1_; have BK134 := n2_; have HB := n3_; clear n0_ n1_ n2_ n3_; clear hb ho10; obtain ⟨Ao12, co12, eo12⟩ := Kd.R_slice HO142.out; subst eo12) | ((with_reducible refine gate_builtin (b := .append) (xs := #[.tmp 6, .tmp 22]) rfl ?_); at_builtin; refine Kd.R_append_rows (Kd.int .u8) (w0 := w) w.heap.size rfl (.tmp 6) (.tmp 22) 24 5 (.int .u8 0) 1 rfl Try.underlying24 info5 rfl (by decide) (by omega) (.slice Ao8 t137.length co8) t137 y140 _ _ _ (fun k_ => some k_ ≠ (.slice Ao12 y140.length co12 : Value).ownBlock) (fun _ => False) rfl rfl ?aO ?aR (fun _ _ h => h) (fun _ h => h.elim) ?aF ?aB ?aS ?aL ?_; (case aR => repeat (first | exact (Kd.R_reads' HO142.out).2.2 | (with_reducible refine Kd.C_alloc ?_ _) | (with_reducible refine Kd.C_drewN ?_ _) | (with_reducible refine Kd.C_drew ?_))); (case aB => exact (by repeat (first | (with_reducible first | exact HB.out | apply ze | apply zd | apply zf | refine zk ?_ GE134.out) | exact HB.out))); (case aF => exact (fun k_ hk => Kd.fresh' (Kd.R_lt (by (with_reducible repeat (first | apply zo | apply zp | apply zq)); exact HO142.out)) k_ hk)); (case aO => exact (by (with_reducible repeat (first | apply zo | apply zp | apply zq)); exact zG HO139.out (fun _ hk => hk.2))); (case aS => exact (zE (by repeat (first | (with_reducible first | exact HB.out | apply ze | apply zd | apply zf | refine zk ?_ GE134.out) | exact HB.out)))); (case aL => have := LMc3.out; omega); intro v144 w11 ho hb hg hat; rw [← Ny143.out] at ho; have n0_ := zm (blk_grown (g := gb134) (o := .cells #[.int .u64 t135, .int .u32 t136, .slice Ao8 t137.length co8] 26 (0, 0)) (by (with_reducible repeat (first | refine zh ?_ _ | refine zj ?_ | refine zi ?_ _)); exact BK134.out) hg (zu HO139.out BK134.out (by decide))); have n1_ := zm (Kd.R_after (ok := (fun _ => True)) (by (with_reducible repeat (first | apply zo | apply zp | apply zq)); exact HO142.out) hg hat); have n2_ := zm (hb); have n3_ := zm (ho); clear BK134; clear HO142; clear HB; clear HO139; have BK134 := n0_; have HO142 := n1_; have HB := n2_; have HO145 := n3_; clear n0_ n1_ n2_ n3_; clear ho hb hg hat))
  go_ret
  exact ⟨_, by first | rfl | (simp [errW_none, errW_some] <;> rfl) | (simp [*, errW_none, errW_some] <;> rfl), by (with_reducible repeat (first | apply zo | apply zp | apply zq)); exact zG HO145.out (fun _ hk => trivial), by repeat (first | (with_reducible first | exact HB.out | apply ze | apply zd | apply zf | refine zk ?_ GE134.out) | exact HB.out)⟩
 ·
  rw [if_neg c3] at H
  exact absurd H (by simp)

end Go.Proofs.Ytkaoiblgfpphoaa.Prt

namespace Go.Proofs.Ytkaoiblgfpphoaa.Prt
open Go.RowKit Go.Proofs.YtkaoiblgfpphoaaW.PrintWords Go.Proofs.YtkaoiblgfpphoaaW.PrintLast Go.Proofs.YtkaoiblgfpphoaaW.PrintMore
attribute [local go_sem] max2_int min2_int max_two min_two max_three min_three max_four min_four   -- for this text's walks alone
set_option linter.unusedVariables false
set_option linter.unusedSimpArgs false

/-! ### psalterylaw05_knows: function 17 -/
def psalterylaw05_knows.f (k : Nat)  : Option (Bool) := (coder_New.f).bind fun bt170 => ((coder_Put.f k bt170.1 bt170.2.1 bt170.2.2 1 2 2).bind fun bt175 => ((coder_Finish.f bt175.1 bt175.2.1 bt175.2.2.1).bind fun t182 => ((coder_Open.f t182).bind fun bt185 => ((coder_Get.f bt185.1 bt185.2.1 bt185.2.2.1 bt185.2.2.2 2).bind fun bt191 => (if bt175.1 = 2147483647 then (if bt175.2.1 = 2147483648 then (if bt175.2.2.2 = 0 then (if (strOfNums t182).toList = ([127, 255, 255, 255] : List UInt8) then (if bt191.1 = 1 then (if bt191.2 = 0 then ((coder_RightEnc.f bt175.1 bt175.2.1 bt175.2.2.1).bind fun t193 => (if t193 = true then ((coder_Open.f ([] : List Int)).bind fun bt194 => ((coder_RightDec.f bt194.1 bt194.2.1 bt194.2.2.1 bt194.2.2.2).bind fun t200 => (some t200))) else (none))) else (none)) else (none)) else (none)) else (none)) else (none)) else (none))))))
theorem psalterylaw05_knows.mono : ∀ k, LeO (psalterylaw05_knows.f k ) (psalterylaw05_knows.f (k + 1) ) := by
 intro  k
 unfold psalterylaw05_knows.f
 repeat' first
   | (with_reducible exact coder_Put.mono _ _ _ _ _ _ _)
   | (with_reducible exact LeO.refl _)
   | (with_reducible exact LeO.none _)
   | (with_reducible refine LeO.ite ?_ ?_)
   | (with_reducible refine LeO.bind ?_ (fun _ => ?_))
   | exact coder_Put.mono _ _ _ _ _ _ _
   | exact LeO.none _
   | refine LeO.ite ?_ ?_
   | refine LeO.bind ?_ (fun _ => ?_)
set_option maxHeartbeats 8000000 in
set_option maxRecDepth 100000 in
theorem psalterylaw05_knows.calls (k : Nat)  (r : Bool) (w : World) (h : psalterylaw05_knows.f k  = some r) :
  Calls Try.prog 17 #[] w fun e w' => e = .returned (.bool r) ∧ Below w.heap.size w w' := by
 have hu26 := Try.underlying26
 have HB := zm (Below.refl w.heap.size w)
 have H : ((coder_New.f).bind fun bt170 => ((coder_Put.f k bt170.1 bt170.2.1 bt170.2.2 1 2 2).bind fun bt175 => ((coder_Finish.f bt175.1 bt175.2.1 bt175.2.2.1).bind fun t182 => ((coder_Open.f t182).bind fun bt185 => ((coder_Get.f bt185.1 bt185.2.1 bt185.2.2.1 bt185.2.2.2 2).bind fun bt191 => (if bt175.1 = 2147483647 then (if bt175.2.1 = 2147483648 then (if bt175.2.2.2 = 0 then (if (strOfNums t182).toList = ([127, 255, 255, 255] : List UInt8) then (if bt191.1 = 1 then (if bt191.2 = 0 then ((coder_RightEnc.f bt175.1 bt175.2.1 bt175.2.2.1).bind fun t193 => (if t193 = true then ((coder_Open.f ([] : List Int)).bind fun bt194 => ((coder_RightDec.f bt194.1 bt194.2.1 bt194.2.2.1 bt194.2.2.2).bind fun t200 => (some t200))) else (none))) else (none)) else (none)) else (none)) else (none)) else (none)) else (none))))))) = some r := h
 clear h
 replace H := Option.bind_eq_some_iff.mp H
 obtain ⟨⟨t170, t171, t172⟩, A10, H⟩ := H
 replace H : ((coder_Put.f k t170 t171 t172 1 2 2).bind fun bt175 => ((coder_Finish.f bt175.1 bt175.2.1 bt175.2.2.1).bind fun t182 => ((coder_Open.f t182).bind fun bt185 => ((coder_Get.f bt185.1 bt185.2.1 bt185.2.2.1 bt185.2.2.2 2).bind fun bt191 => (if bt175.1 = 2147483647 then (if bt175.2.1 = 2147483648 then (if bt175.2.2.2 = 0 then (if (strOfNums t182).toList = ([127, 255, 255, 255] : List UInt8) then (if bt191.1 = 1 then (if bt191.2 = 0 then ((coder_RightEnc.f bt175.1 bt175.2.1 bt175.2.2.1).bind fun t193 => (if t193 = true then ((coder_Open.f ([] : List Int)).bind fun bt194 => ((coder_RightDec.f bt194.1 bt194.2.1 bt194.2.2.1 bt194.2.2.2).bind fun t200 => (some t200))) else (none))) else (none)) else (none)) else (none)) else (none)) else (none)) else (none)))))) = some r := H
 have A1 := zm A10
 clear A10
 replace H := Option.bind_eq_some_iff.mp H
 obtain ⟨⟨t175, t176, t177, t180⟩, A20, H⟩ := H
 replace H : ((coder_Finish.f t175 t176 t177).bind fun t182 => ((coder_Open.f t182).bind fun bt185 => ((coder_Get.f bt185.1 bt185.2.1 bt185.2.2.1 bt185.2.2.2 2).bind fun bt191 => (if t175 = 2147483647 then (if t176 = 2147483648 then (if t180 = 0 then (if (strOfNums t182).toList = ([127, 255, 255, 255] : List UInt8) then (if bt191.1 = 1 then (if bt191.2 = 0 then ((coder_RightEnc.f t175 t176 t177).bind fun t193 => (if t193 = true then ((coder_Open.f ([] : List Int)).bind fun bt194 => ((coder_RightDec.f bt194.1 bt194.2.1 bt194.2.2.1 bt194.2.2.2).bind fun t200 => (some t200))) else (none))) else (none)) else (none)) else (none)) else (none)) else (none)) else (none))))) = some r := H
 have A2 := zm A20
 clear A20
 replace H := Option.bind_eq_some_iff.mp H
 obtain ⟨t182, A30, H⟩ := H
 replace H : ((coder_Open.f t182).bind fun bt185 => ((coder_Get.f bt185.1 bt185.2.1 bt185.2.2.1 bt185.2.2.2 2).bind fun bt191 => (if t175 = 2147483647 then (if t176 = 2147483648 then (if t180 = 0 then (if (strOfNums t182).toList = ([127, 255, 255, 255] : List UInt8) then (if bt191.1 = 1 then (if bt191.2 = 0 then ((coder_RightEnc.f t175 t176 t177).bind fun t193 => (if t193 = true then ((coder_Open.f ([] : List Int)).bind fun bt194 => ((coder_RightDec.f bt194.1 bt194.2.1 bt194.2.2.1 bt194.2.2.2).bind fun t200 => (some t200))) else (none))) else (none)) else (none)) else (none)) else (none)) else (none)) else (none)))) = some r := H
 have A3 := zm A30
 clear A30
 replace H := Option.bind_eq_some_iff.mp H
 obtain ⟨⟨t185, t186, t187, t190⟩, A40, H⟩ := H
 replace H : ((coder_Get.f t185 t186 t187 t190 2).bind fun bt191 => (if t175 = 2147483647 then (if t176 = 2147483648 then (if t180 = 0 then (if (strOfNums t182).toList = ([127, 255, 255, 255] : List UInt8) then (if bt191.1 = 1 then (if bt191.2 = 0 then ((coder_RightEnc.f t175 t176 t177).bind fun t193 => (if t193 = true then ((coder_Open.f ([] : List Int)).bind fun bt194 => ((coder_RightDec.f bt194.1 bt194.2.1 bt194.2.2.1 bt194.2.2.2).bind fun t200 => (some t200))) else (none))) else (none)) else (none)) else (none)) else (none)) else (none)) else (none))) = some r := H
 have A4 := zm A40
 clear A40
 replace H := Option.bind_eq_some_iff.mp H
 obtain ⟨⟨t191, t192⟩, A50, H⟩ := H
 replace H : (if t175 = 2147483647 then (if t176 = 2147483648 then (if t180 = 0 then (if (strOfNums t182).toList = ([127, 255, 255, 255] : List UInt8) then (if t191 = 1 then (if t192 = 0 then ((coder_RightEnc.f t175 t176 t177).bind fun t193 => (if t193 = true then ((coder_Open.f ([] : List Int)).bind fun bt194 => ((coder_RightDec.f bt194.1 bt194.2.1 bt194.2.2.1 bt194.2.2.2).bind fun t200 => (some t200))) else (none))) else (none)) else (none)) else (none)) else (none)) else (none)) else (none)) = some r := H
 have A5 := zm A50
 clear A50
 by_cases c6 : t175 = 2147483647
 ·
  rw [if_pos c6] at H
  have c6b0 : (t175 == 2147483647) = true := beq_iff_eq.mpr c6
  have c6b1 : (t175 != 2147483647) = false := bne_eq_false_iff_eq.mpr c6
  clear c6
  by_cases c7 : t176 = 2147483648
  ·
   rw [if_pos c7] at H
   have c7b0 : (t176 == 2147483648) = true := beq_iff_eq.mpr c7
   have c7b1 : (t176 != 2147483648) = false := bne_eq_false_iff_eq.mpr c7
   clear c7
   by_cases c8 : t180 = 0
   ·
    rw [if_pos c8] at H
    have c8b0 : (t180 == 0) = true := beq_iff_eq.mpr c8
    have c8b1 : (t180 != 0) = false := bne_eq_false_iff_eq.mpr c8
    clear c8
    by_cases c9 : (strOfNums t182).toList = ([127, 255, 255, 255] : List UInt8)
    ·
     rw [if_pos c9] at H
     have c9b0 : ((strOfNums t182).toList == ([127, 255, 255, 255] : List UInt8)) = true := beq_iff_eq.mpr c9
     have c9b1 : ((strOfNums t182).toList != ([127, 255, 255, 255] : List UInt8)) = false := bne_eq_false_iff_eq.mpr c9
     clear c9
     by_cases c10 : t191 = 1
     ·
      rw [if_pos c10] at H
      have c10b0 : (t191 == 1) = true := beq_iff_eq.mpr c10
      have c10b1 : (t191 != 1) = false := bne_eq_false_iff_eq.mpr c10
      clear c10
      by_cases c11 : t192 = 0
      ·
       rw [if_pos c11] at H
       have c11b0 : (t192 == 0) = true := beq_iff_eq.mpr c11
       have c11b1 : (t192 != 0) = false := bne_eq_false_iff_eq.mpr c11
       clear c11
       replace H := Option.bind_eq_some_iff.mp H
       obtain ⟨t193, A120, H⟩ := H
       replace H : (if t193 = true then ((coder_Open.f ([] : List Int)).bind fun bt194 => ((coder_RightDec.f bt194.1 bt194.2.1 bt194.2.2.1 bt194.2.2.2).bind fun t200 => (some t200))) else (none)) = some r := H
       have A12 := zm A120
       clear A120
       by_cases c13 : t193 = true
       ·
        subst c13
        have H1 : ((coder_Open.f ([] : List Int)).bind fun bt194 => ((coder_RightDec.f bt194.1 bt194.2.1 bt194.2.2.1 bt194.2.2.2).bind fun t200 => (some t200))) = some r := by rw [if_pos rfl] at H; exact H
        clear H
        have H := H1
        clear H1
        replace H := Option.bind_eq_some_iff.mp H
        obtain ⟨⟨t194, t195, t196, t199⟩, A140, H⟩ := H
        replace H : ((coder_RightDec.f t194 t195 t196 t199).bind fun t200 => (some t200)) = some r := H
        have A14 := zm A140
        clear A140
        replace H := Option.bind_eq_some_iff.mp H
        obtain ⟨t200, A150, H⟩ := H
        replace H : (some t200) = some r := H
        have A15 := zm A150
        clear A150
        obtain rfl := Option.some.inj H
        go_enter Try.func17, Try.ntmps17
        go_wp2_with (first | ((with_reducible refine gate_callee (f := 29) rfl ?_); refine goesL_ (some 7) rfl rfl Try.func29 (by kernel_rfl) rfl #[] rfl (by (try simp only [List.map_toArray, List.map_cons, List.map_nil]); first | done | rfl | (simp only [List.length_drop, List.length_take]; rfl)) ?_; (with_reducible refine (coder_New.calls  t170 t171 t172 _ A1.out).mono ?_); rintro e w16 ⟨v173, rfl, ho0, hb⟩; refine ⟨_, rfl, ?_⟩; have n0_ := zm (Kd.R_lower ho0 (zE (by repeat (first | (with_reducible first | exact HB.out | apply ze | apply zd | apply zf) | exact HB.out)))); have n1_ := zm (zJ (by repeat (first | (with_reducible first | exact HB.out | apply ze | apply zd | apply zf) | exact HB.out)) hb); clear HB; have HO174 := n0_; have HB := n1_; clear n0_ n1_; (try clear hb); (try clear hb2); (try clear hk); (try clear hi); (try clear ho0); obtain ⟨Ao17, co17, eo17⟩ := Kd.R_slice HO174.out; subst eo17) | ((with_reducible refine gate_callee (f := 18) rfl ?_); refine goesL_ (some 8) rfl rfl Try.func18 (by kernel_rfl) rfl #[.agg #[.int .u64 t170, .int .u32 t171, .slice Ao17 t172.length co17], .int .i64 1, .int .i64 2, .int .i64 2] rfl (by (try simp only [List.map_toArray, List.map_cons, List.map_nil]); first | done | rfl | (simp only [List.length_drop, List.length_take]; rfl)) ?_; (with_reducible refine (coder_Put.calls k t170 t171 _ _ t172 1 2 2 t175 t176 t177 t180 _ ?side1 ?side2 A2.out).mono ?_); (case side1 => repeat (first | exact (Kd.R_reads' HO174.out).2.2 | (with_reducible refine Kd.C_alloc ?_ _) | (with_reducible refine Kd.C_drewN ?_ _) | (with_reducible refine Kd.C_drew ?_))); (case side2 => exact (Kd.R_reads' HO174.out).2.1); rintro e w18 ⟨v178, rfl, ho0, hb⟩; refine ⟨_, rfl, ?_⟩; have n0_ := zm (Kd.R_elder' (by (with_reducible repeat (first | apply zo | apply zp | apply zq)); exact HO174.out) (Kd.R_base ho0) hb); have n1_ := zm (Kd.R_lower (Kd.R_new' ho0 (Kd.R_lt (by (with_reducible repeat (first | apply zo | apply zp | apply zq)); exact HO174.out))) (zE (by repeat (first | (with_reducible first | exact HB.out | apply ze | apply zd | apply zf) | exact HB.out)))); have n2_ := zm (zJ (by repeat (first | (with_reducible first | exact HB.out | apply ze | apply zd | apply zf) | exact HB.out)) hb); clear HO174; clear HB; have HO174 := n0_; have HO179 := n1_; have HB := n2_; clear n0_ n1_ n2_; (try clear hb); (try clear hb2); (try clear hk); (try clear hi); (try clear ho0)) | ((with_reducible refine gate_dst (N := 1) rfl ?_); refine box_event ?hg (N := 1) ?hd (cs := #[.int .u64 0, .int .u32 0, .slice none 0 0]) (t := 26) ?hr ?_; (case hd => rfl); (case hg => rfl); (case hr => first | (go_simp; done) | (go_simp; rfl)); intro gb181 hg w19 hbox hb; have n0_ := zm (Kd.R_below (by (with_reducible repeat (first | apply zo | apply zp | apply zq)); exact HO174.out) hb); have n1_ := zm (Kd.R_below (by (with_reducible repeat (first | apply zo | apply zp | apply zq)); exact HO179.out) hb); have n2_ := zm (zJ (by repeat (first | (with_reducible first | exact HB.out | apply ze | apply zd | apply zf) | exact HB.out)) hb); have n3_ := zm (hbox); have n4_ := zm ((by rw [hg]; exact (zE (by repeat (first | (with_reducible first | exact HB.out | apply ze | apply zd | apply zf) | exact HB.out))) : w.heap.size ≤ gb181)); have n5_ := zm ((by rw [hg]; exact (zE (by repeat (first | (with_reducible first | exact HB.out | apply ze | apply zd | apply zf) | exact HB.out))) : w.heap.size ≤ gb181)); clear HO174; clear HO179; clear HB; have HO174 := n0_; have HO179 := n1_; have HB := n2_; have BK181 := n3_; have GW181 := n4_; have GE181 := n5_; clear n0_ n1_ n2_ n3_ n4_ n5_; clear hb hbox hg; have hcz20_0 : w19.cell? ⟨gb181, 0, none⟩ = some (.int .u64 0) := (zs BK181.out 0).trans rfl; have hcz20_1 : w19.cell? ⟨gb181, 1, none⟩ = some (.int .u32 0) := (zs BK181.out 1).trans rfl; have hcz20_2 : w19.cell? ⟨gb181, 2, none⟩ = some (.slice none 0 0) := (zs BK181.out 2).trans rfl; have hfz20_0 := zx BK181.out 0; have hfz20_1 := zx BK181.out 1; have hfz20_2 := zx BK181.out 2; obtain ⟨Ao21, co21, eo21⟩ := Kd.R_slice HO179.out; subst eo21) | ((with_reducible refine gate_callee (f := 24) rfl ?_); refine goesL_ (some 12) rfl rfl Try.func24 (by kernel_rfl) rfl #[.agg #[.int .u64 t175, .int .u32 t176, .slice Ao21 t177.length co21]] rfl (by (try simp only [List.map_toArray, List.map_cons, List.map_nil]); first | done | rfl | (simp only [List.length_drop, List.length_take]; rfl)) ?_; (with_reducible refine (coder_Finish.calls t175 t176 _ _ t177 t182 _ ?side1 ?side2 A3.out).mono ?_); (case side1 => refine (Kd.R_reads' (e := 5) (base := w.heap.size) (ok := fun k_ => (True ∧ some k_ ≠ (.slice Ao17 t172.length co17 : Value).ownBlock)) (n := t177.length) (c := co21) ?_).2.2; exact (by (with_reducible repeat (first | apply zo | apply zp | apply zq)); exact (zG (zH (p := ⟨gb181, 2, none⟩) (zH (p := ⟨gb181, 1, none⟩) (zH (p := ⟨gb181, 0, none⟩) (Kd.R_types HO179.out BK181.out (by decide)) (fun _ hk => hk.2) (.int .u64 t175)) (fun _ hk => hk.2) (.int .u32 t176)) (fun _ hk => hk.2) (.slice Ao21 t177.length co21)) (fun _ h_ => h_.1)))); (case side2 => exact (Kd.R_reads' HO179.out).2.1); rintro e w22 ⟨v183, rfl, ho0, hb⟩; refine ⟨_, rfl, ?_⟩; have n0_ := zm (Kd.R_elder' (by (with_reducible repeat (first | apply zo | apply zp | apply zq)); exact (zG (zH (p := ⟨gb181, 2, none⟩) (zH (p := ⟨gb181, 1, none⟩) (zH (p := ⟨gb181, 0, none⟩) (Kd.R_types HO174.out BK181.out (by decide)) (fun _ hk => hk.2) (.int .u64 t175)) (fun _ hk => hk.2) (.int .u32 t176)) (fun _ hk => hk.2) (.slice Ao21 t177.length co21)) (fun _ h_ => h_.1))) (Kd.R_base ho0) hb); have n1_ := zm (Kd.R_elder' (by (with_reducible repeat (first | apply zo | apply zp | apply zq)); exact (zG (zH (p := ⟨gb181, 2, none⟩) (zH (p := ⟨gb181, 1, none⟩) (zH (p := ⟨gb181, 0, none⟩) (Kd.R_types HO179.out BK181.out (by decide)) (fun _ hk => hk.2) (.int .u64 t175)) (fun _ hk => hk.2) (.int .u32 t176)) (fun _ hk => hk.2) (.slice Ao21 t177.length co21)) (fun _ h_ => h_.1))) (Kd.R_base ho0) hb); have n2_ := zm (Kd.R_lower (Kd.R_new' (Kd.R_new' ho0 (Kd.R_lt (by (with_reducible repeat (first | apply zo | apply zp | apply zq)); exact (zG (zH (p := ⟨gb181, 2, none⟩) (zH (p := ⟨gb181, 1, none⟩) (zH (p := ⟨gb181, 0, none⟩) (Kd.R_types HO174.out BK181.out (by decide)) (fun _ hk => hk.2) (.int .u64 t175)) (fun _ hk => hk.2) (.int .u32 t176)) (fun _ hk => hk.2) (.slice Ao21 t177.length co21)) (fun _ h_ => h_.1))))) (Kd.R_lt (by (with_reducible repeat (first | apply zo | apply zp | apply zq)); exact (zG (zH (p := ⟨gb181, 2, none⟩) (zH (p := ⟨gb181, 1, none⟩) (zH (p := ⟨gb181, 0, none⟩) (Kd.R_types HO179.out BK181.out (by decide)) (fun _ hk => hk.2) (.int .u64 t175)) (fun _ hk => hk.2) (.int .u32 t176)) (fun _ hk => hk.2) (.slice Ao21 t177.length co21)) (fun _ h_ => h_.1))))) (zE (by repeat (first | (with_reducible first | exact HB.out | apply ze | apply zd | apply zf | refine zk ?_ GE181.out) | exact HB.out)))); have n3_ := zm (zF (g := gb181) (o := .cells #[.int .u64 t175, .int .u32 t176, .slice Ao21 t177.length co21] 26 (0, 0)) (by (with_reducible repeat (first | refine zh ?_ _ | refine zj ?_ | refine zi ?_ _)); refine zw (cs := #[.int .u64 t175, .int .u32 t176, .slice none 0 0]) ?_ 2 _ rfl; (with_reducible repeat (first | refine zh ?_ _ | refine zj ?_ | refine zi ?_ _)); refine zw (cs := #[.int .u64 t175, .int .u32 0, .slice none 0 0]) ?_ 1 _ rfl; (with_reducible repeat (first | refine zh ?_ _ | refine zj ?_ | refine zi ?_ _)); refine zw (cs := #[.int .u64 0, .int .u32 0, .slice none 0 0]) ?_ 0 _ rfl; (with_reducible repeat (first | refine zh ?_ _ | refine zj ?_ | refine zi ?_ _)); exact BK181.out) hb); have n4_ := zm (zJ (by repeat (first | (with_reducible first | exact HB.out | apply ze | apply zd | apply zf | refine zk ?_ GE181.out) | exact HB.out)) hb); clear HO174; clear HO179; clear BK181; clear HB; have HO174 := n0_; have HO179 := n1_; have HO184 := n2_; have BK181 := n3_; have HB := n4_; clear n0_ n1_ n2_ n3_ n4_; (try clear hb); (try clear hb2); (try clear hk); (try clear hi); (try clear ho0); obtain ⟨Ao23, co23, eo23⟩ := Kd.R_slice HO184.out; subst eo23) | ((with_reducible refine gate_callee (f := 26) rfl ?_); refine goesL_ (some 15) rfl rfl Try.func26 (by kernel_rfl) rfl #[.slice Ao23 t182.length co23] rfl (by (try simp only [List.map_toArray, List.map_cons, List.map_nil]); first | done | rfl | (simp only [List.length_drop, List.length_take]; rfl)) ?_; (with_reducible refine (coder_Open.calls (fun k_ => some k_ = (.slice Ao23 t182.length co23 : Value).ownBlock) _ _ t182 t185 t186 t187 t190 _ ?side1 A4.out).mono ?_); (case side1 => exact Kd.R_V (Kd.R_tight rfl (Kd.R_types (HO184.out) BK181.out (by decide)))); rintro e w24 ⟨v188, rfl, ho0, hb⟩; refine ⟨_, rfl, ?_⟩; have n0_ := zm (Kd.R_below (by (with_reducible repeat (first | apply zo | apply zp | apply zq)); exact HO174.out) hb); have n1_ := zm (Kd.R_below (by (with_reducible repeat (first | apply zo | apply zp | apply zq)); exact HO179.out) hb); have n2_ := zm (Kd.R_below (by (with_reducible repeat (first | apply zo | apply zp | apply zq)); exact HO184.out) hb); have n3_ := zm (Kd.V_lower (zy (ok' := fun k_ => some k_ ≠ (.slice Ao17 t172.length co17 : Value).ownBlock ∧ some k_ ≠ (.slice Ao21 t177.length co21 : Value).ownBlock ∧ k_ ≠ gb181) ho0 (fun k_ hk_ => ⟨Or.elim hk_ (fun hs_ => ((Kd.R_types (HO184.out) BK181.out (by decide)).1 k_ hs_.symm).1.1.2) (fun hn_ => (Kd.fresh' (Kd.R_lt (by (with_reducible repeat (first | apply zo | apply zp | apply zq)); exact HO174.out)) k_ hn_)), Or.elim hk_ (fun hs_ => ((Kd.R_types (HO184.out) BK181.out (by decide)).1 k_ hs_.symm).1.2) (fun hn_ => (Kd.fresh' (Kd.R_lt (by (with_reducible repeat (first | apply zo | apply zp | apply zq)); exact HO179.out)) k_ hn_)), Or.elim hk_ (fun hs_ => ((Kd.R_types (HO184.out) BK181.out (by decide)).1 k_ hs_.symm).2) (fun hn_ => (Kd.freshB (g := gb181) (o := .cells #[.int .u64 t175, .int .u32 t176, .slice Ao21 t177.length co21] 26 (0, 0)) (by (with_reducible repeat (first | refine zh ?_ _ | refine zj ?_ | refine zi ?_ _)); exact BK181.out) k_ hn_))⟩)) (zE (by repeat (first | (with_reducible first | exact HB.out | apply ze | apply zd | apply zf | refine zk ?_ GE181.out) | exact HB.out)))); have n4_ := zm (zF (g := gb181) (o := .cells #[.int .u64 t175, .int .u32 t176, .slice Ao21 t177.length co21] 26 (0, 0)) (by (with_reducible repeat (first | refine zh ?_ _ | refine zj ?_ | refine zi ?_ _)); exact BK181.out) hb); have n5_ := zm (zJ (by repeat (first | (with_reducible first | exact HB.out | apply ze | apply zd | apply zf | refine zk ?_ GE181.out) | exact HB.out)) hb); clear HO174; clear HO179; clear HO184; clear BK181; clear HB; have HO174 := n0_; have HO179 := n1_; have HO184 := n2_; have HO189 := n3_; have BK181 := n4_; have HB := n5_; clear n0_ n1_ n2_ n3_ n4_ n5_; (try clear hb); (try clear hb2); (try clear hk); (try clear hi); (try clear ho0); obtain ⟨Ao25, co25, eo25⟩ := Kd.V_slice HO189.out; subst eo25) | ((with_reducible refine gate_callee (f := 32) rfl ?_); refine goesL_ (some 16) rfl rfl Try.func32 (by kernel_rfl) rfl #[.agg #[.int .u64 t185, .int .u32 t186, .slice Ao25 t187.length co25, .int .i64 t190], .int .i64 2] rfl (by (try simp only [List.map_toArray, List.map_cons, List.map_nil]); first | done | rfl | (simp only [List.length_drop, List.length_take]; rfl)) ?_; (with_reducible refine (coder_Get.calls t185 t186 _ _ t187 t190 2 t191 t192 _ ?side1 ?side2 A5.out).mono ?_); (case side1 => repeat (first | exact (Kd.V_reads' HO189.out).2.2 | (with_reducible refine Kd.C_alloc ?_ _) | (with_reducible refine Kd.C_drewN ?_ _) | (with_reducible refine Kd.C_drew ?_))); (case side2 => exact (Kd.V_reads' HO189.out).2.1); rintro e w26 ⟨rfl, hb⟩; refine ⟨_, rfl, ?_⟩; have n0_ := zm (Kd.R_below (by (with_reducible repeat (first | apply zo | apply zp | apply zq)); exact HO174.out) hb); have n1_ := zm (Kd.R_below (by (with_reducible repeat (first | apply zo | apply zp | apply zq)); exact HO179.out) hb); have n2_ := zm (Kd.R_below (by (with_reducible repeat (first | apply zo | apply zp | apply zq)); exact HO184.out) hb); have n3_ := zm (Kd.V_below (by (with_reducible repeat (first | apply zA | apply zB | apply zC)); exact HO189.out) hb); have n4_ := zm (zF (g := gb181) (o := .cells #[.int .u64 t175, .int .u32 t176, .slice Ao21 t177.length co21] 26 (0, 0)) (by (with_reducible repeat (first | refine zh ?_ _ | refine zj ?_ | refine zi ?_ _)); exact BK181.out) hb); have n5_ := zm (zJ (by repeat (first | (with_reducible first | exact HB.out | apply ze | apply zd | apply zf | refine zk ?_ GE181.out) | exact HB.out)) hb); clear HO174; clear HO179; clear HO184; clear HO189; clear BK181; clear HB; have HO174 := n0_; have HO179 := n1_; have HO184 := n2_; have HO189 := n3_; have BK181 := n4_; have HB := n5_; clear n0_ n1_ n2_ n3_ n4_ n5_; (try clear hb); (try clear hb2); (try clear hk); (try clear hi); have hcz27_0 : w26.cell? ⟨gb181, 0, none⟩ = some (.int .u64 t175) := (zs BK181.out 0).trans rfl; have hcz27_1 : w26.cell? ⟨gb181, 1, none⟩ = some (.int .u32 t176) := (zs BK181.out 1).trans rfl; have hcz27_2 : w26.cell? ⟨gb181, 2, none⟩ = some (.slice Ao21 t177.length co21) := (zs BK181.out 2).trans rfl; have hfz27_0 := zx BK181.out 0; have hfz27_1 := zx BK181.out 1; have hfz27_2 := zx BK181.out 2; have hcv28 := own_string (P := Try.prog) Try.underlying24 Try.underlying5 Try.underlying9 (Kd.own_of_R HO184.out)) | (go_at_call 21; (with_reducible refine (coder_RightEnc.calls t175 t176 _ _ t177 true _ ?side1 ?side2 A12.out).mono ?_); (case side1 => repeat (first | exact (Kd.R_reads' HO179.out).2.2 | (with_reducible refine Kd.C_alloc ?_ _) | (with_reducible refine Kd.C_drewN ?_ _) | (with_reducible refine Kd.C_drew ?_))); (case side2 => exact (Kd.R_reads' HO179.out).2.1); rintro e w29 ⟨rfl, hb⟩; have n0_ := zm (Kd.R_below (by (with_reducible repeat (first | apply zo | apply zp | apply zq)); exact HO174.out) hb); have n1_ := zm (Kd.R_below (by (with_reducible repeat (first | apply zo | apply zp | apply zq)); exact HO179.out) hb); have n2_ := zm (Kd.R_below (by (with_reducible repeat (first | apply zo | apply zp | apply zq)); exact HO184.out) hb); have n3_ := zm (Kd.V_below (by (with_reducible repeat (first | apply zA | apply zB | apply zC)); exact HO189.out) hb); have n4_ := zm (zF (g := gb181) (o := .cells #[.int .u64 t175, .int .u32 t176, .slice Ao21 t177.length co21] 26 (0, 0)) (by (with_reducible repeat (first | refine zh ?_ _ | refine zj ?_ | refine zi ?_ _)); exact BK181.out) hb); have n5_ := zm (zJ (by repeat (first | (with_reducible first | exact HB.out | apply ze | apply zd | apply zf | refine zk ?_ GE181.out) | exact HB.out)) hb); clear HO174; clear HO179; clear HO184; clear HO189; clear BK181; clear HB; have HO174 := n0_; have HO179 := n1_; have HO184 := n2_; have HO189 := n3_; have BK181 := n4_; have HB := n5_; clear n0_ n1_ n2_ n3_ n4_ n5_; (try clear hb); (try clear hb2); (try clear hk); (try clear hi)) | (go_at_call 26; (refine (coder_Open.calls (fun k_ => False) _ _ ([] : List Int) t194 t195 t196 t199 _ ?side1 A14.out).mono ?_); (case side1 => exact Kd.V_nil _ _ _ _ _); rintro e w30 ⟨v197, rfl, ho0, hb⟩; have n0_ := zm (Kd.R_below (by (with_reducible repeat (first | apply zo | apply zp | apply zq)); exact HO174.out) hb); have n1_ := zm (Kd.R_below (by (with_reducible repeat (first | apply zo | apply zp | apply zq)); exact HO179.out) hb); have n2_ := zm (Kd.R_below (by (with_reducible repeat (first | apply zo | apply zp | apply zq)); exact HO184.out) hb); have n3_ := zm (Kd.V_below (by (with_reducible repeat (first | apply zA | apply zB | apply zC)); exact HO189.out) hb); have n4_ := zm (Kd.V_lower (zy (ok' := fun k_ => some k_ ≠ (.slice Ao17 t172.length co17 : Value).ownBlock ∧ some k_ ≠ (.slice Ao21 t177.length co21 : Value).ownBlock ∧ some k_ ≠ (.slice Ao23 t182.length co23 : Value).ownBlock ∧ k_ ≠ gb181) ho0 (fun k_ hk_ => ⟨Or.elim hk_ (fun hs_ => (hs_).elim) (fun hn_ => (Kd.fresh' (Kd.R_lt (by (with_reducible repeat (first | apply zo | apply zp | apply zq)); exact HO174.out)) k_ hn_)), Or.elim hk_ (fun hs_ => (hs_).elim) (fun hn_ => (Kd.fresh' (Kd.R_lt (by (with_reducible repeat (first | apply zo | apply zp | apply zq)); exact HO179.out)) k_ hn_)), Or.elim hk_ (fun hs_ => (hs_).elim) (fun hn_ => (Kd.fresh' (Kd.R_lt (by (with_reducible repeat (first | apply zo | apply zp | apply zq)); exact HO184.out)) k_ hn_)), Or.elim hk_ (fun hs_ => (hs_).elim) (fun hn_ => (Kd.freshB (g := gb181) (o := .cells #[.int .u64 t175, .int .u32 t176, .slice Ao21 t177.length co21] 26 (0, 0)) (by (with_reducible repeat (first | refine zh ?_ _ | refine zj ?_ | refine zi ?_ _)); exact BK181.out) k_ hn_))⟩)) (zE (by repeat (first | (with_reducible first | exact HB.out | apply ze | apply zd | apply zf | refine zk ?_ GE181.out) | exact HB.out)))); have n5_ := zm (zF (g := gb181) (o := .cells #[.int .u64 t175, .int .u32 t176, .slice Ao21 t177.length co21] 26 (0, 0)) (by (with_reducible repeat (first | refine zh ?_ _ | refine zj ?_ | refine zi ?_ _)); exact BK181.out) hb); have n6_ := zm (zJ (by repeat (first | (with_reducible first | exact HB.out | apply ze | apply zd | apply zf | refine zk ?_ GE181.out) | exact HB.out)) hb); clear HO174; clear HO179; clear HO184; clear HO189; clear BK181; clear HB; have HO174 := n0_; have HO179 := n1_; have HO184 := n2_; have HO189 := n3_; have HO198 := n4_; have BK181 := n5_; have HB := n6_; clear n0_ n1_ n2_ n3_ n4_ n5_ n6_; (try clear hb); (try clear hb2); (try clear hk); (try clear hi); (try clear ho0); obtain ⟨Ao31, co31, eo31⟩ := Kd.V_slice HO198.out; subst eo31) | (go_at_call 28; (with_reducible refine (coder_RightDec.calls t194 t195 _ _ t196 t199 t200 _ ?side1 ?side2 A15.out).mono ?_); (case side1 => repeat (first | exact (Kd.V_reads' HO198.out).2.2 | (with_reducible refine Kd.C_alloc ?_ _) | (with_reducible refine Kd.C_drewN ?_ _) | (with_reducible refine Kd.C_drew ?_))); (case side2 => exact (Kd.V_reads' HO198.out).2.1); rintro e w32 ⟨rfl, hb⟩; have n0_ := zm (Kd.R_below (by (with_reducible repeat (first | apply zo | apply zp | apply zq)); exact HO174.out) hb); have n1_ := zm (Kd.R_below (by (with_reducible repeat (first | apply zo | apply zp | apply zq)); exact HO179.out) hb); have n2_ := zm (Kd.R_below (by (with_reducible repeat (first | apply zo | apply zp | apply zq)); exact HO184.out) hb); have n3_ := zm (Kd.V_below (by (with_reducible repeat (first | apply zA | apply zB | apply zC)); exact HO189.out) hb); have n4_ := zm (Kd.V_below (by (with_reducible repeat (first | apply zA | apply zB | apply zC)); exact HO198.out) hb); have n5_ := zm (zF (g := gb181) (o := .cells #[.int .u64 t175, .int .u32 t176, .slice Ao21 t177.length co21] 26 (0, 0)) (by (with_reducible repeat (first | refine zh ?_ _ | refine zj ?_ | refine zi ?_ _)); exact BK181.out) hb); have n6_ := zm (zJ (by repeat (first | (with_reducible first | exact HB.out | apply ze | apply zd | apply zf | refine zk ?_ GE181.out) | exact HB.out)) hb); clear HO174; clear HO179; clear HO184; clear HO189; clear HO198; clear BK181; clear HB; have HO174 := n0_; have HO179 := n1_; have HO184 := n2_; have HO189 := n3_; have HO198 := n4_; have BK181 := n5_; have HB := n6_; clear n0_ n1_ n2_ n3_ n4_ n5_ n6_; (try clear hb); (try clear hb2); (try clear hk); (try clear hi)))
        go_ret
        exact ⟨by first | rfl | (simp [errW_none, errW_some] <;> rfl) | (simp [*, errW_none, errW_some] <;> rfl), by repeat (first | (with_reducible first | exact HB.out | apply ze | apply zd | apply zf | refine zk ?_ GE181.out) | exact HB.out)⟩
       ·
        replace c13 := Bool.eq_false_iff.mpr c13
        subst c13
        have H1 : (none) = some r := by rw [if_neg (show ¬ (false = true) by decide)] at H; exact H
        clear H
        have H := H1
        clear H1
        exact absurd H (by simp)
      ·
       rw [if_neg c11] at H
       exact absurd H (by simp)
     ·
      rw [if_neg c10] at H
      exact absurd H (by simp)
    ·
     rw [if_neg c9] at H
     exact absurd H (by simp)
   ·
    rw [if_neg c8] at H
    exact absurd H (by simp)
  ·
   rw [if_neg c7] at H
   exact absurd H (by simp)
 ·
  rw [if_neg c6] at H
  exact absurd H (by simp)

end Go.Proofs.Ytkaoiblgfpphoaa.Prt

namespace Go.Proofs.Ytkaoiblgfpphoaa.Prt
open Go.RowKit Go.Proofs.YtkaoiblgfpphoaaW.PrintWords Go.Proofs.YtkaoiblgfpphoaaW.PrintLast Go.Proofs.YtkaoiblgfpphoaaW.PrintMore
attribute [local go_sem] max2_int min2_int max_two min_two max_three min_three max_four min_four   -- for this text's walks alone
set_option linter.unusedVariables false
set_option linter.unusedSimpArgs false

/-! ### psalteryref05_Fair: function 35 -/
def psalteryref05_Fair.f (a0 : Int) (a1 : Int) (a2 : Int) : Option (Bool) := if a0 ≥ 0 then (if a1 > a0 then (if a2 ≥ a1 then (some (decide (a2 ≤ 65536))) else (some false)) else (some false)) else (some false)
set_option maxHeartbeats 8000000 in
set_option maxRecDepth 100000 in
theorem psalteryref05_Fair.calls (a0 : Int) (a1 : Int) (a2 : Int) (r : Bool) (w : World) (h : psalteryref05_Fair.f a0 a1 a2 = some r) :
  Calls Try.prog 35 #[.int .i64 a0, .int .i64 a1, .int .i64 a2] w fun e w' => e = .returned (.bool r) ∧ Drawn0 w w' := by
 have H : (if a0 ≥ 0 then (if a1 > a0 then (if a2 ≥ a1 then (some (decide (a2 ≤ 65536))) else (some false)) else (some false)) else (some false)) = some r := h
 clear h
 by_cases c4 : a0 ≥ 0
 ·
  rw [if_pos c4] at H
  have c4b0 : decide (0 ≤ a0) = true := decide_eq_true c4
  clear c4
  by_cases c5 : a1 > a0
  ·
   rw [if_pos c5] at H
   have c5b0 : decide (a0 < a1) = true := decide_eq_true c5
   clear c5
   by_cases c6 : a2 ≥ a1
   ·
    rw [if_pos c6] at H
    have c6b0 : decide (a1 ≤ a2) = true := decide_eq_true c6
    clear c6
    obtain rfl := Option.some.inj H
    go_enter Try.func35, Try.ntmps35
    go_wp2
    go_ret
    exact ⟨by first | rfl | (simp; done) | (simp [*]; done), by repeat (first | exact Drawn0.refl _ | apply Drawn0.step)⟩
   ·
    rw [if_neg c6] at H
    have c6b0 : decide (a1 ≤ a2) = false := decide_eq_false c6
    clear c6
    obtain rfl := Option.some.inj H
    go_enter Try.func35, Try.ntmps35
    go_wp2
    go_ret
    exact ⟨by first | rfl | (simp; done) | (simp [*]; done), by repeat (first | exact Drawn0.refl _ | apply Drawn0.step)⟩
  ·
   rw [if_neg c5] at H
   have c5b0 : decide (a0 < a1) = false := decide_eq_false c5
   clear c5
   obtain rfl := Option.some.inj H
   go_enter Try.func35, Try.ntmps35
   go_wp2
   go_ret
   exact ⟨by first | rfl | (simp; done) | (simp [*]; done), by repeat (first | exact Drawn0.refl _ | apply Drawn0.step)⟩
 ·
  rw [if_neg c4] at H
  have c4b0 : decide (0 ≤ a0) = false := decide_eq_false c4
  clear c4
  obtain rfl := Option.some.inj H
  go_enter Try.func35, Try.ntmps35
  go_wp2
  go_ret
  exact ⟨by first | rfl | (simp; done) | (simp [*]; done), by repeat (first | exact Drawn0.refl _ | apply Drawn0.step)⟩

end Go.Proofs.Ytkaoiblgfpphoaa.Prt

namespace Go.Proofs.Ytkaoiblgfpphoaa.Prt
open Go.RowKit Go.Proofs.YtkaoiblgfpphoaaW.PrintWords Go.Proofs.YtkaoiblgfpphoaaW.PrintLast Go.Proofs.YtkaoiblgfpphoaaW.PrintMore
attribute [local go_sem] max2_int min2_int max_two min_two max_three min_three max_four min_four   -- for this text's walks alone
set_option linter.unusedVariables false
set_option linter.unusedSimpArgs false

/-! ### psalteryref05_add: function 56 -/
def psalteryref05_add.l0 : Nat → Int → List Int → Int → Option (List Int)
 | 0, _, _, _ => none
 | k + 1, x1, x5, x6 => if x6 ≥ 0 then (if 0 ≤ x6 then (if x6 < (x5.length : Int) then (psalteryref05_add.l0 k (IntKind.u64.wrap (Int.tdiv (IntKind.u64.wrap (x1 + (IntKind.u64.wrap (rd x5 x6)))) 256)) (x5.set (x6 : Int).toNat (wrap64 (Int.tmod (IntKind.u64.wrap (x1 + (IntKind.u64.wrap (rd x5 x6)))) 256))) (wrap64 (x6 - 1))) else (none)) else (none)) else (some x5)
def psalteryref05_add.f (k : Nat) (l0 : List Int) (a1 : Int) : Option (List Int) := (some (([] : List Int) : List Int)).bind fun y201 => (if y201.length + l0.length < 17592186044416 then ((some (y201 ++ l0 : List Int)).bind fun y204 => (psalteryref05_add.l0 k a1 y204 (wrap64 ((y204.length : Int) - 1)))) else (none))
theorem psalteryref05_add.mono_l : ∀ k, (∀ y0 y1 y2, LeO (psalteryref05_add.l0 k y0 y1 y2) (psalteryref05_add.l0 (k + 1) y0 y1 y2))
 | 0 => fun _ _ _ r h => by simp [psalteryref05_add.l0] at h
 | k + 1 => by
  have ih0 := psalteryref05_add.mono_l k
  ·
   intro y0 y1 y2
   unfold psalteryref05_add.l0
   repeat' first
   | (with_reducible exact ih0 _ _ _)
   | (with_reducible exact LeO.refl _)
   | (with_reducible exact LeO.none _)
   | (with_reducible refine LeO.ite ?_ ?_)
   | (with_reducible refine LeO.bind ?_ (fun _ => ?_))
   | exact ih0 _ _ _
   | exact LeO.none _
   | refine LeO.ite ?_ ?_
   | refine LeO.bind ?_ (fun _ => ?_)
theorem psalteryref05_add.mono : ∀ a0 a1 k, LeO (psalteryref05_add.f k a0 a1) (psalteryref05_add.f (k + 1) a0 a1) := by
 intro a0 a1 k
 have ih0 := psalteryref05_add.mono_l k
 unfold psalteryref05_add.f
 repeat' first
   | (with_reducible exact ih0 _ _ _)
   | (with_reducible exact LeO.refl _)
   | (with_reducible exact LeO.none _)
   | (with_reducible refine LeO.ite ?_ ?_)
   | (with_reducible refine LeO.bind ?_ (fun _ => ?_))
   | exact ih0 _ _ _
   | exact LeO.none _
   | refine LeO.ite ?_ ?_
   | refine LeO.bind ?_ (fun _ => ?_)
set_option maxHeartbeats 8000000 in
set_option maxRecDepth 100000 in
theorem psalteryref05_add.calls (k : Nat) (A0 : Option Addr) (c0 : Nat) (l0 : List Int) (a1 : Int) (r : List Int) (w : World) (hr0 : Kd.C (Kd.int .i64) w A0 l0.length l0) (hc0 : l0.length ≤ c0) (h : psalteryref05_add.f k l0 a1 = some r) :
  Calls Try.prog 56 #[.slice A0 l0.length c0, .int .u64 a1] w fun e w' => ∃ v0_ : Value, e = .returned (v0_) ∧ Kd.R (Kd.int .i64) 3 w' w.heap.size (fun _ => True) v0_ r ∧ Below w.heap.size w w' := by
 have HR0 := zm hr0
 have HC0 := zm hc0
 clear hr0 hc0
 have HB := zm (Below.refl w.heap.size w)
 have H : ((some (([] : List Int) : List Int)).bind fun y201 => (if y201.length + l0.length < 17592186044416 then ((some (y201 ++ l0 : List Int)).bind fun y204 => (psalteryref05_add.l0 k a1 y204 (wrap64 ((y204.length : Int) - 1)))) else (none))) = some r := h
 clear h
 obtain ⟨y201, hy201⟩ : ∃ y_ : List Int, y_ = (([] : List Int)) := ⟨_, rfl⟩
 replace H : (if y201.length + l0.length < 17592186044416 then ((some (y201 ++ l0 : List Int)).bind fun y204 => (psalteryref05_add.l0 k a1 y204 (wrap64 ((y204.length : Int) - 1)))) else (none)) = some r := by first | (rw [hy201]; with_reducible exact H) | (have H2_ := (Option.bind_some _ _).symm.trans H; rw [hy201]; with_reducible exact H2_) | (have H2_ := (Option.bind_some _ _).symm.trans H; with_reducible exact H2_) | with_reducible exact H | (rw [hy201]; exact H) | exact H
 have Ny201 := zm hy201
 clear hy201
 by_cases c3 : y201.length + l0.length < 17592186044416
 ·
  rw [if_pos c3] at H
  have LMc3 := zm c3
  clear c3
  obtain ⟨y204, hy204⟩ : ∃ y_ : List Int, y_ = (y201 ++ l0) := ⟨_, rfl⟩
  replace H : (psalteryref05_add.l0 k a1 y204 (wrap64 ((y204.length : Int) - 1))) = some r := by first | (rw [hy204]; with_reducible exact H) | (have H2_ := (Option.bind_some _ _).symm.trans H; rw [hy204]; with_reducible exact H2_) | (have H2_ := (Option.bind_some _ _).symm.trans H; with_reducible exact H2_) | with_reducible exact H | (rw [hy204]; exact H) | exact H
  have Ny204 := zm hy204
  clear hy204
  have H' := zm H
  clear H
  go_enter Try.func56, Try.ntmps56
  go_wp2_with (first | ((with_reducible refine gate_dst (N := 7) rfl ?_); refine Kd.R_lit (Kd.int .i64) _ 3 ?hg (N := 7) ?hd (xs := ([] : List Int)) (inner := []) (ok := fun _ => True) (okp := fun _ => True) ?hr ?hp (fun _ hk => hk) trivial (Below.refl _ _) (Nat.le_refl _) (by simp) ?_; (case hd => rfl); (case hg => rfl); (case hr => first | (go_simp; done) | (go_simp; rfl)); (case hp => exact (Reps.none _ _)); intro v202 w4 ho5 hb hg_ hnew_; clear hg_ hnew_; (first | rw [← Ny201.out] at ho5 | (simp only [Int.reduceToNat] at ho5; rw [← Ny201.out] at ho5)); have n0_ := zm (Kd.R_lower ho5 (zE (by repeat (first | (with_reducible first | exact HB.out | apply ze | apply zd | apply zf) | exact HB.out)))); have n1_ := zm (zJ (by repeat (first | (with_reducible first | exact HB.out | apply ze | apply zd | apply zf) | exact HB.out)) hb); clear HB; have HO203 := n0_; have HB := n1_; clear n0_ n1_; clear hb ho5) | ((with_reducible refine gate_builtin (b := .append) (xs := #[.tmp 7, .tmp 8]) rfl ?_); at_builtin; refine Kd.R_append_rows (Kd.int .i64) (w0 := w) w.heap.size rfl (.tmp 7) (.tmp 8) 31 3 (.int .i64 0) 8 rfl Try.underlying31 info3 rfl (by decide) (by omega) v202 y201 l0 _ _ _ (fun _ => True) (fun _ => False) rfl rfl ?aO ?aR (fun _ _ h => h) (fun _ h => h.elim) ?aF ?aB ?aS ?aL ?_; (case aR => repeat (first | exact (Kd.C_below HR0.out HB.out) | (with_reducible refine Kd.C_alloc ?_ _) | (with_reducible refine Kd.C_drewN ?_ _) | (with_reducible refine Kd.C_drew ?_))); (case aB => exact (by repeat (first | (with_reducible first | exact HB.out | apply ze | apply zd | apply zf) | exact HB.out))); (case aF => exact (fun _ _ => trivial)); (case aO => exact (by (with_reducible repeat (first | apply zo | apply zp | apply zq)); exact HO203.out)); (case aS => exact (zE (by repeat (first | (with_reducible first | exact HB.out | apply ze | apply zd | apply zf) | exact HB.out)))); (case aL => have := LMc3.out; omega); intro v205 w6 ho hb hg hat; rw [← Ny204.out] at ho; have n0_ := zm (hb); have n1_ := zm (ho); clear HB; clear HO203; have HB := n0_; have HO206 := n1_; clear n0_ n1_; clear ho hb hg hat; obtain ⟨Ao7, co7, eo7⟩ := Kd.R_slice HO206.out; subst eo7))
  go_loopg [1, 6] k (fun kq v1 v6 w' => ∃ (x1_1 : Int) (x5_1 : List Int) (x6_1 : Int), v1 = .int .u64 x1_1 ∧ v6 = .int .i64 x6_1 ∧ Aside0 (psalteryref05_add.l0 kq x1_1 x5_1 x6_1 = some r) ∧ Aside0 (kq ≤ k) ∧ Aside0 (Kd.R (Kd.int .i64) 3 w' w.heap.size (fun _ => True) (.slice Ao7 y204.length co7) x5_1) ∧ Aside0 (Below w.heap.size w w'))
  case atStart => exact ⟨(a1), (y204), (wrap64 ((y204.length : Int) - 1)), (by first | rfl | (simp; done) | (simp [*]; done)), (by first | rfl | (simp; done) | (simp [*]; done)), H', ⟨Nat.le_refl _⟩, ⟨by (with_reducible repeat (first | apply zo | apply zp | apply zq)); exact HO206.out⟩, ⟨by repeat (first | (with_reducible first | exact HB.out | apply ze | apply zd | apply zf) | exact HB.out)⟩⟩
  case round =>
   clear H'
   try clear p2
   try clear c3
   try clear c5
   try clear p6
   obtain ⟨x1_1, x5_1, x6_1, rfl, rfl, HA, HK1, HO_5, HB⟩ := hrel
   have hl5_1 := (Kd.R_reads' HO_5.out).1
   rw [hl5_1] at HO_5
   (try simp only [hl5_1])
   cases gk with
   | zero => exact absurd HA.out (by simp [psalteryref05_add.l0])
   | succ k1 =>
    have H := HA.out
    clear HA
    simp only [psalteryref05_add.l0] at H
    by_cases c8 : x6_1 ≥ 0
    ·
     rw [if_pos c8] at H
     have c8b0 : decide (0 ≤ x6_1) = true := decide_eq_true c8
     clear c8
     by_cases c9 : 0 ≤ x6_1
     ·
      rw [if_pos c9] at H
      have c9b0 : decide (0 ≤ x6_1) = true := decide_eq_true c9
      clear c9
      by_cases c10 : x6_1 < (x5_1.length : Int)
      ·
       rw [if_pos c10] at H
       have c10b0 : decide (x6_1 < (x5_1.length : Int)) = true := decide_eq_true c10
       clear c10
       obtain ⟨y208, hy208⟩ : ∃ y_ : List Int, y_ = (x5_1.set (x6_1 : Int).toNat (wrap64 (Int.tmod (IntKind.u64.wrap (x1_1 + (IntKind.u64.wrap (rd x5_1 x6_1)))) 256))) := ⟨_, rfl⟩
       replace H : (psalteryref05_add.l0 k1 (IntKind.u64.wrap (Int.tdiv (IntKind.u64.wrap (x1_1 + (IntKind.u64.wrap (rd x5_1 x6_1)))) 256)) y208 (wrap64 (x6_1 - 1))) = some r := by first | (rw [hy208]; with_reducible exact H) | (have H2_ := (Option.bind_some _ _).symm.trans H; rw [hy208]; with_reducible exact H2_) | (have H2_ := (Option.bind_some _ _).symm.trans H; with_reducible exact H2_) | with_reducible exact H | (rw [hy208]; exact H) | exact H
       have Ny208 := zm hy208
       clear hy208
       have H' := zm H
       clear H
       have p207 : 0 ≤ (x6_1 : Int) := of_decide_eq_true (by first | (with_reducible assumption) | assumption)
       have q207 : x6_1 < (x5_1.length : Int) := of_decide_eq_true (by first | (with_reducible assumption) | assumption)
       obtain ⟨ad207, e207, hx207_0⟩ := Kd.at_int (Kd.R_reads' HO_5.out).2.2 x6_1 p207 q207
       cases e207
       replace p207 := eq_true p207
       replace q207 := eq_true q207
       have p11 : 0 ≤ (x6_1 : Int) := of_decide_eq_true (by first | (with_reducible assumption) | assumption)
       have q11 : (x6_1 : Int) < ((x5_1.length : Int) : Int) := of_decide_eq_true (by first | (with_reducible assumption) | assumption)
       obtain ⟨go11, co11, eo11, gb11, gl11, cl11, HG11⟩ := Kd.R_form HO_5.out (by omega)
       (first | cases eo11 | (injection eo11 with ea_ en_ ec_; (first | subst ea_ | (injection ea_ with ea_; subst ea_)); subst ec_; clear en_))
       have GB11 := zm gb11
       have GG11 := zm HG11
       clear gb11 gl11 HG11
       (first | simp only [add_plain] at hx207_0 | skip)
       obtain ⟨hx11_0, hf11_0⟩ := Kd.R_celln 0 HO_5.out (x6_1 : Int) p11 q11
       replace p11 := eq_true p11
       replace q11 := eq_true q11
       have HP12 := Kd.R_putg HO_5.out (x6_1 : Int) (wrap64 (Int.tmod (IntKind.u64.wrap (x1_1 + (IntKind.u64.wrap (rd x5_1 x6_1)))) 256))
       go_wp2_with (first | ((with_reducible refine gate_store (t := 3) (p := 29) rfl ?_); refine store_event (t := 3) (p := 29) (v := ?vo_w13) (w1 := (wr.setCell ⟨go11, (x6_1 : Int).toNat, none⟩ (.int .i64 (wrap64 (Int.tmod (IntKind.u64.wrap (x1_1 + (IntKind.u64.wrap (rd x5_1 x6_1)))) 256))))) ?hg ?ho ?hn ?hr ?_; (case ho => rfl); (case hg => rfl); (case hn => rfl); (case hr => first | (go_simp; done) | (go_simp; rfl)); intro w13 hw; have hg : wr.grownBy w13 (some go11) := (by rw [hw]; exact HP12.2); have hp_ : Kd.R (Kd.int .i64) 3 w13 w.heap.size (fun _ => True) (.slice (some ⟨go11, 0, none⟩) x5_1.length co7) y208 := (by rw [hw, Ny208.out]; exact HP12.1); clear HP12; have n0_ := zm (hp_); have n1_ := zm ((by rw [hw]; exact zk (HB.out) GB11.out : Below w.heap.size w w13)); clear HO_5; clear HB; have HO_5 := n0_; have HB := n1_; clear n0_ n1_; clear hg hw hp_))
       (try simp only [← hl5_1])
       go_roundg k1
       case measure => have := HK1.out; omega
       case rel => exact ⟨(IntKind.u64.wrap (Int.tdiv (IntKind.u64.wrap (x1_1 + (IntKind.u64.wrap (rd x5_1 x6_1)))) 256)), (y208), (wrap64 (x6_1 - 1)), (by first | rfl | (simp; done) | (simp [*]; done)), (by first | rfl | (simp; done) | (simp [*]; done)), H', ⟨by have := HK1.out; omega⟩, ⟨by (try simp only [hl5_1]); (with_reducible repeat (first | apply zo | apply zp | apply zq)); exact HO_5.out⟩, ⟨by repeat (first | (with_reducible first | exact HB.out | apply ze | apply zd | apply zf) | exact HB.out)⟩⟩
      ·
       rw [if_neg c10] at H
       exact absurd H (by simp)
     ·
      rw [if_neg c9] at H
      exact absurd H (by simp)
    ·
     rw [if_neg c8] at H
     have c8b0 : decide (0 ≤ x6_1) = false := decide_eq_false c8
     clear c8
     obtain rfl := Option.some.inj H
     go_wp2
     go_ret
     exact ⟨_, by first | rfl | (simp [errW_none, errW_some] <;> rfl) | (simp [*, errW_none, errW_some] <;> rfl), by (with_reducible repeat (first | apply zo | apply zp | apply zq)); exact HO_5.out, by repeat (first | (with_reducible first | exact HB.out | apply ze | apply zd | apply zf) | exact HB.out)⟩
 ·
  rw [if_neg c3] at H
  exact absurd H (by simp)

end Go.Proofs.Ytkaoiblgfpphoaa.Prt

namespace Go.Proofs.Ytkaoiblgfpphoaa.Prt
open Go.RowKit Go.Proofs.YtkaoiblgfpphoaaW.PrintWords Go.Proofs.YtkaoiblgfpphoaaW.PrintLast Go.Proofs.YtkaoiblgfpphoaaW.PrintMore
attribute [local go_sem] max2_int min2_int max_two min_two max_three min_three max_four min_four   -- for this text's walks alone
set_option linter.unusedVariables false
set_option linter.unusedSimpArgs false

/-! ### psalteryref05_part: function 55 -/
def psalteryref05_part.f (a0 : Int) (a1 : Int) (a2 : Int) (a3 : Int) : Option (Int × Int) := if (IntKind.u64.wrap (a3)) = 0 then (none) else (if a2 = a3 then (some (IntKind.u64.wrap (a0 - (IntKind.u64.wrap ((IntKind.u64.wrap (Int.tdiv a0 (IntKind.u64.wrap (a3)))) * (IntKind.u64.wrap (a1))))), IntKind.u64.wrap ((IntKind.u64.wrap (Int.tdiv a0 (IntKind.u64.wrap (a3)))) * (IntKind.u64.wrap (a1))))) else (some (IntKind.u64.wrap ((IntKind.u64.wrap (Int.tdiv a0 (IntKind.u64.wrap (a3)))) * (IntKind.u64.wrap (wrap64 (a2 - a1)))), IntKind.u64.wrap ((IntKind.u64.wrap (Int.tdiv a0 (IntKind.u64.wrap (a3)))) * (IntKind.u64.wrap (a1))))))
set_option maxHeartbeats 8000000 in
set_option maxRecDepth 100000 in
theorem psalteryref05_part.calls (a0 : Int) (a1 : Int) (a2 : Int) (a3 : Int) (r1 : Int) (r2 : Int) (w : World) (h : psalteryref05_part.f a0 a1 a2 a3 = some (r1, r2)) :
  Calls Try.prog 55 #[.int .u64 a0, .int .i64 a1, .int .i64 a2, .int .i64 a3] w fun e w' => e = .returned (.tuple #[.int .u64 r1, .int .u64 r2]) ∧ Drawn0 w w' := by
 have H : (if (IntKind.u64.wrap (a3)) = 0 then (none) else (if a2 = a3 then (some (IntKind.u64.wrap (a0 - (IntKind.u64.wrap ((IntKind.u64.wrap (Int.tdiv a0 (IntKind.u64.wrap (a3)))) * (IntKind.u64.wrap (a1))))), IntKind.u64.wrap ((IntKind.u64.wrap (Int.tdiv a0 (IntKind.u64.wrap (a3)))) * (IntKind.u64.wrap (a1))))) else (some (IntKind.u64.wrap ((IntKind.u64.wrap (Int.tdiv a0 (IntKind.u64.wrap (a3)))) * (IntKind.u64.wrap (wrap64 (a2 - a1)))), IntKind.u64.wrap ((IntKind.u64.wrap (Int.tdiv a0 (IntKind.u64.wrap (a3)))) * (IntKind.u64.wrap (a1))))))) = some (r1, r2) := h
 clear h
 by_cases c5 : (IntKind.u64.wrap (a3)) = 0
 ·
  rw [if_pos c5] at H
  exact absurd H (by simp)
 ·
  rw [if_neg c5] at H
  have c5b0 : ((IntKind.u64.wrap (a3)) == 0) = false := beq_eq_false_iff_ne.mpr c5
  have c5b1 : ((IntKind.u64.wrap (a3)) != 0) = true := bne_iff_ne.mpr c5
  by_cases c6 : a2 = a3
  ·
   rw [if_pos c6] at H
   have c6b0 : (a2 == a3) = true := beq_iff_eq.mpr c6
   have c6b1 : (a2 != a3) = false := bne_eq_false_iff_eq.mpr c6
   clear c6
   simp only [Option.some.injEq, Prod.mk.injEq] at H
   obtain ⟨rfl, rfl⟩ := H
   go_enter Try.func55, Try.ntmps55
   go_wp2
   go_ret2
   exact ⟨by first | rfl | (simp; done) | (simp [*]; done), by repeat (first | exact Drawn0.refl _ | apply Drawn0.step)⟩
  ·
   rw [if_neg c6] at H
   have c6b0 : (a2 == a3) = false := beq_eq_false_iff_ne.mpr c6
   have c6b1 : (a2 != a3) = true := bne_iff_ne.mpr c6
   simp only [Option.some.injEq, Prod.mk.injEq] at H
   obtain ⟨rfl, rfl⟩ := H
   go_enter Try.func55, Try.ntmps55
   go_wp2
   go_ret2
   exact ⟨by first | rfl | (simp; done) | (simp [*]; done), by repeat (first | exact Drawn0.refl _ | apply Drawn0.step)⟩

end Go.Proofs.Ytkaoiblgfpphoaa.Prt

namespace Go.Proofs.Ytkaoiblgfpphoaa.Prt
open Go.RowKit Go.Proofs.YtkaoiblgfpphoaaW.PrintWords Go.Proofs.YtkaoiblgfpphoaaW.PrintLast Go.Proofs.YtkaoiblgfpphoaaW.PrintMore
attribute [local go_sem] max2_int min2_int max_two min_two max_three min_three max_four min_four   -- for this text's walks alone
set_option linter.unusedVariables false
set_option linter.unusedSimpArgs false

/-! ### psalteryref05_Put: function 19 -/
def psalteryref05_Put.l0 : Nat → Int → List Int → Option (Int × List Int × Int)
 | 0, _, _ => none
 | k + 1, x218000, x218001 => if x218000 < 16777216 then (if x218001.length < 17592186044416 then (psalteryref05_Put.l0 k (IntKind.u64.wrap (x218000 * 256)) (x218001 ++ [0])) else (none)) else (some (x218000, x218001, 0))
def psalteryref05_Put.f (k : Nat) (a0_0 : Int) (l0_1 : List Int) (a1 : Int) (a2 : Int) (a3 : Int) : Option (Int × List Int × Int) := (psalteryref05_Fair.f a1 a2 a3).bind fun t211 => (if t211 = true then (if (l0_1.length : Int) ≥ 4000 then (some (a0_0, l0_1, 3)) else ((psalteryref05_part.f a0_0 a1 a2 a3).bind fun bt212 => ((psalteryref05_add.f k l0_1 bt212.2).bind fun t214 => (psalteryref05_Put.l0 k bt212.1 t214)))) else (some (a0_0, l0_1, 1)))
theorem psalteryref05_Put.mono_l : ∀ k, (∀ y0 y1, LeO (psalteryref05_Put.l0 k y0 y1) (psalteryref05_Put.l0 (k + 1) y0 y1))
 | 0 => fun _ _ r h => by simp [psalteryref05_Put.l0] at h
 | k + 1 => by
  have ih0 := psalteryref05_Put.mono_l k
  ·
   intro y0 y1
   unfold psalteryref05_Put.l0
   repeat' first
   | (with_reducible exact ih0 _ _)
   | (with_reducible exact psalteryref05_add.mono _ _ _)
   | (with_reducible exact LeO.refl _)
   | (with_reducible exact LeO.none _)
   | (with_reducible refine LeO.ite ?_ ?_)
   | (with_reducible refine LeO.bind ?_ (fun _ => ?_))
   | exact ih0 _ _
   | exact psalteryref05_add.mono _ _ _
   | exact LeO.none _
   | refine LeO.ite ?_ ?_
   | refine LeO.bind ?_ (fun _ => ?_)
theorem psalteryref05_Put.mono : ∀ a0 a1 a2 a3 a4 k, LeO (psalteryref05_Put.f k a0 a1 a2 a3 a4) (psalteryref05_Put.f (k + 1) a0 a1 a2 a3 a4) := by
 intro a0 a1 a2 a3 a4 k
 have ih0 := psalteryref05_Put.mono_l k
 unfold psalteryref05_Put.f
 repeat' first
   | (with_reducible exact ih0 _ _)
   | (with_reducible exact psalteryref05_add.mono _ _ _)
   | (with_reducible exact LeO.refl _)
   | (with_reducible exact LeO.none _)
   | (with_reducible refine LeO.ite ?_ ?_)
   | (with_reducible refine LeO.bind ?_ (fun _ => ?_))
   | exact ih0 _ _
   | exact psalteryref05_add.mono _ _ _
   | exact LeO.none _
   | refine LeO.ite ?_ ?_
   | refine LeO.bind ?_ (fun _ => ?_)
set_option maxHeartbeats 8000000 in
set_option maxRecDepth 100000 in
theorem psalteryref05_Put.calls (k : Nat) (a0_0 : Int) (P0_1_ : Nat → Prop) (A0_1 : Option Addr) (c0_1 : Nat) (l0_1 : List Int) (a1 : Int) (a2 : Int) (a3 : Int) (r1 : Int) (r2 : List Int) (r3 : Int) (w : World) (hs0_1 : Kd.V (Kd.int .i64) 3 w w.heap.size (fun k_ => P0_1_ k_) (.slice A0_1 l0_1.length c0_1) l0_1) (h : psalteryref05_Put.f k a0_0 l0_1 a1 a2 a3 = some (r1, r2, r3)) :
  Calls Try.prog 19 #[.agg #[.int .u64 a0_0, .slice A0_1 l0_1.length c0_1], .int .i64 a1, .int .i64 a2, .int .i64 a3] w fun e w' => ∃ v1_ : Value, e = .returned (.tuple #[.agg #[.int .u64 r1, v1_], .int .i64 r3]) ∧ Kd.V (Kd.int .i64) 3 w' w.heap.size (fun k_ => (P0_1_ k_ ∨ w.heap.size ≤ k_)) v1_ r2 ∧ Below w.heap.size w w' := by
 have hu33 := Try.underlying33
 have HO0_1 := zm (show Kd.V (Kd.int .i64) 3 w w.heap.size (fun k_ => (P0_1_ k_ ∨ w.heap.size ≤ k_)) (.slice A0_1 l0_1.length c0_1) l0_1 from zy hs0_1 (fun k_ hk => .inl hk))
 have HB := zm (Below.refl w.heap.size w)
 have H : ((psalteryref05_Fair.f a1 a2 a3).bind fun t211 => (if t211 = true then (if (l0_1.length : Int) ≥ 4000 then (some (a0_0, l0_1, 3)) else ((psalteryref05_part.f a0_0 a1 a2 a3).bind fun bt212 => ((psalteryref05_add.f k l0_1 bt212.2).bind fun t214 => (psalteryref05_Put.l0 k bt212.1 t214)))) else (some (a0_0, l0_1, 1)))) = some (r1, r2, r3) := h
 clear h
 replace H := Option.bind_eq_some_iff.mp H
 obtain ⟨t211, A50, H⟩ := H
 replace H : (if t211 = true then (if (l0_1.length : Int) ≥ 4000 then (some (a0_0, l0_1, 3)) else ((psalteryref05_part.f a0_0 a1 a2 a3).bind fun bt212 => ((psalteryref05_add.f k l0_1 bt212.2).bind fun t214 => (psalteryref05_Put.l0 k bt212.1 t214)))) else (some (a0_0, l0_1, 1))) = some (r1, r2, r3) := H
 have A5 := zm A50
 clear A50
 by_cases c6 : t211 = true
 ·
  subst c6
  have H1 : (if (l0_1.length : Int) ≥ 4000 then (some (a0_0, l0_1, 3)) else ((psalteryref05_part.f a0_0 a1 a2 a3).bind fun bt212 => ((psalteryref05_add.f k l0_1 bt212.2).bind fun t214 => (psalteryref05_Put.l0 k bt212.1 t214)))) = some (r1, r2, r3) := by rw [if_pos rfl] at H; exact H
  clear H
  have H := H1
  clear H1
  by_cases c7 : (l0_1.length : Int) ≥ 4000
  ·
   rw [if_pos c7] at H
   have c7b0 : decide (4000 ≤ (l0_1.length : Int)) = true := decide_eq_true c7
   have c7b1 : decide (4000 ≤ l0_1.length) = true := decide_eq_true (by omega)
   clear c7
   simp only [Option.some.injEq, Prod.mk.injEq] at H
   obtain ⟨rfl, rfl, rfl⟩ := H
   go_enter Try.func19, Try.ntmps19
   go_wp2_with (first | ((with_reducible refine gate_dst (N := 4) rfl ?_); refine box_event ?hg (N := 4) ?hd (cs := #[.int .u64 a0_0, .slice A0_1 l0_1.length c0_1]) (t := 33) ?hr ?_; (case hd => rfl); (case hg => rfl); (case hr => first | (go_simp; done) | (go_simp; rfl)); intro gb209 hg w8 hbox hb; have n0_ := zm (Kd.V_below (Kd.V_elderB (by (with_reducible repeat (first | apply zA | apply zB | apply zC)); exact HO0_1.out) gb209 (Nat.le_of_eq hg.symm)) hb); have n1_ := zm (zJ (by repeat (first | (with_reducible first | exact HB.out | apply ze | apply zd | apply zf) | exact HB.out)) hb); have n2_ := zm (hbox); have n3_ := zm ((by rw [hg]; exact (zE (by repeat (first | (with_reducible first | exact HB.out | apply ze | apply zd | apply zf) | exact HB.out))) : w.heap.size ≤ gb209)); have n4_ := zm ((by rw [hg]; exact (zE (by repeat (first | (with_reducible first | exact HB.out | apply ze | apply zd | apply zf) | exact HB.out))) : w.heap.size ≤ gb209)); clear HO0_1; clear HB; have HO0_1 := n0_; have HB := n1_; have BK209 := n2_; have GW209 := n3_; have GE209 := n4_; clear n0_ n1_ n2_ n3_ n4_; clear hb hbox hg) | ((with_reducible refine gate_dst (N := 8) rfl ?_); refine box_event ?hg (N := 8) ?hd (cs := #[.int .u64 0, .slice none 0 0]) (t := 33) ?hr ?_; (case hd => rfl); (case hg => rfl); (case hr => first | (go_simp; done) | (go_simp; rfl)); intro gb210 hg w9 hbox hb; have n0_ := zm (Kd.V_below (Kd.V_elderB (by (with_reducible repeat (first | apply zA | apply zB | apply zC)); exact HO0_1.out) gb210 (Nat.le_of_eq hg.symm)) hb); have n1_ := zm (zF (g := gb209) (o := .cells #[.int .u64 a0_0, .slice A0_1 l0_1.length c0_1] 33 (0, 0)) (by (with_reducible repeat (first | refine zh ?_ _ | refine zj ?_ | refine zi ?_ _)); exact BK209.out) hb); have n2_ := zm (zJ (by repeat (first | (with_reducible first | exact HB.out | apply ze | apply zd | apply zf | refine zk ?_ GE209.out) | exact HB.out)) hb); have n3_ := zm (hbox); have n4_ := zm ((by rw [hg]; exact (zE (by repeat (first | (with_reducible first | exact HB.out | apply ze | apply zd | apply zf | refine zk ?_ GE209.out) | exact HB.out))) : w.heap.size ≤ gb210)); have n5_ := zm ((by rw [hg]; exact (zE (by repeat (first | (with_reducible first | exact HB.out | apply ze | apply zd | apply zf | refine zk ?_ GE209.out) | exact HB.out))) : w.heap.size ≤ gb210)); have n6_ := zm ((by rw [hg]; exact zn (zD (g := gb209) (o := .cells #[.int .u64 a0_0, .slice A0_1 l0_1.length c0_1] 33 (0, 0)) (by (with_reducible repeat (first | refine zh ?_ _ | refine zj ?_ | refine zi ?_ _)); exact BK209.out)) : gb209 ≠ gb210)); have n7_ := zm ((by rw [hg]; exact zg (zD (g := gb209) (o := .cells #[.int .u64 a0_0, .slice A0_1 l0_1.length c0_1] 33 (0, 0)) (by (with_reducible repeat (first | refine zh ?_ _ | refine zj ?_ | refine zi ?_ _)); exact BK209.out)) : gb210 ≠ gb209)); clear HO0_1; clear BK209; clear HB; have HO0_1 := n0_; have BK209 := n1_; have HB := n2_; have BK210 := n3_; have GW210 := n4_; have GE210 := n5_; have NB209_210 := n6_; have NB210_209 := n7_; clear n0_ n1_ n2_ n3_ n4_ n5_ n6_ n7_; clear hb hbox hg) | ((with_reducible refine gate_callee (f := 35) rfl ?_); refine goesL_ (some 16) rfl rfl Try.func35 (by kernel_rfl) rfl #[.int .i64 a1, .int .i64 a2, .int .i64 a3] rfl (by (try simp only [List.map_toArray, List.map_cons, List.map_nil]); first | done | rfl | (simp only [List.length_drop, List.length_take]; rfl)) ?_; (with_reducible refine (psalteryref05_Fair.calls a1 a2 a3 true _ A5.out).mono ?_); rintro e w' ⟨rfl, ⟨nd, rfl⟩⟩; refine ⟨_, rfl, ?_⟩; (try (rw [drewN_self w9]; generalize hq_ : World.drewN w9 _ = w9; have n0_ : Aside0 (Kd.V (Kd.int .i64) 3 w9 w.heap.size (fun k_ => (P0_1_ k_ ∨ w.heap.size ≤ k_) ∧ k_ ≠ gb209 ∧ k_ ≠ gb210) (.slice A0_1 l0_1.length c0_1) l0_1) := ⟨by rw [← hq_]; exact (by (with_reducible repeat (first | apply zA | apply zB | apply zC)); exact zy HO0_1.out (fun _ hk => ⟨(by first | exact hk.1.1 | (have h_ := hk; (try simp only [and_assoc] at h_); first | exact h_.1 | exact h_.2 | exact h_.2.1 | exact h_.2.2 | exact h_.2.2.1 | exact h_.2.2.2 | exact h_.2.2.2.1 | exact h_.2.2.2.2)), ⟨(by first | exact hk.1.2 | (have h_ := hk; (try simp only [and_assoc] at h_); first | exact h_.1 | exact h_.2 | exact h_.2.1 | exact h_.2.2 | exact h_.2.2.1 | exact h_.2.2.2 | exact h_.2.2.2.1 | exact h_.2.2.2.2)), (by first | exact hk.2 | (have h_ := hk; (try simp only [and_assoc] at h_); first | exact h_.1 | exact h_.2 | exact h_.2.1 | exact h_.2.2 | exact h_.2.2.1 | exact h_.2.2.2 | exact h_.2.2.2.1 | exact h_.2.2.2.2))⟩⟩))⟩; have n1_ : Aside0 (w9.heap[gb209]? = some (.cells #[.int .u64 a0_0, .slice A0_1 l0_1.length c0_1] 33 (0, 0))) := ⟨by rw [← hq_]; exact (by (with_reducible repeat (first | refine zh ?_ _ | refine zj ?_ | refine zi ?_ _)); exact BK209.out)⟩; have n2_ : Aside0 (w9.heap[gb210]? = some (.cells #[.int .u64 0, .slice none 0 0] 33 (0, 0))) := ⟨by rw [← hq_]; exact (by (with_reducible repeat (first | refine zh ?_ _ | refine zj ?_ | refine zi ?_ _)); exact BK210.out)⟩; have n3_ : Aside0 (Below w.heap.size w w9) := ⟨by rw [← hq_]; exact (by repeat (first | (with_reducible first | exact HB.out | apply ze | apply zd | apply zf | refine zk ?_ GE209.out | refine zk ?_ GE210.out) | exact HB.out))⟩; clear HO0_1 BK209 BK210 HB hq_; have HO0_1 := n0_; have BK209 := n1_; have BK210 := n2_; have HB := n3_; clear n0_ n1_ n2_ n3_)); have hnb10 := NB209_210.out; have hnc10 := NB210_209.out; have hcz11_0 : w9.cell? ⟨gb209, 0, none⟩ = some (.int .u64 a0_0) := (zs BK209.out 0).trans rfl; have hcz11_1 : w9.cell? ⟨gb209, 1, none⟩ = some (.slice A0_1 l0_1.length c0_1) := (zs BK209.out 1).trans rfl; have hfz11_0 := zx BK209.out 0; have hfz11_1 := zx BK209.out 1; have hcz12_0 : w9.cell? ⟨gb210, 0, none⟩ = some (.int .u64 0) := (zs BK210.out 0).trans rfl; have hcz12_1 : w9.cell? ⟨gb210, 1, none⟩ = some (.slice none 0 0) := (zs BK210.out 1).trans rfl; have hfz12_0 := zx BK210.out 0; have hfz12_1 := zx BK210.out 1))
   refine bodyPost_ret (results_ct rfl _ _ gb210 33 #[.int .u64 a0_0, .slice A0_1 l0_1.length c0_1] (0, 0) _ rfl (by (with_reducible repeat (first | refine zh ?_ _ | refine zj ?_ | refine zi ?_ _)); refine zw (cs := #[.int .u64 a0_0, .slice none 0 0]) ?_ 1 _ rfl; (with_reducible repeat (first | refine zh ?_ _ | refine zj ?_ | refine zi ?_ _)); refine zw (cs := #[.int .u64 0, .slice none 0 0]) ?_ 0 _ rfl; (with_reducible repeat (first | refine zh ?_ _ | refine zj ?_ | refine zi ?_ _)); exact BK210.out) Try.underlying33 rfl (by kernel_rfl)) rfl ?_
   exact ⟨_, by first | rfl | (simp [errW_none, errW_some] <;> rfl) | (simp [*, errW_none, errW_some] <;> rfl), by (with_reducible repeat (first | apply zA | apply zB | apply zC)); exact zy (zI (p := ⟨gb210, 1, none⟩) (zI (p := ⟨gb210, 0, none⟩) (zy HO0_1.out (fun k_ hk => (⟨hk, (by first | exact hk.2 | (have h_ := hk; (try simp only [and_assoc] at h_); first | exact h_.1 | exact h_.2 | exact h_.2.1 | exact h_.2.2 | exact h_.2.2.1 | exact h_.2.2.2 | exact h_.2.2.2.1 | exact h_.2.2.2.2))⟩ : _ ∧ k_ ≠ gb210))) (fun _ hk => hk.2) (.int .u64 a0_0)) (fun _ hk => hk.2) (.slice A0_1 l0_1.length c0_1)) (fun _ hk => (by first | exact hk.1.1.1 | (have h_ := hk; (try simp only [and_assoc] at h_); first | exact h_.1 | exact h_.2 | exact h_.2.1 | exact h_.2.2 | exact h_.2.2.1 | exact h_.2.2.2 | exact h_.2.2.2.1 | exact h_.2.2.2.2))), by repeat (first | (with_reducible first | exact HB.out | apply ze | apply zd | apply zf | refine zk ?_ GE209.out | refine zk ?_ GE210.out) | exact HB.out)⟩
  ·
   rw [if_neg c7] at H
   have c7b0 : decide (4000 ≤ (l0_1.length : Int)) = false := decide_eq_false c7
   have c7b1 : decide (4000 ≤ l0_1.length) = false := decide_eq_false (by omega)
   clear c7
   replace H := Option.bind_eq_some_iff.mp H
   obtain ⟨⟨t212, t213⟩, A130, H⟩ := H
   replace H : ((psalteryref05_add.f k l0_1 t213).bind fun t214 => (psalteryref05_Put.l0 k t212 t214)) = some (r1, r2, r3) := H
   have A13 := zm A130
   clear A130
   replace H := Option.bind_eq_some_iff.mp H
   obtain ⟨t214, A140, H⟩ := H
   replace H : (psalteryref05_Put.l0 k t212 t214) = some (r1, r2, r3) := H
   have A14 := zm A140
   clear A140
   have H' := zm H
   clear H
   go_enter Try.func19, Try.ntmps19
   go_wp2_with (first | ((with_reducible refine gate_dst (N := 4) rfl ?_); refine box_event ?hg (N := 4) ?hd (cs := #[.int .u64 a0_0, .slice A0_1 l0_1.length c0_1]) (t := 33) ?hr ?_; (case hd => rfl); (case hg => rfl); (case hr => first | (go_simp; done) | (go_simp; rfl)); intro gb209 hg w15 hbox hb; have n0_ := zm (Kd.V_below (Kd.V_elderB (by (with_reducible repeat (first | apply zA | apply zB | apply zC)); exact HO0_1.out) gb209 (Nat.le_of_eq hg.symm)) hb); have n1_ := zm (zJ (by repeat (first | (with_reducible first | exact HB.out | apply ze | apply zd | apply zf) | exact HB.out)) hb); have n2_ := zm (hbox); have n3_ := zm ((by rw [hg]; exact (zE (by repeat (first | (with_reducible first | exact HB.out | apply ze | apply zd | apply zf) | exact HB.out))) : w.heap.size ≤ gb209)); have n4_ := zm ((by rw [hg]; exact (zE (by repeat (first | (with_reducible first | exact HB.out | apply ze | apply zd | apply zf) | exact HB.out))) : w.heap.size ≤ gb209)); clear HO0_1; clear HB; have HO0_1 := n0_; have HB := n1_; have BK209 := n2_; have GW209 := n3_; have GE209 := n4_; clear n0_ n1_ n2_ n3_ n4_; clear hb hbox hg) | ((with_reducible refine gate_dst (N := 8) rfl ?_); refine box_event ?hg (N := 8) ?hd (cs := #[.int .u64 0, .slice none 0 0]) (t := 33) ?hr ?_; (case hd => rfl); (case hg => rfl); (case hr => first | (go_simp; done) | (go_simp; rfl)); intro gb210 hg w16 hbox hb; have n0_ := zm (Kd.V_below (Kd.V_elderB (by (with_reducible repeat (first | apply zA | apply zB | apply zC)); exact HO0_1.out) gb210 (Nat.le_of_eq hg.symm)) hb); have n1_ := zm (zF (g := gb209) (o := .cells #[.int .u64 a0_0, .slice A0_1 l0_1.length c0_1] 33 (0, 0)) (by (with_reducible repeat (first | refine zh ?_ _ | refine zj ?_ | refine zi ?_ _)); exact BK209.out) hb); have n2_ := zm (zJ (by repeat (first | (with_reducible first | exact HB.out | apply ze | apply zd | apply zf | refine zk ?_ GE209.out) | exact HB.out)) hb); have n3_ := zm (hbox); have n4_ := zm ((by rw [hg]; exact (zE (by repeat (first | (with_reducible first | exact HB.out | apply ze | apply zd | apply zf | refine zk ?_ GE209.out) | exact HB.out))) : w.heap.size ≤ gb210)); have n5_ := zm ((by rw [hg]; exact (zE (by repeat (first | (with_reducible first | exact HB.out | apply ze | apply zd | apply zf | refine zk ?_ GE209.out) | exact HB.out))) : w.heap.size ≤ gb210)); have n6_ := zm ((by rw [hg]; exact zn (zD (g := gb209) (o := .cells #[.int .u64 a0_0, .slice A0_1 l0_1.length c0_1] 33 (0, 0)) (by (with_reducible repeat (first | refine zh ?_ _ | refine zj ?_ | refine zi ?_ _)); exact BK209.out)) : gb209 ≠ gb210)); have n7_ := zm ((by rw [hg]; exact zg (zD (g := gb209) (o := .cells #[.int .u64 a0_0, .slice A0_1 l0_1.length c0_1] 33 (0, 0)) (by (with_reducible repeat (first | refine zh ?_ _ | refine zj ?_ | refine zi ?_ _)); exact BK209.out)) : gb210 ≠ gb209)); clear HO0_1; clear BK209; clear HB; have HO0_1 := n0_; have BK209 := n1_; have HB := n2_; have BK210 := n3_; have GW210 := n4_; have GE210 := n5_; have NB209_210 := n6_; have NB210_209 := n7_; clear n0_ n1_ n2_ n3_ n4_ n5_ n6_ n7_; clear hb hbox hg) | ((with_reducible refine gate_callee (f := 35) rfl ?_); refine goesL_ (some 16) rfl rfl Try.func35 (by kernel_rfl) rfl #[.int .i64 a1, .int .i64 a2, .int .i64 a3] rfl (by (try simp only [List.map_toArray, List.map_cons, List.map_nil]); first | done | rfl | (simp only [List.length_drop, List.length_take]; rfl)) ?_; (with_reducible refine (psalteryref05_Fair.calls a1 a2 a3 true _ A5.out).mono ?_); rintro e w' ⟨rfl, ⟨nd, rfl⟩⟩; refine ⟨_, rfl, ?_⟩; (try (rw [drewN_self w16]; generalize hq_ : World.drewN w16 _ = w16; have n0_ : Aside0 (Kd.V (Kd.int .i64) 3 w16 w.heap.size (fun k_ => (P0_1_ k_ ∨ w.heap.size ≤ k_) ∧ k_ ≠ gb209 ∧ k_ ≠ gb210) (.slice A0_1 l0_1.length c0_1) l0_1) := ⟨by rw [← hq_]; exact (by (with_reducible repeat (first | apply zA | apply zB | apply zC)); exact zy HO0_1.out (fun _ hk => ⟨(by first | exact hk.1.1 | (have h_ := hk; (try simp only [and_assoc] at h_); first | exact h_.1 | exact h_.2 | exact h_.2.1 | exact h_.2.2 | exact h_.2.2.1 | exact h_.2.2.2 | exact h_.2.2.2.1 | exact h_.2.2.2.2)), ⟨(by first | exact hk.1.2 | (have h_ := hk; (try simp only [and_assoc] at h_); first | exact h_.1 | exact h_.2 | exact h_.2.1 | exact h_.2.2 | exact h_.2.2.1 | exact h_.2.2.2 | exact h_.2.2.2.1 | exact h_.2.2.2.2)), (by first | exact hk.2 | (have h_ := hk; (try simp only [and_assoc] at h_); first | exact h_.1 | exact h_.2 | exact h_.2.1 | exact h_.2.2 | exact h_.2.2.1 | exact h_.2.2.2 | exact h_.2.2.2.1 | exact h_.2.2.2.2))⟩⟩))⟩; have n1_ : Aside0 (w16.heap[gb209]? = some (.cells #[.int .u64 a0_0, .slice A0_1 l0_1.length c0_1] 33 (0, 0))) := ⟨by rw [← hq_]; exact (by (with_reducible repeat (first | refine zh ?_ _ | refine zj ?_ | refine zi ?_ _)); exact BK209.out)⟩; have n2_ : Aside0 (w16.heap[gb210]? = some (.cells #[.int .u64 0, .slice none 0 0] 33 (0, 0))) := ⟨by rw [← hq_]; exact (by (with_reducible repeat (first | refine zh ?_ _ | refine zj ?_ | refine zi ?_ _)); exact BK210.out)⟩; have n3_ : Aside0 (Below w.heap.size w w16) := ⟨by rw [← hq_]; exact (by repeat (first | (with_reducible first | exact HB.out | apply ze | apply zd | apply zf | refine zk ?_ GE209.out | refine zk ?_ GE210.out) | exact HB.out))⟩; clear HO0_1 BK209 BK210 HB hq_; have HO0_1 := n0_; have BK209 := n1_; have BK210 := n2_; have HB := n3_; clear n0_ n1_ n2_ n3_)); have hnb17 := NB209_210.out; have hnc17 := NB210_209.out; have hcz18_0 : w16.cell? ⟨gb209, 0, none⟩ = some (.int .u64 a0_0) := (zs BK209.out 0).trans rfl; have hcz18_1 : w16.cell? ⟨gb209, 1, none⟩ = some (.slice A0_1 l0_1.length c0_1) := (zs BK209.out 1).trans rfl; have hfz18_0 := zx BK209.out 0; have hfz18_1 := zx BK209.out 1) | ((with_reducible refine gate_callee (f := 55) rfl ?_); refine goesL_ (some 30) rfl rfl Try.func55 (by kernel_rfl) rfl #[.int .u64 a0_0, .int .i64 a1, .int .i64 a2, .int .i64 a3] rfl (by (try simp only [List.map_toArray, List.map_cons, List.map_nil]); first | done | rfl | (simp only [List.length_drop, List.length_take]; rfl)) ?_; (with_reducible refine (psalteryref05_part.calls a0_0 a1 a2 a3 t212 t213 _ A13.out).mono ?_); rintro e w' ⟨rfl, ⟨nd, rfl⟩⟩; refine ⟨_, rfl, ?_⟩; (try (rw [drewN_self w16]; generalize hq_ : World.drewN w16 _ = w16; have n0_ : Aside0 (Kd.V (Kd.int .i64) 3 w16 w.heap.size (fun k_ => (P0_1_ k_ ∨ w.heap.size ≤ k_) ∧ k_ ≠ gb209 ∧ k_ ≠ gb210) (.slice A0_1 l0_1.length c0_1) l0_1) := ⟨by rw [← hq_]; exact (by (with_reducible repeat (first | apply zA | apply zB | apply zC)); exact zy HO0_1.out (fun _ hk => ⟨(by first | exact hk.1.1 | (have h_ := hk; (try simp only [and_assoc] at h_); first | exact h_.1 | exact h_.2 | exact h_.2.1 | exact h_.2.2 | exact h_.2.2.1 | exact h_.2.2.2 | exact h_.2.2.2.1 | exact h_.2.2.2.2)), ⟨(by first | exact hk.1.2 | (have h_ := hk; (try simp only [and_assoc] at h_); first | exact h_.1 | exact h_.2 | exact h_.2.1 | exact h_.2.2 | exact h_.2.2.1 | exact h_.2.2.2 | exact h_.2.2.2.1 | exact h_.2.2.2.2)), (by first | exact hk.2 | (have h_ := hk; (try simp only [and_assoc] at h_); first | exact h_.1 | exact h_.2 | exact h_.2.1 | exact h_.2.2 | exact h_.2.2.1 | exact h_.2.2.2 | exact h_.2.2.2.1 | exact h_.2.2.2.2))⟩⟩))⟩; have n1_ : Aside0 (w16.heap[gb209]? = some (.cells #[.int .u64 a0_0, .slice A0_1 l0_1.length c0_1] 33 (0, 0))) := ⟨by rw [← hq_]; exact (by (with_reducible repeat (first | refine zh ?_ _ | refine zj ?_ | refine zi ?_ _)); exact BK209.out)⟩; have n2_ : Aside0 (w16.heap[gb210]? = some (.cells #[.int .u64 0, .slice none 0 0] 33 (0, 0))) := ⟨by rw [← hq_]; exact (by (with_reducible repeat (first | refine zh ?_ _ | refine zj ?_ | refine zi ?_ _)); exact BK210.out)⟩; have n3_ : Aside0 (Below w.heap.size w w16) := ⟨by rw [← hq_]; exact (by repeat (first | (with_reducible first | exact HB.out | apply ze | apply zd | apply zf | refine zk ?_ GE209.out | refine zk ?_ GE210.out) | exact HB.out))⟩; clear HO0_1 BK209 BK210 HB hq_; have HO0_1 := n0_; have BK209 := n1_; have BK210 := n2_; have HB := n3_; clear n0_ n1_ n2_ n3_)); have hcz19_0 : w16.cell? ⟨gb209, 0, none⟩ = some (.int .u64 a0_0) := (zs BK209.out 0).trans rfl; have hcz19_1 : w16.cell? ⟨gb209, 1, none⟩ = some (.slice A0_1 l0_1.length c0_1) := (zs BK209.out 1).trans rfl; have hfz19_0 := zx BK209.out 0; have hfz19_1 := zx BK209.out 1) | ((with_reducible refine gate_callee (f := 56) rfl ?_); refine goesL_ (some 37) rfl rfl Try.func56 (by kernel_rfl) rfl #[.slice A0_1 l0_1.length c0_1, .int .u64 t213] rfl (by (try simp only [List.map_toArray, List.map_cons, List.map_nil]); first | done | rfl | (simp only [List.length_drop, List.length_take]; rfl)) ?_; (with_reducible refine (psalteryref05_add.calls k _ _ l0_1 t213 t214 _ ?side1 ?side2 A14.out).mono ?_); (case side1 => repeat (first | exact (Kd.V_reads' HO0_1.out).2.2 | (with_reducible refine Kd.C_alloc ?_ _) | (with_reducible refine Kd.C_drewN ?_ _) | (with_reducible refine Kd.C_drew ?_))); (case side2 => exact (Kd.V_reads' HO0_1.out).2.1); rintro e w20 ⟨v215, rfl, ho0, hb⟩; refine ⟨_, rfl, ?_⟩; have n0_ := zm (Kd.V_elder' (by (with_reducible repeat (first | apply zA | apply zB | apply zC)); exact HO0_1.out) (Kd.R_base ho0) hb); have n1_ := zm (Kd.R_lower (Kd.R_newM (M := fun k_ => (w.heap.size ≤ k_)) ho0 (zE (by repeat (first | (with_reducible first | exact HB.out | apply ze | apply zd | apply zf | refine zk ?_ GE209.out | refine zk ?_ GE210.out) | exact HB.out))) (fun k_ h_ => h_)) (zE (by repeat (first | (with_reducible first | exact HB.out | apply ze | apply zd | apply zf | refine zk ?_ GE209.out | refine zk ?_ GE210.out) | exact HB.out)))); have n2_ := zm (zF (g := gb209) (o := .cells #[.int .u64 a0_0, .slice A0_1 l0_1.length c0_1] 33 (0, 0)) (by (with_reducible repeat (first | refine zh ?_ _ | refine zj ?_ | refine zi ?_ _)); exact BK209.out) hb); have n3_ := zm (zF (g := gb210) (o := .cells #[.int .u64 0, .slice none 0 0] 33 (0, 0)) (by (with_reducible repeat (first | refine zh ?_ _ | refine zj ?_ | refine zi ?_ _)); exact BK210.out) hb); have n4_ := zm (zJ (by repeat (first | (with_reducible first | exact HB.out | apply ze | apply zd | apply zf | refine zk ?_ GE209.out | refine zk ?_ GE210.out) | exact HB.out)) hb); clear HO0_1; clear BK209; clear BK210; clear HB; have HO0_1 := n0_; have HO216 := n1_; have BK209 := n2_; have BK210 := n3_; have HB := n4_; clear n0_ n1_ n2_ n3_ n4_; (try clear hb); (try clear hb2); (try clear hk); (try clear hi); (try clear ho0); obtain ⟨Ao21, co21, eo21⟩ := Kd.R_slice HO216.out; subst eo21) | ((with_reducible refine gate_dst (N := 12) rfl ?_); refine box_event ?hg (N := 12) ?hd (cs := #[.int .u64 0, .slice none 0 0]) (t := 33) ?hr ?_; (case hd => rfl); (case hg => rfl); (case hr => first | (go_simp; done) | (go_simp; rfl)); intro gb217 hg w22 hbox hb; have n0_ := zm (Kd.V_below (Kd.V_elderB (by (with_reducible repeat (first | apply zA | apply zB | apply zC)); exact HO0_1.out) gb217 (Nat.le_of_eq hg.symm)) hb); have n1_ := zm (Kd.R_below (by (with_reducible repeat (first | apply zo | apply zp | apply zq)); exact HO216.out) hb); have n2_ := zm (zF (g := gb209) (o := .cells #[.int .u64 a0_0, .slice A0_1 l0_1.length c0_1] 33 (0, 0)) (by (with_reducible repeat (first | refine zh ?_ _ | refine zj ?_ | refine zi ?_ _)); exact BK209.out) hb); have n3_ := zm (zF (g := gb210) (o := .cells #[.int .u64 0, .slice none 0 0] 33 (0, 0)) (by (with_reducible repeat (first | refine zh ?_ _ | refine zj ?_ | refine zi ?_ _)); exact BK210.out) hb); have n4_ := zm (zJ (by repeat (first | (with_reducible first | exact HB.out | apply ze | apply zd | apply zf | refine zk ?_ GE209.out | refine zk ?_ GE210.out) | exact HB.out)) hb); have n5_ := zm (hbox); have n6_ := zm ((by rw [hg]; exact (zE (by repeat (first | (with_reducible first | exact HB.out | apply ze | apply zd | apply zf | refine zk ?_ GE209.out | refine zk ?_ GE210.out) | exact HB.out))) : w.heap.size ≤ gb217)); have n7_ := zm ((by rw [hg]; exact (zE (by repeat (first | (with_reducible first | exact HB.out | apply ze | apply zd | apply zf | refine zk ?_ GE209.out | refine zk ?_ GE210.out) | exact HB.out))) : w.heap.size ≤ gb217)); have n8_ := zm ((by rw [hg]; exact zn (zD (g := gb209) (o := .cells #[.int .u64 a0_0, .slice A0_1 l0_1.length c0_1] 33 (0, 0)) (by (with_reducible repeat (first | refine zh ?_ _ | refine zj ?_ | refine zi ?_ _)); exact BK209.out)) : gb209 ≠ gb217)); have n9_ := zm ((by rw [hg]; exact zg (zD (g := gb209) (o := .cells #[.int .u64 a0_0, .slice A0_1 l0_1.length c0_1] 33 (0, 0)) (by (with_reducible repeat (first | refine zh ?_ _ | refine zj ?_ | refine zi ?_ _)); exact BK209.out)) : gb217 ≠ gb209)); have n10_ := zm ((by rw [hg]; exact zn (zD (g := gb210) (o := .cells #[.int .u64 0, .slice none 0 0] 33 (0, 0)) (by (with_reducible repeat (first | refine zh ?_ _ | refine zj ?_ | refine zi ?_ _)); exact BK210.out)) : gb210 ≠ gb217)); have n11_ := zm ((by rw [hg]; exact zg (zD (g := gb210) (o := .cells #[.int .u64 0, .slice none 0 0] 33 (0, 0)) (by (with_reducible repeat (first | refine zh ?_ _ | refine zj ?_ | refine zi ?_ _)); exact BK210.out)) : gb217 ≠ gb210)); clear HO0_1; clear HO216; clear BK209; clear BK210; clear HB; have HO0_1 := n0_; have HO216 := n1_; have BK209 := n2_; have BK210 := n3_; have HB := n4_; have BK217 := n5_; have GW217 := n6_; have GE217 := n7_; have NB209_217 := n8_; have NB217_209 := n9_; have NB210_217 := n10_; have NB217_210 := n11_; clear n0_ n1_ n2_ n3_ n4_ n5_ n6_ n7_ n8_ n9_ n10_ n11_; clear hb hbox hg; have hnb23 := NB217_209.out; have hnc23 := NB209_217.out; have hnb24 := NB217_210.out; have hnc24 := NB210_217.out; have hcz25_0 : w22.cell? ⟨gb217, 0, none⟩ = some (.int .u64 0) := (zs BK217.out 0).trans rfl; have hcz25_1 : w22.cell? ⟨gb217, 1, none⟩ = some (.slice none 0 0) := (zs BK217.out 1).trans rfl; have hfz25_0 := zx BK217.out 0; have hfz25_1 := zx BK217.out 1))
   go_loopg [] k (fun kq w' => ∃ (x218000_1 : Int) (x218001_1 : List Int) (u218001 : Value), Aside0 (psalteryref05_Put.l0 kq x218000_1 x218001_1 = some (r1, r2, r3)) ∧ Aside0 (kq ≤ k) ∧ Aside0 (Kd.V (Kd.int .i64) 3 w' w.heap.size (fun k_ => (P0_1_ k_ ∨ w.heap.size ≤ k_) ∧ some k_ ≠ (u218001 : Value).ownBlock ∧ k_ ≠ gb209 ∧ k_ ≠ gb210 ∧ k_ ≠ gb217) (.slice A0_1 l0_1.length c0_1) l0_1) ∧ Aside0 (Kd.R (Kd.int .i64) 3 w' w.heap.size (fun k_ => (w.heap.size ≤ k_)) u218001 x218001_1) ∧ Aside0 (w'.heap[gb209]? = some (.cells #[.int .u64 a0_0, (.slice A0_1 l0_1.length c0_1)] 33 (0, 0))) ∧ Aside0 (w'.heap[gb210]? = some (.cells #[.int .u64 0, (.slice none 0 0)] 33 (0, 0))) ∧ Aside0 (w'.heap[gb217]? = some (.cells #[.int .u64 x218000_1, u218001] 33 (0, 0))) ∧ Aside0 (Below w.heap.size w w'))
   case atStart => exact ⟨(t212), (t214), (.slice Ao21 t214.length co21), H', ⟨Nat.le_refl _⟩, ⟨by (with_reducible repeat (first | apply zA | apply zB | apply zC)); exact zy (zI (p := ⟨gb217, 1, none⟩) (zI (p := ⟨gb217, 0, none⟩) (zy HO0_1.out (fun k_ hk => (⟨hk, (by first | exact hk.2 | (have h_ := hk; (try simp only [and_assoc] at h_); first | exact h_.1 | exact h_.2 | exact h_.2.1 | exact h_.2.2 | exact h_.2.2.1 | exact h_.2.2.2 | exact h_.2.2.2.1 | exact h_.2.2.2.2))⟩ : _ ∧ k_ ≠ gb217))) (fun _ hk => hk.2) (.int .u64 t212)) (fun _ hk => hk.2) (.slice Ao21 t214.length co21)) (fun _ hk => ⟨(by first | exact hk.1.1.1.1.1 | (have h_ := hk; (try simp only [and_assoc] at h_); first | exact h_.1 | exact h_.2 | exact h_.2.1 | exact h_.2.2 | exact h_.2.2.1 | exact h_.2.2.2 | exact h_.2.2.2.1 | exact h_.2.2.2.2)), ⟨(by first | exact hk.1.1.2 | (have h_ := hk; (try simp only [and_assoc] at h_); first | exact h_.1 | exact h_.2 | exact h_.2.1 | exact h_.2.2 | exact h_.2.2.1 | exact h_.2.2.2 | exact h_.2.2.2.1 | exact h_.2.2.2.2)), ⟨(by first | exact hk.1.1.1.1.2 | (have h_ := hk; (try simp only [and_assoc] at h_); first | exact h_.1 | exact h_.2 | exact h_.2.1 | exact h_.2.2 | exact h_.2.2.1 | exact h_.2.2.2 | exact h_.2.2.2.1 | exact h_.2.2.2.2)), ⟨(by first | exact hk.1.1.1.2 | (have h_ := hk; (try simp only [and_assoc] at h_); first | exact h_.1 | exact h_.2 | exact h_.2.1 | exact h_.2.2 | exact h_.2.2.1 | exact h_.2.2.2 | exact h_.2.2.2.1 | exact h_.2.2.2.2)), (by first | exact hk.1.2 | (have h_ := hk; (try simp only [and_assoc] at h_); first | exact h_.1 | exact h_.2 | exact h_.2.1 | exact h_.2.2 | exact h_.2.2.1 | exact h_.2.2.2 | exact h_.2.2.2.1 | exact h_.2.2.2.2))⟩⟩⟩⟩)⟩, ⟨by (with_reducible repeat (first | apply zo | apply zp | apply zq)); exact zG (zH (p := ⟨gb217, 1, none⟩) (zH (p := ⟨gb217, 0, none⟩) (Kd.R_types HO216.out BK217.out (by decide)) (fun _ hk => hk.2) (.int .u64 t212)) (fun _ hk => hk.2) (.slice Ao21 t214.length co21)) (fun _ hk => (by first | exact hk.1.1 | (have h_ := hk; (try simp only [and_assoc] at h_); first | exact h_.1 | exact h_.2 | exact h_.2.1 | exact h_.2.2 | exact h_.2.2.1 | exact h_.2.2.2 | exact h_.2.2.2.1 | exact h_.2.2.2.2)))⟩, ⟨by (with_reducible repeat (first | refine zh ?_ _ | refine zj ?_ | refine zi ?_ _)); refine zv ?_ NB209_217.out _; (with_reducible repeat (first | refine zh ?_ _ | refine zj ?_ | refine zi ?_ _)); refine zv ?_ NB209_217.out _; (with_reducible repeat (first | refine zh ?_ _ | refine zj ?_ | refine zi ?_ _)); exact BK209.out⟩, ⟨by (with_reducible repeat (first | refine zh ?_ _ | refine zj ?_ | refine zi ?_ _)); refine zv ?_ NB210_217.out _; (with_reducible repeat (first | refine zh ?_ _ | refine zj ?_ | refine zi ?_ _)); refine zv ?_ NB210_217.out _; (with_reducible repeat (first | refine zh ?_ _ | refine zj ?_ | refine zi ?_ _)); exact BK210.out⟩, ⟨by (with_reducible repeat (first | refine zh ?_ _ | refine zj ?_ | refine zi ?_ _)); refine zw (cs := #[.int .u64 t212, .slice none 0 0]) ?_ 1 _ rfl; (with_reducible repeat (first | refine zh ?_ _ | refine zj ?_ | refine zi ?_ _)); refine zw (cs := #[.int .u64 0, .slice none 0 0]) ?_ 0 _ rfl; (with_reducible repeat (first | refine zh ?_ _ | refine zj ?_ | refine zi ?_ _)); exact BK217.out⟩, ⟨by repeat (first | (with_reducible first | exact HB.out | apply ze | apply zd | apply zf | refine zk ?_ GE209.out | refine zk ?_ GE210.out | refine zk ?_ GE217.out) | exact HB.out)⟩⟩
   case round =>
    clear H'
    try clear c1
    try clear c2
    try clear p2
    try clear c3
    try clear c5
    try clear c6
    try clear c7
    try clear c7b0
    try clear c7b1
    try clear c10
    try clear c17
    try clear c19
    try clear c23
    try clear c24
    try clear hcz11_0
    try clear hcz11_1
    try clear hcz12_0
    try clear hcz12_1
    try clear hcz18_0
    try clear hcz18_1
    try clear hcz19_0
    try clear hcz19_1
    try clear hcz25_0
    try clear hcz25_1
    try clear hfz11_0
    try clear hfz11_1
    try clear hfz12_0
    try clear hfz12_1
    try clear hfz18_0
    try clear hfz18_1
    try clear hfz19_0
    try clear hfz19_1
    try clear hfz25_0
    try clear hfz25_1
    obtain ⟨x218000_1, x218001_1, u218001, HA, HK1, HO_210001, HO_218001, BK209, BK210, BK217, HB⟩ := hrel
    cases gk with
    | zero => exact absurd HA.out (by simp [psalteryref05_Put.l0])
    | succ k1 =>
     have H := HA.out
     clear HA
     simp only [psalteryref05_Put.l0] at H
     by_cases c26 : x218000_1 < 16777216
     ·
      rw [if_pos c26] at H
      have c26b0 : decide (x218000_1 < 16777216) = true := decide_eq_true c26
      clear c26
      by_cases c27 : x218001_1.length < 17592186044416
      ·
       rw [if_pos c27] at H
       have LMc27 := zm c27
       clear c27
       obtain ⟨y218, hy218⟩ : ∃ y_ : List Int, y_ = (x218001_1 ++ [0]) := ⟨_, rfl⟩
       replace H : (psalteryref05_Put.l0 k1 (IntKind.u64.wrap (x218000_1 * 256)) y218) = some (r1, r2, r3) := by first | (rw [hy218]; with_reducible exact H) | (have H2_ := (Option.bind_some _ _).symm.trans H; rw [hy218]; with_reducible exact H2_) | (have H2_ := (Option.bind_some _ _).symm.trans H; with_reducible exact H2_) | with_reducible exact H | (rw [hy218]; exact H) | exact H
       have Ny218 := zm hy218
       clear hy218
       have H' := zm H
       clear H
       have hnb28 := NB217_209.out
       have hnc28 := NB209_217.out
       have hnb29 := NB217_210.out
       have hnc29 := NB210_217.out
       have hcz30_0 : wr.cell? ⟨gb217, 0, none⟩ = some (.int .u64 x218000_1) := (zs BK217.out 0).trans rfl
       have hcz30_1 : wr.cell? ⟨gb217, 1, none⟩ = some (u218001) := (zs BK217.out 1).trans rfl
       have hfz30_0 := zx BK217.out 0
       have hfz30_1 := zx BK217.out 1
       go_wp2_with (first | ((with_reducible refine gate_builtin (b := .append) (xs := #[.tmp 47, .tmp 48]) rfl ?_); at_builtin; refine Kd.R_append (Kd.int .i64) (w0 := w) w.heap.size rfl (.tmp 47) (.tmp 48) 31 3 (.int .i64 0) 8 rfl Try.underlying31 info3 rfl (by decide) (by omega) u218001 x218001_1 0 [.int .i64 0] (fun k_ => (w.heap.size ≤ k_)) (fun _ => False) rfl (by first | (go_simp; done) | (go_simp; rfl)) ?aP (fun _ hk => hk.elim) ?aF ?aO ?aB ?aS ?aL ?_; (case aP => exact rfl); (case aB => exact (by repeat (first | (with_reducible first | exact HB.out | apply ze | apply zd | apply zf | refine zk ?_ GE209.out | refine zk ?_ GE210.out | refine zk ?_ GE217.out) | exact HB.out))); (case aF => exact (fun k_ hk => (Nat.le_trans (zE (by repeat (first | (with_reducible first | exact HB.out | apply ze | apply zd | apply zf | refine zk ?_ GE209.out | refine zk ?_ GE210.out | refine zk ?_ GE217.out) | exact HB.out))) hk))); (case aO => exact (by (with_reducible repeat (first | apply zo | apply zp | apply zq)); exact zG (zH (p := ⟨gb217, 0, none⟩) (Kd.R_types HO_218001.out BK217.out (by decide)) (fun _ hk => hk.2) (.int .u64 (IntKind.u64.wrap (x218000_1 * 256)))) (fun _ hk => (by first | exact hk.1 | (have h_ := hk; (try simp only [and_assoc] at h_); first | exact h_.1 | exact h_.2 | exact h_.2.1 | exact h_.2.2 | exact h_.2.2.1 | exact h_.2.2.2 | exact h_.2.2.2.1 | exact h_.2.2.2.2))))); (case aS => exact (zE (by repeat (first | (with_reducible first | exact HB.out | apply ze | apply zd | apply zf | refine zk ?_ GE209.out | refine zk ?_ GE210.out | refine zk ?_ GE217.out) | exact HB.out)))); (case aL => have := LMc27.out; omega); intro v219 w31 ho hb hg hat; rw [← Ny218.out] at ho; have n0_ := zm (Kd.V_afterv (ok := (fun k_ => (P0_1_ k_ ∨ w.heap.size ≤ k_) ∧ k_ ≠ gb209 ∧ k_ ≠ gb210 ∧ k_ ≠ gb217)) (by (with_reducible repeat (first | apply zA | apply zB | apply zC)); exact zy (zI (p := ⟨gb217, 0, none⟩) (zy HO_210001.out (fun k_ hk => (⟨hk, (by first | exact hk.2.2.2.2 | (have h_ := hk; (try simp only [and_assoc] at h_); first | exact h_.1 | exact h_.2 | exact h_.2.1 | exact h_.2.2 | exact h_.2.2.1 | exact h_.2.2.2 | exact h_.2.2.2.1 | exact h_.2.2.2.2))⟩ : _ ∧ k_ ≠ gb217))) (fun _ hk => hk.2) (.int .u64 (IntKind.u64.wrap (x218000_1 * 256)))) (fun _ hk => ⟨⟨(by first | exact hk.1.1 | (have h_ := hk; (try simp only [and_assoc] at h_); first | exact h_.1 | exact h_.2 | exact h_.2.1 | exact h_.2.2 | exact h_.2.2.1 | exact h_.2.2.2 | exact h_.2.2.2.1 | exact h_.2.2.2.2)), ⟨(by first | exact hk.1.2.2.1 | (have h_ := hk; (try simp only [and_assoc] at h_); first | exact h_.1 | exact h_.2 | exact h_.2.1 | exact h_.2.2 | exact h_.2.2.1 | exact h_.2.2.2 | exact h_.2.2.2.1 | exact h_.2.2.2.2)), ⟨(by first | exact hk.1.2.2.2.1 | (have h_ := hk; (try simp only [and_assoc] at h_); first | exact h_.1 | exact h_.2 | exact h_.2.1 | exact h_.2.2 | exact h_.2.2.1 | exact h_.2.2.2 | exact h_.2.2.2.1 | exact h_.2.2.2.2)), (by first | exact hk.1.2.2.2.2 | (have h_ := hk; (try simp only [and_assoc] at h_); first | exact h_.1 | exact h_.2 | exact h_.2.1 | exact h_.2.2 | exact h_.2.2.1 | exact h_.2.2.2 | exact h_.2.2.2.1 | exact h_.2.2.2.2))⟩⟩⟩, (by first | exact hk.1.2.1 | (have h_ := hk; (try simp only [and_assoc] at h_); first | exact h_.1 | exact h_.2 | exact h_.2.1 | exact h_.2.2 | exact h_.2.2.1 | exact h_.2.2.2 | exact h_.2.2.2.1 | exact h_.2.2.2.2))⟩)) hg hat); have n1_ := zm (blk_grown (g := gb209) (o := .cells #[.int .u64 a0_0, .slice A0_1 l0_1.length c0_1] 33 (0, 0)) (by (with_reducible repeat (first | refine zh ?_ _ | refine zj ?_ | refine zi ?_ _)); refine zv ?_ NB209_217.out _; (with_reducible repeat (first | refine zh ?_ _ | refine zj ?_ | refine zi ?_ _)); exact BK209.out) hg (zu HO_218001.out BK209.out (by decide))); have n2_ := zm (blk_grown (g := gb210) (o := .cells #[.int .u64 0, .slice none 0 0] 33 (0, 0)) (by (with_reducible repeat (first | refine zh ?_ _ | refine zj ?_ | refine zi ?_ _)); refine zv ?_ NB210_217.out _; (with_reducible repeat (first | refine zh ?_ _ | refine zj ?_ | refine zi ?_ _)); exact BK210.out) hg (zu HO_218001.out BK210.out (by decide))); have n3_ := zm (blk_grown (g := gb217) (o := .cells #[.int .u64 (IntKind.u64.wrap (x218000_1 * 256)), u218001] 33 (0, 0)) (by (with_reducible repeat (first | refine zh ?_ _ | refine zj ?_ | refine zi ?_ _)); refine zw (cs := #[.int .u64 x218000_1, u218001]) ?_ 0 _ rfl; (with_reducible repeat (first | refine zh ?_ _ | refine zj ?_ | refine zi ?_ _)); exact BK217.out) hg (zu HO_218001.out BK217.out (by decide))); have n4_ := zm (hb); have n5_ := zm (ho); clear HO_210001; clear BK209; clear BK210; clear BK217; clear HB; clear HO_218001; have HO_210001 := n0_; have BK209 := n1_; have BK210 := n2_; have BK217 := n3_; have HB := n4_; have HO220 := n5_; clear n0_ n1_ n2_ n3_ n4_ n5_; clear ho hb hg hat; obtain ⟨Ao32, co32, eo32⟩ := Kd.R_slice HO220.out; subst eo32; have hcz33_0 : w31.cell? ⟨gb217, 0, none⟩ = some (.int .u64 (IntKind.u64.wrap (x218000_1 * 256))) := (zs BK217.out 0).trans rfl; have hcz33_1 : w31.cell? ⟨gb217, 1, none⟩ = some (u218001) := (zs BK217.out 1).trans rfl; have hfz33_0 := zx BK217.out 0; have hfz33_1 := zx BK217.out 1))
       go_roundg k1
       case measure => have := HK1.out; omega
       case rel => exact ⟨(IntKind.u64.wrap (x218000_1 * 256)), (y218), (.slice Ao32 y218.length co32), H', ⟨by have := HK1.out; omega⟩, ⟨by (with_reducible repeat (first | apply zA | apply zB | apply zC)); exact zy (zI (p := ⟨gb217, 1, none⟩) (zy HO_210001.out (fun k_ hk => (⟨hk, (by first | exact hk.1.2.2.2 | (have h_ := hk; (try simp only [and_assoc] at h_); first | exact h_.1 | exact h_.2 | exact h_.2.1 | exact h_.2.2 | exact h_.2.2.1 | exact h_.2.2.2 | exact h_.2.2.2.1 | exact h_.2.2.2.2))⟩ : _ ∧ k_ ≠ gb217))) (fun _ hk => hk.2) (.slice Ao32 y218.length co32)) (fun _ hk => ⟨(by first | exact hk.1.1.1 | (have h_ := hk; (try simp only [and_assoc] at h_); first | exact h_.1 | exact h_.2 | exact h_.2.1 | exact h_.2.2 | exact h_.2.2.1 | exact h_.2.2.2 | exact h_.2.2.2.1 | exact h_.2.2.2.2)), ⟨(by first | exact hk.1.2 | (have h_ := hk; (try simp only [and_assoc] at h_); first | exact h_.1 | exact h_.2 | exact h_.2.1 | exact h_.2.2 | exact h_.2.2.1 | exact h_.2.2.2 | exact h_.2.2.2.1 | exact h_.2.2.2.2)), ⟨(by first | exact hk.1.1.2.1 | (have h_ := hk; (try simp only [and_assoc] at h_); first | exact h_.1 | exact h_.2 | exact h_.2.1 | exact h_.2.2 | exact h_.2.2.1 | exact h_.2.2.2 | exact h_.2.2.2.1 | exact h_.2.2.2.2)), ⟨(by first | exact hk.1.1.2.2.1 | (have h_ := hk; (try simp only [and_assoc] at h_); first | exact h_.1 | exact h_.2 | exact h_.2.1 | exact h_.2.2 | exact h_.2.2.1 | exact h_.2.2.2 | exact h_.2.2.2.1 | exact h_.2.2.2.2)), (by first | exact hk.1.1.2.2.2 | (have h_ := hk; (try simp only [and_assoc] at h_); first | exact h_.1 | exact h_.2 | exact h_.2.1 | exact h_.2.2 | exact h_.2.2.1 | exact h_.2.2.2 | exact h_.2.2.2.1 | exact h_.2.2.2.2))⟩⟩⟩⟩)⟩, ⟨by (with_reducible repeat (first | apply zo | apply zp | apply zq)); exact zG (zH (p := ⟨gb217, 1, none⟩) (Kd.R_types HO220.out BK217.out (by decide)) (fun _ hk => hk.2) (.slice Ao32 y218.length co32)) (fun _ hk => (by first | exact hk.1 | (have h_ := hk; (try simp only [and_assoc] at h_); first | exact h_.1 | exact h_.2 | exact h_.2.1 | exact h_.2.2 | exact h_.2.2.1 | exact h_.2.2.2 | exact h_.2.2.2.1 | exact h_.2.2.2.2)))⟩, ⟨by (with_reducible repeat (first | refine zh ?_ _ | refine zj ?_ | refine zi ?_ _)); refine zv ?_ NB209_217.out _; (with_reducible repeat (first | refine zh ?_ _ | refine zj ?_ | refine zi ?_ _)); exact BK209.out⟩, ⟨by (with_reducible repeat (first | refine zh ?_ _ | refine zj ?_ | refine zi ?_ _)); refine zv ?_ NB210_217.out _; (with_reducible repeat (first | refine zh ?_ _ | refine zj ?_ | refine zi ?_ _)); exact BK210.out⟩, ⟨by (with_reducible repeat (first | refine zh ?_ _ | refine zj ?_ | refine zi ?_ _)); refine zw (cs := #[.int .u64 (IntKind.u64.wrap (x218000_1 * 256)), u218001]) ?_ 1 _ rfl; (with_reducible repeat (first | refine zh ?_ _ | refine zj ?_ | refine zi ?_ _)); exact BK217.out⟩, ⟨by repeat (first | (with_reducible first | exact HB.out | apply ze | apply zd | apply zf | refine zk ?_ GE209.out | refine zk ?_ GE210.out | refine zk ?_ GE217.out) | exact HB.out)⟩⟩
      ·
       rw [if_neg c27] at H
       exact absurd H (by simp)
     ·
      rw [if_neg c26] at H
      have c26b0 : decide (x218000_1 < 16777216) = false := decide_eq_false c26
      clear c26
      simp only [Option.some.injEq, Prod.mk.injEq] at H
      obtain ⟨rfl, rfl, rfl⟩ := H
      have hnb34 := NB217_209.out
      have hnc34 := NB209_217.out
      have hnb35 := NB217_210.out
      have hnc35 := NB210_217.out
      have hcz36_0 : wr.cell? ⟨gb217, 0, none⟩ = some (.int .u64 x218000_1) := (zs BK217.out 0).trans rfl
      have hcz36_1 : wr.cell? ⟨gb217, 1, none⟩ = some (u218001) := (zs BK217.out 1).trans rfl
      have hfz36_0 := zx BK217.out 0
      have hfz36_1 := zx BK217.out 1
      have hnb37 := NB210_209.out
      have hnc37 := NB209_210.out
      have hcz38_0 : wr.cell? ⟨gb210, 0, none⟩ = some (.int .u64 0) := (zs BK210.out 0).trans rfl
      have hcz38_1 : wr.cell? ⟨gb210, 1, none⟩ = some (.slice none 0 0) := (zs BK210.out 1).trans rfl
      have hfz38_0 := zx BK210.out 0
      have hfz38_1 := zx BK210.out 1
      obtain ⟨Ao39, co39, eo39⟩ := Kd.R_slice HO_218001.out
      subst eo39
      go_wp2
      refine bodyPost_ret (results_ct rfl _ _ gb210 33 #[.int .u64 x218000_1, .slice Ao39 x218001_1.length co39] (0, 0) _ rfl (by (with_reducible repeat (first | refine zh ?_ _ | refine zj ?_ | refine zi ?_ _)); refine zw (cs := #[.int .u64 x218000_1, .slice none 0 0]) ?_ 1 _ rfl; (with_reducible repeat (first | refine zh ?_ _ | refine zj ?_ | refine zi ?_ _)); refine zw (cs := #[.int .u64 0, .slice none 0 0]) ?_ 0 _ rfl; (with_reducible repeat (first | refine zh ?_ _ | refine zj ?_ | refine zi ?_ _)); exact BK210.out) Try.underlying33 rfl (by kernel_rfl)) rfl ?_
      exact ⟨_, by first | rfl | (simp [errW_none, errW_some] <;> rfl) | (simp [*, errW_none, errW_some] <;> rfl), zy (Kd.R_V (by (with_reducible repeat (first | apply zo | apply zp | apply zq)); exact zG (zH (p := ⟨gb210, 1, none⟩) (zH (p := ⟨gb210, 0, none⟩) (Kd.R_types HO_218001.out BK210.out (by decide)) (fun _ hk => hk.2) (.int .u64 x218000_1)) (fun _ hk => hk.2) (.slice Ao39 x218001_1.length co39)) (fun _ hk => (by first | exact hk.1 | (have h_ := hk; (try simp only [and_assoc] at h_); first | exact h_.1 | exact h_.2 | exact h_.2.1 | exact h_.2.2 | exact h_.2.2.1 | exact h_.2.2.2 | exact h_.2.2.2.1 | exact h_.2.2.2.2))))) (fun k_ hk => by first | exact ⟨(.inr (hk.1)), hk.2⟩ | exact (.inr (hk))), by repeat (first | (with_reducible first | exact HB.out | apply ze | apply zd | apply zf | refine zk ?_ GE209.out | refine zk ?_ GE210.out | refine zk ?_ GE217.out) | exact HB.out)⟩
 ·
  replace c6 := Bool.eq_false_iff.mpr c6
  subst c6
  have H1 : (some (a0_0, l0_1, 1)) = some (r1, r2, r3) := by rw [if_neg (show ¬ (false = true) by decide)] at H; exact H
  clear H
  have H := H1
  clear H1
  simp only [Option.some.injEq, Prod.mk.injEq] at H
  obtain ⟨rfl, rfl, rfl⟩ := H
  go_enter Try.func19, Try.ntmps19
  go_wp2_with (first | ((with_reducible refine gate_dst (N := 4) rfl ?_); refine box_event ?hg (N := 4) ?hd (cs := #[.int .u64 a0_0, .slice A0_1 l0_1.length c0_1]) (t := 33) ?hr ?_; (case hd => rfl); (case hg => rfl); (case hr => first | (go_simp; done) | (go_simp; rfl)); intro gb209 hg w40 hbox hb; have n0_ := zm (Kd.V_below (Kd.V_elderB (by (with_reducible repeat (first | apply zA | apply zB | apply zC)); exact HO0_1.out) gb209 (Nat.le_of_eq hg.symm)) hb); have n1_ := zm (zJ (by repeat (first | (with_reducible first | exact HB.out | apply ze | apply zd | apply zf) | exact HB.out)) hb); have n2_ := zm (hbox); have n3_ := zm ((by rw [hg]; exact (zE (by repeat (first | (with_reducible first | exact HB.out | apply ze | apply zd | apply zf) | exact HB.out))) : w.heap.size ≤ gb209)); have n4_ := zm ((by rw [hg]; exact (zE (by repeat (first | (with_reducible first | exact HB.out | apply ze | apply zd | apply zf) | exact HB.out))) : w.heap.size ≤ gb209)); clear HO0_1; clear HB; have HO0_1 := n0_; have HB := n1_; have BK209 := n2_; have GW209 := n3_; have GE209 := n4_; clear n0_ n1_ n2_ n3_ n4_; clear hb hbox hg) | ((with_reducible refine gate_dst (N := 8) rfl ?_); refine box_event ?hg (N := 8) ?hd (cs := #[.int .u64 0, .slice none 0 0]) (t := 33) ?hr ?_; (case hd => rfl); (case hg => rfl); (case hr => first | (go_simp; done) | (go_simp; rfl)); intro gb210 hg w41 hbox hb; have n0_ := zm (Kd.V_below (Kd.V_elderB (by (with_reducible repeat (first | apply zA | apply zB | apply zC)); exact HO0_1.out) gb210 (Nat.le_of_eq hg.symm)) hb); have n1_ := zm (zF (g := gb209) (o := .cells #[.int .u64 a0_0, .slice A0_1 l0_1.length c0_1] 33 (0, 0)) (by (with_reducible repeat (first | refine zh ?_ _ | refine zj ?_ | refine zi ?_ _)); exact BK209.out) hb); have n2_ := zm (zJ (by repeat (first | (with_reducible first | exact HB.out | apply ze | apply zd | apply zf | refine zk ?_ GE209.out) | exact HB.out)) hb); have n3_ := zm (hbox); have n4_ := zm ((by rw [hg]; exact (zE (by repeat (first | (with_reducible first | exact HB.out | apply ze | apply zd | apply zf | refine zk ?_ GE209.out) | exact HB.out))) : w.heap.size ≤ gb210)); have n5_ := zm ((by rw [hg]; exact (zE (by repeat (first | (with_reducible first | exact HB.out | apply ze | apply zd | apply zf | refine zk ?_ GE209.out) | exact HB.out))) : w.heap.size ≤ gb210)); have n6_ := zm ((by rw [hg]; exact zn (zD (g := gb209) (o := .cells #[.int .u64 a0_0, .slice A0_1 l0_1.length c0_1] 33 (0, 0)) (by (with_reducible repeat (first | refine zh ?_ _ | refine zj ?_ | refine zi ?_ _)); exact BK209.out)) : gb209 ≠ gb210)); have n7_ := zm ((by rw [hg]; exact zg (zD (g := gb209) (o := .cells #[.int .u64 a0_0, .slice A0_1 l0_1.length c0_1] 33 (0, 0)) (by (with_reducible repeat (first | refine zh ?_ _ | refine zj ?_ | refine zi ?_ _)); exact BK209.out)) : gb210 ≠ gb209)); clear HO0_1; clear BK209; clear HB; have HO0_1 := n0_; have BK209 := n1_; have HB := n2_; have BK210 := n3_; have GW210 := n4_; have GE210 := n5_; have NB209_210 := n6_; have NB210_209 := n7_; clear n0_ n1_ n2_ n3_ n4_ n5_ n6_ n7_; clear hb hbox hg) | ((with_reducible refine gate_callee (f := 35) rfl ?_); refine goesL_ (some 16) rfl rfl Try.func35 (by kernel_rfl) rfl #[.int .i64 a1, .int .i64 a2, .int .i64 a3] rfl (by (try simp only [List.map_toArray, List.map_cons, List.map_nil]); first | done | rfl | (simp only [List.length_drop, List.length_take]; rfl)) ?_; (with_reducible refine (psalteryref05_Fair.calls a1 a2 a3 false _ A5.out).mono ?_); rintro e w' ⟨rfl, ⟨nd, rfl⟩⟩; refine ⟨_, rfl, ?_⟩; (try (rw [drewN_self w41]; generalize hq_ : World.drewN w41 _ = w41; have n0_ : Aside0 (Kd.V (Kd.int .i64) 3 w41 w.heap.size (fun k_ => (P0_1_ k_ ∨ w.heap.size ≤ k_) ∧ k_ ≠ gb209 ∧ k_ ≠ gb210) (.slice A0_1 l0_1.length c0_1) l0_1) := ⟨by rw [← hq_]; exact (by (with_reducible repeat (first | apply zA | apply zB | apply zC)); exact zy HO0_1.out (fun _ hk => ⟨(by first | exact hk.1.1 | (have h_ := hk; (try simp only [and_assoc] at h_); first | exact h_.1 | exact h_.2 | exact h_.2.1 | exact h_.2.2 | exact h_.2.2.1 | exact h_.2.2.2 | exact h_.2.2.2.1 | exact h_.2.2.2.2)), ⟨(by first | exact hk.1.2 | (have h_ := hk; (try simp only [and_assoc] at h_); first | exact h_.1 | exact h_.2 | exact h_.2.1 | exact h_.2.2 | exact h_.2.2.1 | exact h_.2.2.2 | exact h_.2.2.2.1 | exact h_.2.2.2.2)), (by first | exact hk.2 | (have h_ := hk; (try simp only [and_assoc] at h_); first | exact h_.1 | exact h_.2 | exact h_.2.1 | exact h_.2.2 | exact h_.2.2.1 | exact h_.2.2.2 | exact h_.2.2.2.1 | exact h_.2.2.2.2))⟩⟩))⟩; have n1_ : Aside0 (w41.heap[gb209]? = some (.cells #[.int .u64 a0_0, .slice A0_1 l0_1.length c0_1] 33 (0, 0))) := ⟨by rw [← hq_]; exact (by (with_reducible repeat (first | refine zh ?_ _ | refine zj ?_ | refine zi ?_ _)); exact BK209.out)⟩; have n2_ : Aside0 (w41.heap[gb210]? = some (.cells #[.int .u64 0, .slice none 0 0] 33 (0, 0))) := ⟨by rw [← hq_]; exact (by (with_reducible repeat (first | refine zh ?_ _ | refine zj ?_ | refine zi ?_ _)); exact BK210.out)⟩; have n3_ : Aside0 (Below w.heap.size w w41) := ⟨by rw [← hq_]; exact (by repeat (first | (with_reducible first | exact HB.out | apply ze | apply zd | apply zf | refine zk ?_ GE209.out | refine zk ?_ GE210.out) | exact HB.out))⟩; clear HO0_1 BK209 BK210 HB hq_; have HO0_1 := n0_; have BK209 := n1_; have BK210 := n2_; have HB := n3_; clear n0_ n1_ n2_ n3_)); have hnb42 := NB209_210.out; have hnc42 := NB210_209.out; have hcz43_0 : w41.cell? ⟨gb209, 0, none⟩ = some (.int .u64 a0_0) := (zs BK209.out 0).trans rfl; have hcz43_1 : w41.cell? ⟨gb209, 1, none⟩ = some (.slice A0_1 l0_1.length c0_1) := (zs BK209.out 1).trans rfl; have hfz43_0 := zx BK209.out 0; have hfz43_1 := zx BK209.out 1; have hcz44_0 : w41.cell? ⟨gb210, 0, none⟩ = some (.int .u64 0) := (zs BK210.out 0).trans rfl; have hcz44_1 : w41.cell? ⟨gb210, 1, none⟩ = some (.slice none 0 0) := (zs BK210.out 1).trans rfl; have hfz44_0 := zx BK210.out 0; have hfz44_1 := zx BK210.out 1))
  refine bodyPost_ret (results_ct rfl _ _ gb210 33 #[.int .u64 a0_0, .slice A0_1 l0_1.length c0_1] (0, 0) _ rfl (by (with_reducible repeat (first | refine zh ?_ _ | refine zj ?_ | refine zi ?_ _)); refine zw (cs := #[.int .u64 a0_0, .slice none 0 0]) ?_ 1 _ rfl; (with_reducible repeat (first | refine zh ?_ _ | refine zj ?_ | refine zi ?_ _)); refine zw (cs := #[.int .u64 0, .slice none 0 0]) ?_ 0 _ rfl; (with_reducible repeat (first | refine zh ?_ _ | refine zj ?_ | refine zi ?_ _)); exact BK210.out) Try.underlying33 rfl (by kernel_rfl)) rfl ?_
  exact ⟨_, by first | rfl | (simp [errW_none, errW_some] <;> rfl) | (simp [*, errW_none, errW_some] <;> rfl), by (with_reducible repeat (first | apply zA | apply zB | apply zC)); exact zy (zI (p := ⟨gb210, 1, none⟩) (zI (p := ⟨gb210, 0, none⟩) (zy HO0_1.out (fun k_ hk => (⟨hk, (by first | exact hk.2 | (have h_ := hk; (try simp only [and_assoc] at h_); first | exact h_.1 | exact h_.2 | exact h_.2.1 | exact h_.2.2 | exact h_.2.2.1 | exact h_.2.2.2 | exact h_.2.2.2.1 | exact h_.2.2.2.2))⟩ : _ ∧ k_ ≠ gb210))) (fun _ hk => hk.2) (.int .u64 a0_0)) (fun _ hk => hk.2) (.slice A0_1 l0_1.length c0_1)) (fun _ hk => (by first | exact hk.1.1.1 | (have h_ := hk; (try simp only [and_assoc] at h_); first | exact h_.1 | exact h_.2 | exact h_.2.1 | exact h_.2.2 | exact h_.2.2.1 | exact h_.2.2.2 | exact h_.2.2.2.1 | exact h_.2.2.2.2))), by repeat (first | (with_reducible first | exact HB.out | apply ze | apply zd | apply zf | refine zk ?_ GE209.out | refine zk ?_ GE210.out) | exact HB.out)⟩

end Go.Proofs.Ytkaoiblgfpphoaa.Prt
