-- Functions of the program and of the document as plain Lean, each with the proof that the code comes to it. Written by a program of this session (wip/tools/myprint.py, pack.py) over the kit's printer; Lean checks it.
import Derived.Test.YtkaoiblgfpphoaaZGainTakesPrt0
import Derived.Test.YtkaoiblgfpphoaaZGainTakesM3
import Derived.Test.YtkaoiblgfpphoaaZGainTakesM1
import Derived.Test.YtkaoiblgfpphoaaZGainTakesM2
namespace Go.Proofs.Ytkaoiblgfpphoaa.Prt
open Go.RowKit Go.Proofs.YtkaoiblgfpphoaaW.PrintWords Go.Proofs.YtkaoiblgfpphoaaW.PrintLast Go.Proofs.YtkaoiblgfpphoaaW.PrintMore
attribute [local go_sem] max2_int min2_int max_two min_two max_three min_three max_four min_four   -- for this text's walks alone
set_option linter.unusedVariables false
set_option linter.unusedSimpArgs false

/-! ### gain_Put: function 43 -/
mutual
def gain_Put.j0 : Nat → List Int → List Int → Bool → Bool → Int → Int → List Int → Int → Int → List Int → Option (Int × Int × List Int × Int)
 | 0, _, _, _, _, _, _, _, _, _, _ => none
 | k + 1, x1, x2, x3, x33, x690000, x690001, x690002, x698000, x698001, x698002 => if x33 = true then (some (x698000, x698001, x698002, 1)) else (gain_Put.l0 k x1 x2 x3 0 x698000 x698001 x698002 x690000 x690001 x690002)
def gain_Put.l0 : Nat → List Int → List Int → Bool → Int → Int → Int → List Int → Int → Int → List Int → Option (Int × Int × List Int × Int)
 | 0, _, _, _, _, _, _, _, _, _, _ => none
 | k + 1, x1, x2, x3, x36, x698000, x698001, x698002, x701000, x701001, x701002 => if x36 < 5 then (if x3 = true then (gain_Put.j2 k x1 x2 x3 x36 0 x36 x698000 x698001 x698002 x701000 x701001 x701002) else (if 0 ≤ x36 then (if x36 < (x2.length : Int) then (gain_Put.j2 k x1 x2 x3 x36 (rd x2 x36) x36 x698000 x698001 x698002 x701000 x701001 x701002) else (none)) else (none))) else (some (x701000, x701001, x701002, 0))
def gain_Put.j2 : Nat → List Int → List Int → Bool → Int → Int → Int → Int → Int → List Int → Int → Int → List Int → Option (Int × Int × List Int × Int)
 | 0, _, _, _, _, _, _, _, _, _, _, _, _ => none
 | k + 1, x1, x2, x3, x13, x14, x36, x698000, x698001, x698002, x701000, x701001, x701002 => if 0 ≤ x13 then (if x13 < (x1.length : Int) then ((gain_put.f k x701000 x701001 x701002 (rd x1 x13) x14 x3).bind fun bt703 => (if bt703.2.2.2 = 0 then (gain_Put.l0 k x1 x2 x3 (wrap64 (x36 + 1)) x698000 x698001 x698002 bt703.1 bt703.2.1 bt703.2.2.1) else (some (x698000, x698001, x698002, bt703.2.2.2)))) else (none)) else (none)
end
def gain_Put.f (k : Nat) (a0_0 : Int) (a0_1 : Int) (l0_2 : List Int) (l1 : List Int) (l2 : List Int) (a3 : Bool) : Option (Int × Int × List Int × Int) := (coder_Put.f k a0_0 a0_1 l0_2 0 1 0).bind fun bt691 => ((gain_Right.f k l1).bind fun t698 => (if t698 = true then (if a3 = true then (gain_Put.j0 k l1 l2 a3 false a0_0 a0_1 l0_2 bt691.1 bt691.2.1 bt691.2.2.1) else ((gain_Right.f k l2).bind fun t699 => (gain_Put.j0 k l1 l2 a3 (!t699) a0_0 a0_1 l0_2 bt691.1 bt691.2.1 bt691.2.2.1))) else (gain_Put.j0 k l1 l2 a3 true a0_0 a0_1 l0_2 bt691.1 bt691.2.1 bt691.2.2.1)))
theorem gain_Put.mono_l : ∀ k, (∀ y0 y1 y2 y3 y4 y5 y6 y7 y8 y9, LeO (gain_Put.j0 k y0 y1 y2 y3 y4 y5 y6 y7 y8 y9) (gain_Put.j0 (k + 1) y0 y1 y2 y3 y4 y5 y6 y7 y8 y9)) ∧ (∀ y0 y1 y2 y3 y4 y5 y6 y7 y8 y9, LeO (gain_Put.l0 k y0 y1 y2 y3 y4 y5 y6 y7 y8 y9) (gain_Put.l0 (k + 1) y0 y1 y2 y3 y4 y5 y6 y7 y8 y9)) ∧ (∀ y0 y1 y2 y3 y4 y5 y6 y7 y8 y9 y10 y11, LeO (gain_Put.j2 k y0 y1 y2 y3 y4 y5 y6 y7 y8 y9 y10 y11) (gain_Put.j2 (k + 1) y0 y1 y2 y3 y4 y5 y6 y7 y8 y9 y10 y11))
 | 0 => ⟨fun _ _ _ _ _ _ _ _ _ _ r h => by simp [gain_Put.j0] at h, fun _ _ _ _ _ _ _ _ _ _ r h => by simp [gain_Put.l0] at h, fun _ _ _ _ _ _ _ _ _ _ _ _ r h => by simp [gain_Put.j2] at h⟩
 | k + 1 => by
  obtain ⟨ih0, ih1, ih2⟩ := gain_Put.mono_l k
  refine ⟨?_, ?_, ?_⟩
  ·
   intro y0 y1 y2 y3 y4 y5 y6 y7 y8 y9
   unfold gain_Put.j0
   repeat' first
   | (with_reducible exact ih0 _ _ _ _ _ _ _ _ _ _)
   | (with_reducible exact ih1 _ _ _ _ _ _ _ _ _ _)
   | (with_reducible exact ih2 _ _ _ _ _ _ _ _ _ _ _ _)
   | (with_reducible exact coder_Put.mono _ _ _ _ _ _ _)
   | (with_reducible exact gain_Right.mono _ _)
   | (with_reducible exact gain_put.mono _ _ _ _ _ _ _)
   | (with_reducible exact LeO.refl _)
   | (with_reducible exact LeO.none _)
   | (with_reducible refine LeO.ite ?_ ?_)
   | (with_reducible refine LeO.bind ?_ (fun _ => ?_))
   | exact ih0 _ _ _ _ _ _ _ _ _ _
   | exact ih1 _ _ _ _ _ _ _ _ _ _
   | exact ih2 _ _ _ _ _ _ _ _ _ _ _ _
   | exact coder_Put.mono _ _ _ _ _ _ _
   | exact gain_Right.mono _ _
   | exact gain_put.mono _ _ _ _ _ _ _
   | exact LeO.none _
   | refine LeO.ite ?_ ?_
   | refine LeO.bind ?_ (fun _ => ?_)
  ·
   intro y0 y1 y2 y3 y4 y5 y6 y7 y8 y9
   unfold gain_Put.l0
   repeat' first
   | (with_reducible exact ih0 _ _ _ _ _ _ _ _ _ _)
   | (with_reducible exact ih1 _ _ _ _ _ _ _ _ _ _)
   | (with_reducible exact ih2 _ _ _ _ _ _ _ _ _ _ _ _)
   | (with_reducible exact coder_Put.mono _ _ _ _ _ _ _)
   | (with_reducible exact gain_Right.mono _ _)
   | (with_reducible exact gain_put.mono _ _ _ _ _ _ _)
   | (with_reducible exact LeO.refl _)
   | (with_reducible exact LeO.none _)
   | (with_reducible refine LeO.ite ?_ ?_)
   | (with_reducible refine LeO.bind ?_ (fun _ => ?_))
   | exact ih0 _ _ _ _ _ _ _ _ _ _
   | exact ih1 _ _ _ _ _ _ _ _ _ _
   | exact ih2 _ _ _ _ _ _ _ _ _ _ _ _
   | exact coder_Put.mono _ _ _ _ _ _ _
   | exact gain_Right.mono _ _
   | exact gain_put.mono _ _ _ _ _ _ _
   | exact LeO.none _
   | refine LeO.ite ?_ ?_
   | refine LeO.bind ?_ (fun _ => ?_)
  ·
   intro y0 y1 y2 y3 y4 y5 y6 y7 y8 y9 y10 y11
   unfold gain_Put.j2
   repeat' first
   | (with_reducible exact ih0 _ _ _ _ _ _ _ _ _ _)
   | (with_reducible exact ih1 _ _ _ _ _ _ _ _ _ _)
   | (with_reducible exact ih2 _ _ _ _ _ _ _ _ _ _ _ _)
   | (with_reducible exact coder_Put.mono _ _ _ _ _ _ _)
   | (with_reducible exact gain_Right.mono _ _)
   | (with_reducible exact gain_put.mono _ _ _ _ _ _ _)
   | (with_reducible exact LeO.refl _)
   | (with_reducible exact LeO.none _)
   | (with_reducible refine LeO.ite ?_ ?_)
   | (with_reducible refine LeO.bind ?_ (fun _ => ?_))
   | exact ih0 _ _ _ _ _ _ _ _ _ _
   | exact ih1 _ _ _ _ _ _ _ _ _ _
   | exact ih2 _ _ _ _ _ _ _ _ _ _ _ _
   | exact coder_Put.mono _ _ _ _ _ _ _
   | exact gain_Right.mono _ _
   | exact gain_put.mono _ _ _ _ _ _ _
   | exact LeO.none _
   | refine LeO.ite ?_ ?_
   | refine LeO.bind ?_ (fun _ => ?_)
theorem gain_Put.mono : ∀ a0 a1 a2 a3 a4 a5 k, LeO (gain_Put.f k a0 a1 a2 a3 a4 a5) (gain_Put.f (k + 1) a0 a1 a2 a3 a4 a5) := by
 intro a0 a1 a2 a3 a4 a5 k
 obtain ⟨ih0, ih1, ih2⟩ := gain_Put.mono_l k
 unfold gain_Put.f
 repeat' first
   | (with_reducible exact ih0 _ _ _ _ _ _ _ _ _ _)
   | (with_reducible exact ih1 _ _ _ _ _ _ _ _ _ _)
   | (with_reducible exact ih2 _ _ _ _ _ _ _ _ _ _ _ _)
   | (with_reducible exact coder_Put.mono _ _ _ _ _ _ _)
   | (with_reducible exact gain_Right.mono _ _)
   | (with_reducible exact gain_put.mono _ _ _ _ _ _ _)
   | (with_reducible exact LeO.refl _)
   | (with_reducible exact LeO.none _)
   | (with_reducible refine LeO.ite ?_ ?_)
   | (with_reducible refine LeO.bind ?_ (fun _ => ?_))
   | exact ih0 _ _ _ _ _ _ _ _ _ _
   | exact ih1 _ _ _ _ _ _ _ _ _ _
   | exact ih2 _ _ _ _ _ _ _ _ _ _ _ _
   | exact coder_Put.mono _ _ _ _ _ _ _
   | exact gain_Right.mono _ _
   | exact gain_put.mono _ _ _ _ _ _ _
   | exact LeO.none _
   | refine LeO.ite ?_ ?_
   | refine LeO.bind ?_ (fun _ => ?_)
def gain_Put.T11 : Bool × List (List Nat × List Nat) := (true, [([], []), ([], []), ([], []), ([1, 2], [1, 2]), ([3], [3]), ([], []), ([], []), ([0, 4, 5, 6], [0, 4, 5, 6]), ([7], [7]), ([8], [8]), ([8], [8]), ([], []), ([11, 9, 7, 0, 1, 2, 3, 4, 5, 6, 7, 8, 9, 11], [9, 11]), ([10, 12, 0, 1, 2, 3, 4, 5, 6, 7, 8, 9, 10, 11, 12], [10])])
def gain_Put.B11 : List Nat := [0, 0, 0, 6, 14, 0, 0, 127, 255, 511, 511, 0, 3071, 8191]
theorem gain_Put.tab11 : rtab .any (opsOf Try.f43 11) = gain_Put.T11 := by kernel_rfl
theorem gain_Put.bits11 : waitsOk gain_Put.T11.2 gain_Put.B11 = true := by kernel_rfl
set_option maxHeartbeats 8000000 in
set_option maxRecDepth 100000 in
theorem gain_Put.calls (k : Nat) (a0_0 : Int) (a0_1 : Int) (P0_2_ : Nat → Prop) (A0_2 : Option Addr) (c0_2 : Nat) (l0_2 : List Int) (A1 : Option Addr) (c1 : Nat) (l1 : List Int) (A2 : Option Addr) (c2 : Nat) (l2 : List Int) (a3 : Bool) (r1 : Int) (r2 : Int) (r3 : List Int) (r4 : Int) (w : World) (hs0_2 : Kd.V (Kd.int .u8) 5 w w.heap.size (fun k_ => P0_2_ k_) (.slice A0_2 l0_2.length c0_2) l0_2) (hr1 : Kd.C (Kd.int .i64) w A1 l1.length l1) (hc1 : l1.length ≤ c1) (hr2 : Kd.C (Kd.int .i64) w A2 l2.length l2) (hc2 : l2.length ≤ c2) (h : gain_Put.f k a0_0 a0_1 l0_2 l1 l2 a3 = some (r1, r2, r3, r4)) :
  Calls Try.prog 43 #[.agg #[.int .u64 a0_0, .int .u32 a0_1, .slice A0_2 l0_2.length c0_2], .slice A1 l1.length c1, .slice A2 l2.length c2, .bool a3] w fun e w' => ∃ v2_ : Value, e = .returned (.tuple #[.agg #[.int .u64 r1, .int .u32 r2, v2_], .int .i64 r4]) ∧ Kd.V (Kd.int .u8) 5 w' w.heap.size (fun k_ => (P0_2_ k_ ∨ w.heap.size ≤ k_)) v2_ r3 ∧ Below w.heap.size w w' := by
 have hu26 := Try.underlying26
 have HO0_2 := zm (show Kd.V (Kd.int .u8) 5 w w.heap.size (fun k_ => (P0_2_ k_ ∨ w.heap.size ≤ k_)) (.slice A0_2 l0_2.length c0_2) l0_2 from zy hs0_2 (fun k_ hk => .inl hk))
 have HR1 := zm hr1
 have HC1 := zm hc1
 clear hr1 hc1
 have HR2 := zm hr2
 have HC2 := zm hc2
 clear hr2 hc2
 have HB := zm (Below.refl w.heap.size w)
 have H : ((coder_Put.f k a0_0 a0_1 l0_2 0 1 0).bind fun bt691 => ((gain_Right.f k l1).bind fun t698 => (if t698 = true then (if a3 = true then (gain_Put.j0 k l1 l2 a3 false a0_0 a0_1 l0_2 bt691.1 bt691.2.1 bt691.2.2.1) else ((gain_Right.f k l2).bind fun t699 => (gain_Put.j0 k l1 l2 a3 (!t699) a0_0 a0_1 l0_2 bt691.1 bt691.2.1 bt691.2.2.1))) else (gain_Put.j0 k l1 l2 a3 true a0_0 a0_1 l0_2 bt691.1 bt691.2.1 bt691.2.2.1)))) = some (r1, r2, r3, r4) := h
 clear h
 replace H := Option.bind_eq_some_iff.mp H
 obtain ⟨⟨t691, t692, t693, t696⟩, A50, H⟩ := H
 replace H : ((gain_Right.f k l1).bind fun t698 => (if t698 = true then (if a3 = true then (gain_Put.j0 k l1 l2 a3 false a0_0 a0_1 l0_2 t691 t692 t693) else ((gain_Right.f k l2).bind fun t699 => (gain_Put.j0 k l1 l2 a3 (!t699) a0_0 a0_1 l0_2 t691 t692 t693))) else (gain_Put.j0 k l1 l2 a3 true a0_0 a0_1 l0_2 t691 t692 t693))) = some (r1, r2, r3, r4) := H
 have A5 := zm A50
 clear A50
 have HC6 := zm H
 clear H
 go_enter Try.func43, Try.ntmps43
 go_upto_region 2 with (first | ((with_reducible refine gate_dst (N := 4) rfl ?_); refine box_event ?hg (N := 4) ?hd (cs := #[.int .u64 a0_0, .int .u32 a0_1, .slice A0_2 l0_2.length c0_2]) (t := 26) ?hr ?_; (case hd => rfl); (case hg => rfl); (case hr => first | (go_simp; done) | (go_simp; rfl)); intro gb689 hg w7 hbox hb; have n0_ := zm (Kd.V_below (Kd.V_elderB (by (with_reducible repeat (first | apply zA | apply zB | apply zC)); exact HO0_2.out) gb689 (Nat.le_of_eq hg.symm)) hb); have n1_ := zm (zJ (by repeat (first | (with_reducible first | exact HB.out | apply ze | apply zd | apply zf) | exact HB.out)) hb); have n2_ := zm (hbox); have n3_ := zm ((by rw [hg]; exact (zE (by repeat (first | (with_reducible first | exact HB.out | apply ze | apply zd | apply zf) | exact HB.out))) : w.heap.size ≤ gb689)); have n4_ := zm ((by rw [hg]; exact (zE (by repeat (first | (with_reducible first | exact HB.out | apply ze | apply zd | apply zf) | exact HB.out))) : w.heap.size ≤ gb689)); clear HO0_2; clear HB; have HO0_2 := n0_; have HB := n1_; have BK689 := n2_; have GW689 := n3_; have GE689 := n4_; clear n0_ n1_ n2_ n3_ n4_; clear hb hbox hg) | ((with_reducible refine gate_dst (N := 8) rfl ?_); refine box_event ?hg (N := 8) ?hd (cs := #[.int .u64 0, .int .u32 0, .slice none 0 0]) (t := 26) ?hr ?_; (case hd => rfl); (case hg => rfl); (case hr => first | (go_simp; done) | (go_simp; rfl)); intro gb690 hg w8 hbox hb; have n0_ := zm (Kd.V_below (Kd.V_elderB (by (with_reducible repeat (first | apply zA | apply zB | apply zC)); exact HO0_2.out) gb690 (Nat.le_of_eq hg.symm)) hb); have n1_ := zm (zF (g := gb689) (o := .cells #[.int .u64 a0_0, .int .u32 a0_1, .slice A0_2 l0_2.length c0_2] 26 (0, 0)) (by (with_reducible repeat (first | refine zh ?_ _ | refine zj ?_ | refine zi ?_ _)); exact BK689.out) hb); have n2_ := zm (zJ (by repeat (first | (with_reducible first | exact HB.out | apply ze | apply zd | apply zf | refine zk ?_ GE689.out) | exact HB.out)) hb); have n3_ := zm (hbox); have n4_ := zm ((by rw [hg]; exact (zE (by repeat (first | (with_reducible first | exact HB.out | apply ze | apply zd | apply zf | refine zk ?_ GE689.out) | exact HB.out))) : w.heap.size ≤ gb690)); have n5_ := zm ((by rw [hg]; exact (zE (by repeat (first | (with_reducible first | exact HB.out | apply ze | apply zd | apply zf | refine zk ?_ GE689.out) | exact HB.out))) : w.heap.size ≤ gb690)); have n6_ := zm ((by rw [hg]; exact zn (zD (g := gb689) (o := .cells #[.int .u64 a0_0, .int .u32 a0_1, .slice A0_2 l0_2.length c0_2] 26 (0, 0)) (by (with_reducible repeat (first | refine zh ?_ _ | refine zj ?_ | refine zi ?_ _)); exact BK689.out)) : gb689 ≠ gb690)); have n7_ := zm ((by rw [hg]; exact zg (zD (g := gb689) (o := .cells #[.int .u64 a0_0, .int .u32 a0_1, .slice A0_2 l0_2.length c0_2] 26 (0, 0)) (by (with_reducible repeat (first | refine zh ?_ _ | refine zj ?_ | refine zi ?_ _)); exact BK689.out)) : gb690 ≠ gb689)); clear HO0_2; clear BK689; clear HB; have HO0_2 := n0_; have BK689 := n1_; have HB := n2_; have BK690 := n3_; have GW690 := n4_; have GE690 := n5_; have NB689_690 := n6_; have NB690_689 := n7_; clear n0_ n1_ n2_ n3_ n4_ n5_ n6_ n7_; clear hb hbox hg; have hnb9 := NB689_690.out; have hnc9 := NB690_689.out; have hcz10_0 : w8.cell? ⟨gb689, 0, none⟩ = some (.int .u64 a0_0) := (zs BK689.out 0).trans rfl; have hcz10_1 : w8.cell? ⟨gb689, 1, none⟩ = some (.int .u32 a0_1) := (zs BK689.out 1).trans rfl; have hcz10_2 : w8.cell? ⟨gb689, 2, none⟩ = some (.slice A0_2 l0_2.length c0_2) := (zs BK689.out 2).trans rfl; have hfz10_0 := zx BK689.out 0; have hfz10_1 := zx BK689.out 1; have hfz10_2 := zx BK689.out 2) | ((with_reducible refine gate_callee (f := 18) rfl ?_); refine goesL_ (some 19) rfl rfl Try.func18 (by kernel_rfl) rfl #[.agg #[.int .u64 a0_0, .int .u32 a0_1, .slice A0_2 l0_2.length c0_2], .int .i64 0, .int .i64 1, .int .i64 0] rfl (by (try simp only [List.map_toArray, List.map_cons, List.map_nil]); first | done | rfl | (simp only [List.length_drop, List.length_take]; rfl)) ?_; (with_reducible refine (coder_Put.calls k a0_0 a0_1 _ _ l0_2 0 1 0 t691 t692 t693 t696 _ ?side1 ?side2 A5.out).mono ?_); (case side1 => repeat (first | exact (Kd.V_reads' HO0_2.out).2.2 | (with_reducible refine Kd.C_alloc ?_ _) | (with_reducible refine Kd.C_drewN ?_ _) | (with_reducible refine Kd.C_drew ?_))); (case side2 => exact (Kd.V_reads' HO0_2.out).2.1); rintro e w11 ⟨v694, rfl, ho0, hb⟩; refine ⟨_, rfl, ?_⟩; have n0_ := zm (Kd.V_elder' (by (with_reducible repeat (first | apply zA | apply zB | apply zC)); exact HO0_2.out) (Kd.R_base ho0) hb); have n1_ := zm (Kd.R_lower (Kd.R_newM (M := fun k_ => (w.heap.size ≤ k_)) ho0 (zE (by repeat (first | (with_reducible first | exact HB.out | apply ze | apply zd | apply zf | refine zk ?_ GE689.out | refine zk ?_ GE690.out) | exact HB.out))) (fun k_ h_ => h_)) (zE (by repeat (first | (with_reducible first | exact HB.out | apply ze | apply zd | apply zf | refine zk ?_ GE689.out | refine zk ?_ GE690.out) | exact HB.out)))); have n2_ := zm (zF (g := gb689) (o := .cells #[.int .u64 a0_0, .int .u32 a0_1, .slice A0_2 l0_2.length c0_2] 26 (0, 0)) (by (with_reducible repeat (first | refine zh ?_ _ | refine zj ?_ | refine zi ?_ _)); exact BK689.out) hb); have n3_ := zm (zF (g := gb690) (o := .cells #[.int .u64 0, .int .u32 0, .slice none 0 0] 26 (0, 0)) (by (with_reducible repeat (first | refine zh ?_ _ | refine zj ?_ | refine zi ?_ _)); exact BK690.out) hb); have n4_ := zm (zJ (by repeat (first | (with_reducible first | exact HB.out | apply ze | apply zd | apply zf | refine zk ?_ GE689.out | refine zk ?_ GE690.out) | exact HB.out)) hb); clear HO0_2; clear BK689; clear BK690; clear HB; have HO0_2 := n0_; have HO695 := n1_; have BK689 := n2_; have BK690 := n3_; have HB := n4_; clear n0_ n1_ n2_ n3_ n4_; (try clear hb); (try clear hb2); (try clear hk); (try clear hi); (try clear ho0)) | ((with_reducible refine gate_dst (N := 10) rfl ?_); refine box_event ?hg (N := 10) ?hd (cs := #[.int .u64 0, .int .u32 0, .slice none 0 0]) (t := 26) ?hr ?_; (case hd => rfl); (case hg => rfl); (case hr => first | (go_simp; done) | (go_simp; rfl)); intro gb697 hg w12 hbox hb; have n0_ := zm (Kd.V_below (Kd.V_elderB (by (with_reducible repeat (first | apply zA | apply zB | apply zC)); exact HO0_2.out) gb697 (Nat.le_of_eq hg.symm)) hb); have n1_ := zm (Kd.R_below (by (with_reducible repeat (first | apply zo | apply zp | apply zq)); exact HO695.out) hb); have n2_ := zm (zF (g := gb689) (o := .cells #[.int .u64 a0_0, .int .u32 a0_1, .slice A0_2 l0_2.length c0_2] 26 (0, 0)) (by (with_reducible repeat (first | refine zh ?_ _ | refine zj ?_ | refine zi ?_ _)); exact BK689.out) hb); have n3_ := zm (zF (g := gb690) (o := .cells #[.int .u64 0, .int .u32 0, .slice none 0 0] 26 (0, 0)) (by (with_reducible repeat (first | refine zh ?_ _ | refine zj ?_ | refine zi ?_ _)); exact BK690.out) hb); have n4_ := zm (zJ (by repeat (first | (with_reducible first | exact HB.out | apply ze | apply zd | apply zf | refine zk ?_ GE689.out | refine zk ?_ GE690.out) | exact HB.out)) hb); have n5_ := zm (hbox); have n6_ := zm ((by rw [hg]; exact (zE (by repeat (first | (with_reducible first | exact HB.out | apply ze | apply zd | apply zf | refine zk ?_ GE689.out | refine zk ?_ GE690.out) | exact HB.out))) : w.heap.size ≤ gb697)); have n7_ := zm ((by rw [hg]; exact (zE (by repeat (first | (with_reducible first | exact HB.out | apply ze | apply zd | apply zf | refine zk ?_ GE689.out | refine zk ?_ GE690.out) | exact HB.out))) : w.heap.size ≤ gb697)); have n8_ := zm ((by rw [hg]; exact zn (zD (g := gb689) (o := .cells #[.int .u64 a0_0, .int .u32 a0_1, .slice A0_2 l0_2.length c0_2] 26 (0, 0)) (by (with_reducible repeat (first | refine zh ?_ _ | refine zj ?_ | refine zi ?_ _)); exact BK689.out)) : gb689 ≠ gb697)); have n9_ := zm ((by rw [hg]; exact zg (zD (g := gb689) (o := .cells #[.int .u64 a0_0, .int .u32 a0_1, .slice A0_2 l0_2.length c0_2] 26 (0, 0)) (by (with_reducible repeat (first | refine zh ?_ _ | refine zj ?_ | refine zi ?_ _)); exact BK689.out)) : gb697 ≠ gb689)); have n10_ := zm ((by rw [hg]; exact zn (zD (g := gb690) (o := .cells #[.int .u64 0, .int .u32 0, .slice none 0 0] 26 (0, 0)) (by (with_reducible repeat (first | refine zh ?_ _ | refine zj ?_ | refine zi ?_ _)); exact BK690.out)) : gb690 ≠ gb697)); have n11_ := zm ((by rw [hg]; exact zg (zD (g := gb690) (o := .cells #[.int .u64 0, .int .u32 0, .slice none 0 0] 26 (0, 0)) (by (with_reducible repeat (first | refine zh ?_ _ | refine zj ?_ | refine zi ?_ _)); exact BK690.out)) : gb697 ≠ gb690)); clear HO0_2; clear HO695; clear BK689; clear BK690; clear HB; have HO0_2 := n0_; have HO695 := n1_; have BK689 := n2_; have BK690 := n3_; have HB := n4_; have BK697 := n5_; have GW697 := n6_; have GE697 := n7_; have NB689_697 := n8_; have NB697_689 := n9_; have NB690_697 := n10_; have NB697_690 := n11_; clear n0_ n1_ n2_ n3_ n4_ n5_ n6_ n7_ n8_ n9_ n10_ n11_; clear hb hbox hg; have hnb13 := NB697_689.out; have hnc13 := NB689_697.out; have hnb14 := NB697_690.out; have hnc14 := NB690_697.out; have hcz15_0 : w12.cell? ⟨gb697, 0, none⟩ = some (.int .u64 0) := (zs BK697.out 0).trans rfl; have hcz15_1 : w12.cell? ⟨gb697, 1, none⟩ = some (.int .u32 0) := (zs BK697.out 1).trans rfl; have hcz15_2 : w12.cell? ⟨gb697, 2, none⟩ = some (.slice none 0 0) := (zs BK697.out 2).trans rfl; have hfz15_0 := zx BK697.out 0; have hfz15_1 := zx BK697.out 1; have hfz15_2 := zx BK697.out 2; obtain ⟨Ao16, co16, eo16⟩ := Kd.R_slice HO695.out; subst eo16))
 (try simp only [Act.put, List.setIfInBounds_toArray, List.set_cons_zero, List.set_cons_succ])
 go_cut [33] (fun v33 wc => ∃ (kq : Nat) (x33_5 : Bool), v33 = .bool x33_5 ∧ Aside0 (gain_Put.j0 kq l1 l2 a3 x33_5 a0_0 a0_1 l0_2 t691 t692 t693 = some (r1, r2, r3, r4)) ∧ Aside0 (kq ≤ k) ∧ Aside0 (Kd.V (Kd.int .u8) 5 wc w.heap.size (fun k_ => (P0_2_ k_ ∨ w.heap.size ≤ k_) ∧ some k_ ≠ ((.slice Ao16 t693.length co16) : Value).ownBlock ∧ k_ ≠ gb689 ∧ k_ ≠ gb690 ∧ k_ ≠ gb697) (.slice A0_2 l0_2.length c0_2) l0_2) ∧ Aside0 (Kd.R (Kd.int .u8) 5 wc w.heap.size (fun k_ => (w.heap.size ≤ k_)) (.slice Ao16 t693.length co16) t693) ∧ Aside0 (wc.heap[gb689]? = some (.cells #[.int .u64 a0_0, .int .u32 a0_1, (.slice A0_2 l0_2.length c0_2)] 26 (0, 0))) ∧ Aside0 (wc.heap[gb690]? = some (.cells #[.int .u64 0, .int .u32 0, (.slice none 0 0)] 26 (0, 0))) ∧ Aside0 (wc.heap[gb697]? = some (.cells #[.int .u64 t691, .int .u32 t692, (.slice Ao16 t693.length co16)] 26 (0, 0))) ∧ Aside0 (Below w.heap.size w wc))
 case first =>
  have H := HC6.out
  clear HC6
  replace H := Option.bind_eq_some_iff.mp H
  obtain ⟨t698, A170, H⟩ := H
  replace H : (if t698 = true then (if a3 = true then (gain_Put.j0 k l1 l2 a3 false a0_0 a0_1 l0_2 t691 t692 t693) else ((gain_Right.f k l2).bind fun t699 => (gain_Put.j0 k l1 l2 a3 (!t699) a0_0 a0_1 l0_2 t691 t692 t693))) else (gain_Put.j0 k l1 l2 a3 true a0_0 a0_1 l0_2 t691 t692 t693)) = some (r1, r2, r3, r4) := H
  have A17 := zm A170
  clear A170
  by_cases c18 : t698 = true
  ·
   subst c18
   have H1 : (if a3 = true then (gain_Put.j0 k l1 l2 a3 false a0_0 a0_1 l0_2 t691 t692 t693) else ((gain_Right.f k l2).bind fun t699 => (gain_Put.j0 k l1 l2 a3 (!t699) a0_0 a0_1 l0_2 t691 t692 t693))) = some (r1, r2, r3, r4) := by rw [if_pos rfl] at H; exact H
   clear H
   have H := H1
   clear H1
   by_cases c19 : a3 = true
   ·
    subst c19
    have H1 : (gain_Put.j0 k l1 l2 true false a0_0 a0_1 l0_2 t691 t692 t693) = some (r1, r2, r3, r4) := by rw [if_pos rfl] at H; exact H
    clear H
    have H := H1
    clear H1
    have H' := zm H
    clear H
    go_wp2_with (first | ((with_reducible refine gate_callee (f := 45) rfl ?_); refine goesL_ (some 23) rfl rfl Try.func45 (by kernel_rfl) rfl #[.slice A1 l1.length c1] rfl (by (try simp only [List.map_toArray, List.map_cons, List.map_nil]); first | done | rfl | (simp only [List.length_drop, List.length_take]; rfl)) ?_; (with_reducible refine (gain_Right.calls k _ _ l1 true _ ?side1 ?side2 A17.out).mono ?_); (case side1 => exact Kd.C_below HR1.out (by repeat (first | (with_reducible first | exact HB.out | apply ze | apply zd | apply zf | refine zk ?_ GE689.out | refine zk ?_ GE690.out | refine zk ?_ GE697.out) | exact HB.out))); (case side2 => exact HC1.out); rintro e w' ⟨rfl, ⟨nd, rfl⟩⟩; refine ⟨_, rfl, ?_⟩))
    go_meet
    case rel => exact ⟨_, (false), (by first | rfl | (simp; done) | (simp [*]; done)), H', ⟨by first | omega | exact Nat.le_refl _⟩, ⟨by (with_reducible repeat (first | apply zA | apply zB | apply zC)); exact zy (zI (p := ⟨gb697, 2, none⟩) (zI (p := ⟨gb697, 1, none⟩) (zI (p := ⟨gb697, 0, none⟩) (zy HO0_2.out (fun k_ hk => (⟨hk, hk.2⟩ : _ ∧ k_ ≠ gb697))) (fun _ hk => hk.2) (.int .u64 t691)) (fun _ hk => hk.2) (.int .u32 t692)) (fun _ hk => hk.2) (.slice Ao16 t693.length co16)) (fun _ hk => ⟨hk.1.1.1.1.1, ⟨hk.1.1.2, ⟨hk.1.1.1.1.2, ⟨hk.1.1.1.2, hk.1.2⟩⟩⟩⟩)⟩, ⟨by (with_reducible repeat (first | apply zo | apply zp | apply zq)); exact zG (zH (p := ⟨gb697, 2, none⟩) (zH (p := ⟨gb697, 1, none⟩) (zH (p := ⟨gb697, 0, none⟩) (Kd.R_types HO695.out BK697.out (by decide)) (fun _ hk => hk.2) (.int .u64 t691)) (fun _ hk => hk.2) (.int .u32 t692)) (fun _ hk => hk.2) (.slice Ao16 t693.length co16)) (fun _ hk => hk.1.1)⟩, ⟨by (with_reducible repeat (first | refine zh ?_ _ | refine zj ?_ | refine zi ?_ _)); refine zv ?_ NB689_697.out _; (with_reducible repeat (first | refine zh ?_ _ | refine zj ?_ | refine zi ?_ _)); refine zv ?_ NB689_697.out _; (with_reducible repeat (first | refine zh ?_ _ | refine zj ?_ | refine zi ?_ _)); refine zv ?_ NB689_697.out _; (with_reducible repeat (first | refine zh ?_ _ | refine zj ?_ | refine zi ?_ _)); exact BK689.out⟩, ⟨by (with_reducible repeat (first | refine zh ?_ _ | refine zj ?_ | refine zi ?_ _)); refine zv ?_ NB690_697.out _; (with_reducible repeat (first | refine zh ?_ _ | refine zj ?_ | refine zi ?_ _)); refine zv ?_ NB690_697.out _; (with_reducible repeat (first | refine zh ?_ _ | refine zj ?_ | refine zi ?_ _)); refine zv ?_ NB690_697.out _; (with_reducible repeat (first | refine zh ?_ _ | refine zj ?_ | refine zi ?_ _)); exact BK690.out⟩, ⟨by (with_reducible repeat (first | refine zh ?_ _ | refine zj ?_ | refine zi ?_ _)); refine zw (cs := #[.int .u64 t691, .int .u32 t692, .slice none 0 0]) ?_ 2 _ rfl; (with_reducible repeat (first | refine zh ?_ _ | refine zj ?_ | refine zi ?_ _)); refine zw (cs := #[.int .u64 t691, .int .u32 0, .slice none 0 0]) ?_ 1 _ rfl; (with_reducible repeat (first | refine zh ?_ _ | refine zj ?_ | refine zi ?_ _)); refine zw (cs := #[.int .u64 0, .int .u32 0, .slice none 0 0]) ?_ 0 _ rfl; (with_reducible repeat (first | refine zh ?_ _ | refine zj ?_ | refine zi ?_ _)); exact BK697.out⟩, ⟨by repeat (first | (with_reducible first | exact HB.out | apply ze | apply zd | apply zf | refine zk ?_ GE689.out | refine zk ?_ GE690.out | refine zk ?_ GE697.out) | exact HB.out)⟩⟩
   ·
    replace c19 := Bool.eq_false_iff.mpr c19
    subst c19
    have H1 : ((gain_Right.f k l2).bind fun t699 => (gain_Put.j0 k l1 l2 false (!t699) a0_0 a0_1 l0_2 t691 t692 t693)) = some (r1, r2, r3, r4) := by rw [if_neg (show ¬ (false = true) by decide)] at H; exact H
    clear H
    have H := H1
    clear H1
    replace H := Option.bind_eq_some_iff.mp H
    obtain ⟨t699, A200, H⟩ := H
    replace H : (gain_Put.j0 k l1 l2 false (!t699) a0_0 a0_1 l0_2 t691 t692 t693) = some (r1, r2, r3, r4) := H
    have A20 := zm A200
    clear A200
    have H' := zm H
    clear H
    go_wp2_with (first | ((with_reducible refine gate_callee (f := 45) rfl ?_); refine goesL_ (some 23) rfl rfl Try.func45 (by kernel_rfl) rfl #[.slice A1 l1.length c1] rfl (by (try simp only [List.map_toArray, List.map_cons, List.map_nil]); first | done | rfl | (simp only [List.length_drop, List.length_take]; rfl)) ?_; (with_reducible refine (gain_Right.calls k _ _ l1 true _ ?side1 ?side2 A17.out).mono ?_); (case side1 => exact Kd.C_below HR1.out (by repeat (first | (with_reducible first | exact HB.out | apply ze | apply zd | apply zf | refine zk ?_ GE689.out | refine zk ?_ GE690.out | refine zk ?_ GE697.out) | exact HB.out))); (case side2 => exact HC1.out); rintro e w' ⟨rfl, ⟨nd, rfl⟩⟩; refine ⟨_, rfl, ?_⟩) | (go_at_call 45; (with_reducible refine (gain_Right.calls k _ _ l2 t699 _ ?side1 ?side2 A20.out).mono ?_); (case side1 => exact Kd.C_below HR2.out (by repeat (first | (with_reducible first | exact HB.out | apply ze | apply zd | apply zf | refine zk ?_ GE689.out | refine zk ?_ GE690.out | refine zk ?_ GE697.out) | exact HB.out))); (case side2 => exact HC2.out); rintro e w' ⟨rfl, ⟨nd, rfl⟩⟩))
    go_meet
    case rel => exact ⟨_, (!t699), (by first | rfl | (simp; done) | (simp [*]; done)), H', ⟨by first | omega | exact Nat.le_refl _⟩, ⟨by (with_reducible repeat (first | apply zA | apply zB | apply zC)); exact zy (zI (p := ⟨gb697, 2, none⟩) (zI (p := ⟨gb697, 1, none⟩) (zI (p := ⟨gb697, 0, none⟩) (zy HO0_2.out (fun k_ hk => (⟨hk, hk.2⟩ : _ ∧ k_ ≠ gb697))) (fun _ hk => hk.2) (.int .u64 t691)) (fun _ hk => hk.2) (.int .u32 t692)) (fun _ hk => hk.2) (.slice Ao16 t693.length co16)) (fun _ hk => ⟨hk.1.1.1.1.1, ⟨hk.1.1.2, ⟨hk.1.1.1.1.2, ⟨hk.1.1.1.2, hk.1.2⟩⟩⟩⟩)⟩, ⟨by (with_reducible repeat (first | apply zo | apply zp | apply zq)); exact zG (zH (p := ⟨gb697, 2, none⟩) (zH (p := ⟨gb697, 1, none⟩) (zH (p := ⟨gb697, 0, none⟩) (Kd.R_types HO695.out BK697.out (by decide)) (fun _ hk => hk.2) (.int .u64 t691)) (fun _ hk => hk.2) (.int .u32 t692)) (fun _ hk => hk.2) (.slice Ao16 t693.length co16)) (fun _ hk => hk.1.1)⟩, ⟨by (with_reducible repeat (first | refine zh ?_ _ | refine zj ?_ | refine zi ?_ _)); refine zv ?_ NB689_697.out _; (with_reducible repeat (first | refine zh ?_ _ | refine zj ?_ | refine zi ?_ _)); refine zv ?_ NB689_697.out _; (with_reducible repeat (first | refine zh ?_ _ | refine zj ?_ | refine zi ?_ _)); refine zv ?_ NB689_697.out _; (with_reducible repeat (first | refine zh ?_ _ | refine zj ?_ | refine zi ?_ _)); exact BK689.out⟩, ⟨by (with_reducible repeat (first | refine zh ?_ _ | refine zj ?_ | refine zi ?_ _)); refine zv ?_ NB690_697.out _; (with_reducible repeat (first | refine zh ?_ _ | refine zj ?_ | refine zi ?_ _)); refine zv ?_ NB690_697.out _; (with_reducible repeat (first | refine zh ?_ _ | refine zj ?_ | refine zi ?_ _)); refine zv ?_ NB690_697.out _; (with_reducible repeat (first | refine zh ?_ _ | refine zj ?_ | refine zi ?_ _)); exact BK690.out⟩, ⟨by (with_reducible repeat (first | refine zh ?_ _ | refine zj ?_ | refine zi ?_ _)); refine zw (cs := #[.int .u64 t691, .int .u32 t692, .slice none 0 0]) ?_ 2 _ rfl; (with_reducible repeat (first | refine zh ?_ _ | refine zj ?_ | refine zi ?_ _)); refine zw (cs := #[.int .u64 t691, .int .u32 0, .slice none 0 0]) ?_ 1 _ rfl; (with_reducible repeat (first | refine zh ?_ _ | refine zj ?_ | refine zi ?_ _)); refine zw (cs := #[.int .u64 0, .int .u32 0, .slice none 0 0]) ?_ 0 _ rfl; (with_reducible repeat (first | refine zh ?_ _ | refine zj ?_ | refine zi ?_ _)); exact BK697.out⟩, ⟨by repeat (first | (with_reducible first | exact HB.out | apply ze | apply zd | apply zf | refine zk ?_ GE689.out | refine zk ?_ GE690.out | refine zk ?_ GE697.out) | exact HB.out)⟩⟩
  ·
   replace c18 := Bool.eq_false_iff.mpr c18
   subst c18
   have H1 : (gain_Put.j0 k l1 l2 a3 true a0_0 a0_1 l0_2 t691 t692 t693) = some (r1, r2, r3, r4) := by rw [if_neg (show ¬ (false = true) by decide)] at H; exact H
   clear H
   have H := H1
   clear H1
   have H' := zm H
   clear H
   go_wp2_with (first | ((with_reducible refine gate_callee (f := 45) rfl ?_); refine goesL_ (some 23) rfl rfl Try.func45 (by kernel_rfl) rfl #[.slice A1 l1.length c1] rfl (by (try simp only [List.map_toArray, List.map_cons, List.map_nil]); first | done | rfl | (simp only [List.length_drop, List.length_take]; rfl)) ?_; (with_reducible refine (gain_Right.calls k _ _ l1 false _ ?side1 ?side2 A17.out).mono ?_); (case side1 => exact Kd.C_below HR1.out (by repeat (first | (with_reducible first | exact HB.out | apply ze | apply zd | apply zf | refine zk ?_ GE689.out | refine zk ?_ GE690.out | refine zk ?_ GE697.out) | exact HB.out))); (case side2 => exact HC1.out); rintro e w' ⟨rfl, ⟨nd, rfl⟩⟩; refine ⟨_, rfl, ?_⟩))
   go_meet
   case rel => exact ⟨_, (true), (by first | rfl | (simp; done) | (simp [*]; done)), H', ⟨by first | omega | exact Nat.le_refl _⟩, ⟨by (with_reducible repeat (first | apply zA | apply zB | apply zC)); exact zy (zI (p := ⟨gb697, 2, none⟩) (zI (p := ⟨gb697, 1, none⟩) (zI (p := ⟨gb697, 0, none⟩) (zy HO0_2.out (fun k_ hk => (⟨hk, hk.2⟩ : _ ∧ k_ ≠ gb697))) (fun _ hk => hk.2) (.int .u64 t691)) (fun _ hk => hk.2) (.int .u32 t692)) (fun _ hk => hk.2) (.slice Ao16 t693.length co16)) (fun _ hk => ⟨hk.1.1.1.1.1, ⟨hk.1.1.2, ⟨hk.1.1.1.1.2, ⟨hk.1.1.1.2, hk.1.2⟩⟩⟩⟩)⟩, ⟨by (with_reducible repeat (first | apply zo | apply zp | apply zq)); exact zG (zH (p := ⟨gb697, 2, none⟩) (zH (p := ⟨gb697, 1, none⟩) (zH (p := ⟨gb697, 0, none⟩) (Kd.R_types HO695.out BK697.out (by decide)) (fun _ hk => hk.2) (.int .u64 t691)) (fun _ hk => hk.2) (.int .u32 t692)) (fun _ hk => hk.2) (.slice Ao16 t693.length co16)) (fun _ hk => hk.1.1)⟩, ⟨by (with_reducible repeat (first | refine zh ?_ _ | refine zj ?_ | refine zi ?_ _)); refine zv ?_ NB689_697.out _; (with_reducible repeat (first | refine zh ?_ _ | refine zj ?_ | refine zi ?_ _)); refine zv ?_ NB689_697.out _; (with_reducible repeat (first | refine zh ?_ _ | refine zj ?_ | refine zi ?_ _)); refine zv ?_ NB689_697.out _; (with_reducible repeat (first | refine zh ?_ _ | refine zj ?_ | refine zi ?_ _)); exact BK689.out⟩, ⟨by (with_reducible repeat (first | refine zh ?_ _ | refine zj ?_ | refine zi ?_ _)); refine zv ?_ NB690_697.out _; (with_reducible repeat (first | refine zh ?_ _ | refine zj ?_ | refine zi ?_ _)); refine zv ?_ NB690_697.out _; (with_reducible repeat (first | refine zh ?_ _ | refine zj ?_ | refine zi ?_ _)); refine zv ?_ NB690_697.out _; (with_reducible repeat (first | refine zh ?_ _ | refine zj ?_ | refine zi ?_ _)); exact BK690.out⟩, ⟨by (with_reducible repeat (first | refine zh ?_ _ | refine zj ?_ | refine zi ?_ _)); refine zw (cs := #[.int .u64 t691, .int .u32 t692, .slice none 0 0]) ?_ 2 _ rfl; (with_reducible repeat (first | refine zh ?_ _ | refine zj ?_ | refine zi ?_ _)); refine zw (cs := #[.int .u64 t691, .int .u32 0, .slice none 0 0]) ?_ 1 _ rfl; (with_reducible repeat (first | refine zh ?_ _ | refine zj ?_ | refine zi ?_ _)); refine zw (cs := #[.int .u64 0, .int .u32 0, .slice none 0 0]) ?_ 0 _ rfl; (with_reducible repeat (first | refine zh ?_ _ | refine zj ?_ | refine zi ?_ _)); exact BK697.out⟩, ⟨by repeat (first | (with_reducible first | exact HB.out | apply ze | apply zd | apply zf | refine zk ?_ GE689.out | refine zk ?_ GE690.out | refine zk ?_ GE697.out) | exact HB.out)⟩⟩
 case rest =>
  clear HC6
  try clear c1
  try clear c2
  try clear p2
  try clear c4
  try clear c9
  try clear c13
  try clear c14
  try clear c18
  try clear c19
  try clear hcz10_0
  try clear hcz10_1
  try clear hcz10_2
  try clear hcz15_0
  try clear hcz15_1
  try clear hcz15_2
  try clear hfz10_0
  try clear hfz10_1
  try clear hfz10_2
  try clear hfz15_0
  try clear hfz15_1
  try clear hfz15_2
  obtain ⟨kq, x33_5, rfl, HA, HJ5, HO_690002, HO_698002, BK689, BK690, BK697, HB⟩ := hcut
  cases kq with
  | zero => exact absurd HA.out (by simp [gain_Put.j0])
  | succ kj5 =>
   have H := HA.out
   clear HA
   simp only [gain_Put.j0] at H
   by_cases c21 : x33_5 = true
   ·
    subst c21
    have H1 : (some (t691, t692, t693, 1)) = some (r1, r2, r3, r4) := by rw [if_pos rfl] at H; exact H
    clear H
    have H := H1
    clear H1
    simp only [Option.some.injEq, Prod.mk.injEq] at H
    obtain ⟨rfl, rfl, rfl, rfl⟩ := H
    have hnb22 := NB697_689.out
    have hnc22 := NB689_697.out
    have hnb23 := NB697_690.out
    have hnc23 := NB690_697.out
    have hcz24_0 : wc.cell? ⟨gb697, 0, none⟩ = some (.int .u64 t691) := (zs BK697.out 0).trans rfl
    have hcz24_1 : wc.cell? ⟨gb697, 1, none⟩ = some (.int .u32 t692) := (zs BK697.out 1).trans rfl
    have hcz24_2 : wc.cell? ⟨gb697, 2, none⟩ = some (.slice Ao16 t693.length co16) := (zs BK697.out 2).trans rfl
    have hfz24_0 := zx BK697.out 0
    have hfz24_1 := zx BK697.out 1
    have hfz24_2 := zx BK697.out 2
    have hnb25 := NB690_689.out
    have hnc25 := NB689_690.out
    have hcz26_0 : wc.cell? ⟨gb690, 0, none⟩ = some (.int .u64 0) := (zs BK690.out 0).trans rfl
    have hcz26_1 : wc.cell? ⟨gb690, 1, none⟩ = some (.int .u32 0) := (zs BK690.out 1).trans rfl
    have hcz26_2 : wc.cell? ⟨gb690, 2, none⟩ = some (.slice none 0 0) := (zs BK690.out 2).trans rfl
    have hfz26_0 := zx BK690.out 0
    have hfz26_1 := zx BK690.out 1
    have hfz26_2 := zx BK690.out 2
    go_wp2
    refine bodyPost_ret (results_ct rfl _ _ gb690 26 #[.int .u64 t691, .int .u32 t692, .slice Ao16 t693.length co16] (0, 0) _ rfl (by (with_reducible repeat (first | refine zh ?_ _ | refine zj ?_ | refine zi ?_ _)); refine zw (cs := #[.int .u64 t691, .int .u32 t692, .slice none 0 0]) ?_ 2 _ rfl; (with_reducible repeat (first | refine zh ?_ _ | refine zj ?_ | refine zi ?_ _)); refine zw (cs := #[.int .u64 t691, .int .u32 0, .slice none 0 0]) ?_ 1 _ rfl; (with_reducible repeat (first | refine zh ?_ _ | refine zj ?_ | refine zi ?_ _)); refine zw (cs := #[.int .u64 0, .int .u32 0, .slice none 0 0]) ?_ 0 _ rfl; (with_reducible repeat (first | refine zh ?_ _ | refine zj ?_ | refine zi ?_ _)); exact BK690.out) Try.underlying26 rfl (by kernel_rfl)) rfl ?_
    exact ⟨_, by first | rfl | (simp [errW_none, errW_some] <;> rfl) | (simp [*, errW_none, errW_some] <;> rfl), zy (Kd.R_V (by (with_reducible repeat (first | apply zo | apply zp | apply zq)); exact zG (zH (p := ⟨gb690, 2, none⟩) (zH (p := ⟨gb690, 1, none⟩) (zH (p := ⟨gb690, 0, none⟩) (Kd.R_types HO_698002.out BK690.out (by decide)) (fun _ hk => hk.2) (.int .u64 t691)) (fun _ hk => hk.2) (.int .u32 t692)) (fun _ hk => hk.2) (.slice Ao16 t693.length co16)) (fun _ hk => hk.1))) (fun k_ hk => by first | exact ⟨(.inr (hk.1)), hk.2⟩ | exact (.inr (hk))), by repeat (first | (with_reducible first | exact HB.out | apply ze | apply zd | apply zf | refine zk ?_ GE689.out | refine zk ?_ GE690.out | refine zk ?_ GE697.out) | exact HB.out)⟩
   ·
    replace c21 := Bool.eq_false_iff.mpr c21
    subst c21
    have H1 : (gain_Put.l0 kj5 l1 l2 a3 0 t691 t692 t693 a0_0 a0_1 l0_2) = some (r1, r2, r3, r4) := by rw [if_neg (show ¬ (false = true) by decide)] at H; exact H
    clear H
    have H := H1
    clear H1
    have H' := zm H
    clear H
    have hnb27 := NB689_690.out
    have hnc27 := NB690_689.out
    have hnb28 := NB689_697.out
    have hnc28 := NB697_689.out
    have hcz29_0 : wc.cell? ⟨gb689, 0, none⟩ = some (.int .u64 a0_0) := (zs BK689.out 0).trans rfl
    have hcz29_1 : wc.cell? ⟨gb689, 1, none⟩ = some (.int .u32 a0_1) := (zs BK689.out 1).trans rfl
    have hcz29_2 : wc.cell? ⟨gb689, 2, none⟩ = some (.slice A0_2 l0_2.length c0_2) := (zs BK689.out 2).trans rfl
    have hfz29_0 := zx BK689.out 0
    have hfz29_1 := zx BK689.out 1
    have hfz29_2 := zx BK689.out 2
    go_wp2_with (first | ((with_reducible refine gate_dst (N := 12) rfl ?_); refine box_event ?hg (N := 12) ?hd (cs := #[.int .u64 0, .int .u32 0, .slice none 0 0]) (t := 26) ?hr ?_; (case hd => rfl); (case hg => rfl); (case hr => first | (go_simp; done) | (go_simp; rfl)); intro gb700 hg w30 hbox hb; have n0_ := zm (Kd.V_below (Kd.V_elderB (by (with_reducible repeat (first | apply zA | apply zB | apply zC)); exact HO_690002.out) gb700 (Nat.le_of_eq hg.symm)) hb); have n1_ := zm (Kd.R_below (by (with_reducible repeat (first | apply zo | apply zp | apply zq)); exact HO_698002.out) hb); have n2_ := zm (zF (g := gb689) (o := .cells #[.int .u64 a0_0, .int .u32 a0_1, .slice A0_2 l0_2.length c0_2] 26 (0, 0)) (by (with_reducible repeat (first | refine zh ?_ _ | refine zj ?_ | refine zi ?_ _)); exact BK689.out) hb); have n3_ := zm (zF (g := gb690) (o := .cells #[.int .u64 0, .int .u32 0, .slice none 0 0] 26 (0, 0)) (by (with_reducible repeat (first | refine zh ?_ _ | refine zj ?_ | refine zi ?_ _)); exact BK690.out) hb); have n4_ := zm (zF (g := gb697) (o := .cells #[.int .u64 t691, .int .u32 t692, .slice Ao16 t693.length co16] 26 (0, 0)) (by (with_reducible repeat (first | refine zh ?_ _ | refine zj ?_ | refine zi ?_ _)); exact BK697.out) hb); have n5_ := zm (zJ (by repeat (first | (with_reducible first | exact HB.out | apply ze | apply zd | apply zf | refine zk ?_ GE689.out | refine zk ?_ GE690.out | refine zk ?_ GE697.out) | exact HB.out)) hb); have n6_ := zm (hbox); have n7_ := zm ((by rw [hg]; exact (zE (by repeat (first | (with_reducible first | exact HB.out | apply ze | apply zd | apply zf | refine zk ?_ GE689.out | refine zk ?_ GE690.out | refine zk ?_ GE697.out) | exact HB.out))) : w.heap.size ≤ gb700)); have n8_ := zm ((by rw [hg]; exact (zE (by repeat (first | (with_reducible first | exact HB.out | apply ze | apply zd | apply zf | refine zk ?_ GE689.out | refine zk ?_ GE690.out | refine zk ?_ GE697.out) | exact HB.out))) : w.heap.size ≤ gb700)); have n9_ := zm ((by rw [hg]; exact zn (zD (g := gb689) (o := .cells #[.int .u64 a0_0, .int .u32 a0_1, .slice A0_2 l0_2.length c0_2] 26 (0, 0)) (by (with_reducible repeat (first | refine zh ?_ _ | refine zj ?_ | refine zi ?_ _)); exact BK689.out)) : gb689 ≠ gb700)); have n10_ := zm ((by rw [hg]; exact zg (zD (g := gb689) (o := .cells #[.int .u64 a0_0, .int .u32 a0_1, .slice A0_2 l0_2.length c0_2] 26 (0, 0)) (by (with_reducible repeat (first | refine zh ?_ _ | refine zj ?_ | refine zi ?_ _)); exact BK689.out)) : gb700 ≠ gb689)); have n11_ := zm ((by rw [hg]; exact zn (zD (g := gb690) (o := .cells #[.int .u64 0, .int .u32 0, .slice none 0 0] 26 (0, 0)) (by (with_reducible repeat (first | refine zh ?_ _ | refine zj ?_ | refine zi ?_ _)); exact BK690.out)) : gb690 ≠ gb700)); have n12_ := zm ((by rw [hg]; exact zg (zD (g := gb690) (o := .cells #[.int .u64 0, .int .u32 0, .slice none 0 0] 26 (0, 0)) (by (with_reducible repeat (first | refine zh ?_ _ | refine zj ?_ | refine zi ?_ _)); exact BK690.out)) : gb700 ≠ gb690)); have n13_ := zm ((by rw [hg]; exact zn (zD (g := gb697) (o := .cells #[.int .u64 t691, .int .u32 t692, .slice Ao16 t693.length co16] 26 (0, 0)) (by (with_reducible repeat (first | refine zh ?_ _ | refine zj ?_ | refine zi ?_ _)); exact BK697.out)) : gb697 ≠ gb700)); have n14_ := zm ((by rw [hg]; exact zg (zD (g := gb697) (o := .cells #[.int .u64 t691, .int .u32 t692, .slice Ao16 t693.length co16] 26 (0, 0)) (by (with_reducible repeat (first | refine zh ?_ _ | refine zj ?_ | refine zi ?_ _)); exact BK697.out)) : gb700 ≠ gb697)); clear HO_690002; clear HO_698002; clear BK689; clear BK690; clear BK697; clear HB; have HO_690002 := n0_; have HO_698002 := n1_; have BK689 := n2_; have BK690 := n3_; have BK697 := n4_; have HB := n5_; have BK700 := n6_; have GW700 := n7_; have GE700 := n8_; have NB689_700 := n9_; have NB700_689 := n10_; have NB690_700 := n11_; have NB700_690 := n12_; have NB697_700 := n13_; have NB700_697 := n14_; clear n0_ n1_ n2_ n3_ n4_ n5_ n6_ n7_ n8_ n9_ n10_ n11_ n12_ n13_ n14_; clear hb hbox hg; have hnb31 := NB700_689.out; have hnc31 := NB689_700.out; have hnb32 := NB700_690.out; have hnc32 := NB690_700.out; have hnb33 := NB700_697.out; have hnc33 := NB697_700.out; have hcz34_0 : w30.cell? ⟨gb700, 0, none⟩ = some (.int .u64 0) := (zs BK700.out 0).trans rfl; have hcz34_1 : w30.cell? ⟨gb700, 1, none⟩ = some (.int .u32 0) := (zs BK700.out 1).trans rfl; have hcz34_2 : w30.cell? ⟨gb700, 2, none⟩ = some (.slice none 0 0) := (zs BK700.out 2).trans rfl; have hfz34_0 := zx BK700.out 0; have hfz34_1 := zx BK700.out 1; have hfz34_2 := zx BK700.out 2))
    go_loopg [36] kj5 (fun kq v36 w' => ∃ (x36_2 : Int) (x691000_2 : Int) (x691001_2 : Int) (x701000_2 : Int) (x701001_2 : Int) (x701002_2 : List Int) (u701002 : Value), v36 = .int .i64 x36_2 ∧ Aside0 (gain_Put.l0 kq l1 l2 a3 x36_2 t691 t692 t693 x701000_2 x701001_2 x701002_2 = some (r1, r2, r3, r4)) ∧ Aside0 (kq ≤ kj5) ∧ Aside0 (Kd.V (Kd.int .u8) 5 w' w.heap.size (fun k_ => (P0_2_ k_ ∨ w.heap.size ≤ k_) ∧ some k_ ≠ ((.slice Ao16 t693.length co16) : Value).ownBlock ∧ k_ ≠ gb689 ∧ k_ ≠ gb690 ∧ k_ ≠ gb697 ∧ k_ ≠ gb700) (.slice A0_2 l0_2.length c0_2) l0_2) ∧ Aside0 (Kd.R (Kd.int .u8) 5 w' w.heap.size (fun k_ => (w.heap.size ≤ k_)) (.slice Ao16 t693.length co16) t693) ∧ Aside0 (Kd.V (Kd.int .u8) 5 w' w.heap.size (fun k_ => (P0_2_ k_ ∨ w.heap.size ≤ k_) ∧ some k_ ≠ ((.slice Ao16 t693.length co16) : Value).ownBlock ∧ k_ ≠ gb689 ∧ k_ ≠ gb690 ∧ k_ ≠ gb697 ∧ k_ ≠ gb700) u701002 x701002_2) ∧ Aside0 (w'.heap[gb689]? = some (.cells #[.int .u64 a0_0, .int .u32 a0_1, (.slice A0_2 l0_2.length c0_2)] 26 (0, 0))) ∧ Aside0 (w'.heap[gb690]? = some (.cells #[.int .u64 x691000_2, .int .u32 x691001_2, (.slice none 0 0)] 26 (0, 0))) ∧ Aside0 (w'.heap[gb697]? = some (.cells #[.int .u64 t691, .int .u32 t692, (.slice Ao16 t693.length co16)] 26 (0, 0))) ∧ Aside0 (w'.heap[gb700]? = some (.cells #[.int .u64 x701000_2, .int .u32 x701001_2, u701002] 26 (0, 0))) ∧ Aside0 (Below w.heap.size w w'))
    case atStart => exact ⟨(0), (0), (0), (a0_0), (a0_1), (l0_2), (.slice A0_2 l0_2.length c0_2), (by first | rfl | (simp; done) | (simp [*]; done)), H', ⟨Nat.le_refl _⟩, ⟨by (with_reducible repeat (first | apply zA | apply zB | apply zC)); exact zy (zI (p := ⟨gb700, 2, none⟩) (zI (p := ⟨gb700, 1, none⟩) (zI (p := ⟨gb700, 0, none⟩) (zy HO_690002.out (fun k_ hk => (⟨hk, hk.2⟩ : _ ∧ k_ ≠ gb700))) (fun _ hk => hk.2) (.int .u64 a0_0)) (fun _ hk => hk.2) (.int .u32 a0_1)) (fun _ hk => hk.2) (.slice A0_2 l0_2.length c0_2)) (fun _ hk => ⟨hk.1.1.1, ⟨hk.1.1.2.1, ⟨hk.1.1.2.2.1, ⟨hk.1.1.2.2.2.1, ⟨hk.1.1.2.2.2.2, hk.1.2⟩⟩⟩⟩⟩)⟩, ⟨by (with_reducible repeat (first | apply zo | apply zp | apply zq)); exact zG (zH (p := ⟨gb700, 2, none⟩) (zH (p := ⟨gb700, 1, none⟩) (zH (p := ⟨gb700, 0, none⟩) (Kd.R_types HO_698002.out BK700.out (by decide)) (fun _ hk => hk.2) (.int .u64 a0_0)) (fun _ hk => hk.2) (.int .u32 a0_1)) (fun _ hk => hk.2) (.slice A0_2 l0_2.length c0_2)) (fun _ hk => hk.1)⟩, ⟨by (with_reducible repeat (first | apply zA | apply zB | apply zC)); exact zy (zI (p := ⟨gb700, 2, none⟩) (zI (p := ⟨gb700, 1, none⟩) (zI (p := ⟨gb700, 0, none⟩) (zy HO_690002.out (fun k_ hk => (⟨hk, hk.2⟩ : _ ∧ k_ ≠ gb700))) (fun _ hk => hk.2) (.int .u64 a0_0)) (fun _ hk => hk.2) (.int .u32 a0_1)) (fun _ hk => hk.2) (.slice A0_2 l0_2.length c0_2)) (fun _ hk => ⟨hk.1.1.1, ⟨hk.1.1.2.1, ⟨hk.1.1.2.2.1, ⟨hk.1.1.2.2.2.1, ⟨hk.1.1.2.2.2.2, hk.1.2⟩⟩⟩⟩⟩)⟩, ⟨by (with_reducible repeat (first | refine zh ?_ _ | refine zj ?_ | refine zi ?_ _)); refine zv ?_ NB689_700.out _; (with_reducible repeat (first | refine zh ?_ _ | refine zj ?_ | refine zi ?_ _)); refine zv ?_ NB689_700.out _; (with_reducible repeat (first | refine zh ?_ _ | refine zj ?_ | refine zi ?_ _)); refine zv ?_ NB689_700.out _; (with_reducible repeat (first | refine zh ?_ _ | refine zj ?_ | refine zi ?_ _)); exact BK689.out⟩, ⟨by (with_reducible repeat (first | refine zh ?_ _ | refine zj ?_ | refine zi ?_ _)); refine zv ?_ NB690_700.out _; (with_reducible repeat (first | refine zh ?_ _ | refine zj ?_ | refine zi ?_ _)); refine zv ?_ NB690_700.out _; (with_reducible repeat (first | refine zh ?_ _ | refine zj ?_ | refine zi ?_ _)); refine zv ?_ NB690_700.out _; (with_reducible repeat (first | refine zh ?_ _ | refine zj ?_ | refine zi ?_ _)); exact BK690.out⟩, ⟨by (with_reducible repeat (first | refine zh ?_ _ | refine zj ?_ | refine zi ?_ _)); refine zv ?_ NB697_700.out _; (with_reducible repeat (first | refine zh ?_ _ | refine zj ?_ | refine zi ?_ _)); refine zv ?_ NB697_700.out _; (with_reducible repeat (first | refine zh ?_ _ | refine zj ?_ | refine zi ?_ _)); refine zv ?_ NB697_700.out _; (with_reducible repeat (first | refine zh ?_ _ | refine zj ?_ | refine zi ?_ _)); exact BK697.out⟩, ⟨by (with_reducible repeat (first | refine zh ?_ _ | refine zj ?_ | refine zi ?_ _)); refine zw (cs := #[.int .u64 a0_0, .int .u32 a0_1, .slice none 0 0]) ?_ 2 _ rfl; (with_reducible repeat (first | refine zh ?_ _ | refine zj ?_ | refine zi ?_ _)); refine zw (cs := #[.int .u64 a0_0, .int .u32 0, .slice none 0 0]) ?_ 1 _ rfl; (with_reducible repeat (first | refine zh ?_ _ | refine zj ?_ | refine zi ?_ _)); refine zw (cs := #[.int .u64 0, .int .u32 0, .slice none 0 0]) ?_ 0 _ rfl; (with_reducible repeat (first | refine zh ?_ _ | refine zj ?_ | refine zi ?_ _)); exact BK700.out⟩, ⟨by repeat (first | (with_reducible first | exact HB.out | apply ze | apply zd | apply zf | refine zk ?_ GE689.out | refine zk ?_ GE690.out | refine zk ?_ GE697.out | refine zk ?_ GE700.out) | exact HB.out)⟩⟩
    case round =>
     clear H'
     try clear c1
     try clear c2
     try clear p2
     try clear c3
     try clear c4
     try clear c9
     try clear c13
     try clear c14
     try clear c18
     try clear c19
     try clear c21
     try clear c22
     try clear c23
     try clear c25
     try clear c27
     try clear c28
     try clear c31
     try clear c32
     try clear c33
     try clear hcz10_0
     try clear hcz10_1
     try clear hcz10_2
     try clear hcz15_0
     try clear hcz15_1
     try clear hcz15_2
     try clear hcz24_0
     try clear hcz24_1
     try clear hcz24_2
     try clear hcz26_0
     try clear hcz26_1
     try clear hcz26_2
     try clear hcz29_0
     try clear hcz29_1
     try clear hcz29_2
     try clear hcz34_0
     try clear hcz34_1
     try clear hcz34_2
     try clear hfz10_0
     try clear hfz10_1
     try clear hfz10_2
     try clear hfz15_0
     try clear hfz15_1
     try clear hfz15_2
     try clear hfz24_0
     try clear hfz24_1
     try clear hfz24_2
     try clear hfz26_0
     try clear hfz26_1
     try clear hfz26_2
     try clear hfz29_0
     try clear hfz29_1
     try clear hfz29_2
     try clear hfz34_0
     try clear hfz34_1
     try clear hfz34_2
     try clear p2
     obtain ⟨x36_2, x691000_2, x691001_2, x701000_2, x701001_2, x701002_2, u701002, rfl, HA, HK2, HO_690002, HO_698002, HO_701002, BK689, BK690, BK697, BK700, HB⟩ := hrel
     cases gk with
     | zero => exact absurd HA.out (by simp [gain_Put.l0])
     | succ k2 =>
      have H := HA.out
      clear HA
      simp only [gain_Put.l0] at H
      by_cases c35 : x36_2 < 5
      ·
       rw [if_pos c35] at H
       have c35b0 : decide (x36_2 < 5) = true := decide_eq_true c35
       clear c35
       have HC36 := zm H
       clear H
       go_upto_if 40 with (fail)
       go_cut [14] (fun v14 wc => ∃ (kq : Nat) (x14_35 : Int), v14 = .int .i64 x14_35 ∧ Aside0 (gain_Put.j2 kq l1 l2 a3 x36_2 x14_35 x36_2 t691 t692 t693 x701000_2 x701001_2 x701002_2 = some (r1, r2, r3, r4)) ∧ Aside0 (kq ≤ k2) ∧ Aside0 (Kd.V (Kd.int .u8) 5 wc w.heap.size (fun k_ => (P0_2_ k_ ∨ w.heap.size ≤ k_) ∧ some k_ ≠ ((.slice Ao16 t693.length co16) : Value).ownBlock ∧ k_ ≠ gb689 ∧ k_ ≠ gb690 ∧ k_ ≠ gb697 ∧ k_ ≠ gb700) (.slice A0_2 l0_2.length c0_2) l0_2) ∧ Aside0 (Kd.R (Kd.int .u8) 5 wc w.heap.size (fun k_ => (w.heap.size ≤ k_)) (.slice Ao16 t693.length co16) t693) ∧ Aside0 (Kd.V (Kd.int .u8) 5 wc w.heap.size (fun k_ => (P0_2_ k_ ∨ w.heap.size ≤ k_) ∧ some k_ ≠ ((.slice Ao16 t693.length co16) : Value).ownBlock ∧ k_ ≠ gb689 ∧ k_ ≠ gb690 ∧ k_ ≠ gb697 ∧ k_ ≠ gb700) u701002 x701002_2) ∧ Aside0 (wc.heap[gb689]? = some (.cells #[.int .u64 a0_0, .int .u32 a0_1, (.slice A0_2 l0_2.length c0_2)] 26 (0, 0))) ∧ Aside0 (wc.heap[gb690]? = some (.cells #[.int .u64 x691000_2, .int .u32 x691001_2, (.slice none 0 0)] 26 (0, 0))) ∧ Aside0 (wc.heap[gb697]? = some (.cells #[.int .u64 t691, .int .u32 t692, (.slice Ao16 t693.length co16)] 26 (0, 0))) ∧ Aside0 (wc.heap[gb700]? = some (.cells #[.int .u64 x701000_2, .int .u32 x701001_2, u701002] 26 (0, 0))) ∧ Aside0 (Below w.heap.size w wc))
       case first =>
        have H := HC36.out
        clear HC36
        by_cases c37 : a3 = true
        ·
         subst c37
         have H1 : (gain_Put.j2 k2 l1 l2 true x36_2 0 x36_2 t691 t692 t693 x701000_2 x701001_2 x701002_2) = some (r1, r2, r3, r4) := by rw [if_pos rfl] at H; exact H
         clear H
         have H := H1
         clear H1
         have H' := zm H
         clear H
         go_wp2
         go_meet
         case rel => exact ⟨_, (0), (by first | rfl | (simp; done) | (simp [*]; done)), H', ⟨by have := HJ5.out; have := HK2.out; first | omega | exact Nat.le_refl _⟩, ⟨by (with_reducible repeat (first | apply zA | apply zB | apply zC)); exact HO_690002.out⟩, ⟨by (with_reducible repeat (first | apply zo | apply zp | apply zq)); exact HO_698002.out⟩, ⟨by (with_reducible repeat (first | apply zA | apply zB | apply zC)); exact HO_701002.out⟩, ⟨by (with_reducible repeat (first | refine zh ?_ _ | refine zj ?_ | refine zi ?_ _)); exact BK689.out⟩, ⟨by (with_reducible repeat (first | refine zh ?_ _ | refine zj ?_ | refine zi ?_ _)); exact BK690.out⟩, ⟨by (with_reducible repeat (first | refine zh ?_ _ | refine zj ?_ | refine zi ?_ _)); exact BK697.out⟩, ⟨by (with_reducible repeat (first | refine zh ?_ _ | refine zj ?_ | refine zi ?_ _)); exact BK700.out⟩, ⟨by repeat (first | (with_reducible first | exact HB.out | apply ze | apply zd | apply zf | refine zk ?_ GE689.out | refine zk ?_ GE690.out | refine zk ?_ GE697.out | refine zk ?_ GE700.out) | exact HB.out)⟩⟩
        ·
         replace c37 := Bool.eq_false_iff.mpr c37
         subst c37
         have H1 : (if 0 ≤ x36_2 then (if x36_2 < (l2.length : Int) then (gain_Put.j2 k2 l1 l2 false x36_2 (rd l2 x36_2) x36_2 t691 t692 t693 x701000_2 x701001_2 x701002_2) else (none)) else (none)) = some (r1, r2, r3, r4) := by rw [if_neg (show ¬ (false = true) by decide)] at H; exact H
         clear H
         have H := H1
         clear H1
         by_cases c38 : 0 ≤ x36_2
         ·
          rw [if_pos c38] at H
          have c38b0 : decide (0 ≤ x36_2) = true := decide_eq_true c38
          clear c38
          (first | rw [c38b0] | (simp only [i64_w, i32_w]; rw [c38b0]) | skip)
          by_cases c39 : x36_2 < (l2.length : Int)
          ·
           rw [if_pos c39] at H
           have c39b0 : decide (x36_2 < (l2.length : Int)) = true := decide_eq_true c39
           clear c39
           have H' := zm H
           clear H
           have p701 : 0 ≤ (x36_2 : Int) := of_decide_eq_true (by first | (with_reducible assumption) | assumption)
           have q701 : x36_2 < (l2.length : Int) := of_decide_eq_true (by first | (with_reducible assumption) | assumption)
           obtain ⟨ad701, e701, hx701_0⟩ := Kd.at_int HR2.out x36_2 p701 q701
           cases e701
           replace hx701_0 := (HB.out.cell (zb w _ hx701_0)).trans hx701_0
           replace p701 := eq_true p701
           replace q701 := eq_true q701
           go_wp2
           go_meet
           case rel => exact ⟨_, (rd l2 x36_2), (by first | rfl | (simp; done) | (simp [*]; done)), H', ⟨by have := HJ5.out; have := HK2.out; first | omega | exact Nat.le_refl _⟩, ⟨by (with_reducible repeat (first | apply zA | apply zB | apply zC)); exact HO_690002.out⟩, ⟨by (with_reducible repeat (first | apply zo | apply zp | apply zq)); exact HO_698002.out⟩, ⟨by (with_reducible repeat (first | apply zA | apply zB | apply zC)); exact HO_701002.out⟩, ⟨by (with_reducible repeat (first | refine zh ?_ _ | refine zj ?_ | refine zi ?_ _)); exact BK689.out⟩, ⟨by (with_reducible repeat (first | refine zh ?_ _ | refine zj ?_ | refine zi ?_ _)); exact BK690.out⟩, ⟨by (with_reducible repeat (first | refine zh ?_ _ | refine zj ?_ | refine zi ?_ _)); exact BK697.out⟩, ⟨by (with_reducible repeat (first | refine zh ?_ _ | refine zj ?_ | refine zi ?_ _)); exact BK700.out⟩, ⟨by repeat (first | (with_reducible first | exact HB.out | apply ze | apply zd | apply zf | refine zk ?_ GE689.out | refine zk ?_ GE690.out | refine zk ?_ GE697.out | refine zk ?_ GE700.out) | exact HB.out)⟩⟩
          ·
           rw [if_neg c39] at H
           exact absurd H (by simp)
         ·
          rw [if_neg c38] at H
          exact absurd H (by simp)
       case rest =>
        clear HC36
        try clear c1
        try clear c2
        try clear p2
        try clear c3
        try clear c4
        try clear p7
        try clear q7
        try clear hx7
        try clear c9
        try clear c13
        try clear c14
        try clear c18
        try clear c19
        try clear c21
        try clear c22
        try clear c23
        try clear c25
        try clear c27
        try clear c28
        try clear c31
        try clear c32
        try clear c33
        try clear c35
        try clear c35b0
        try clear c37
        try clear c38
        try clear c38b0
        try clear c39
        try clear c39b0
        try clear hcz10_0
        try clear hcz10_1
        try clear hcz10_2
        try clear hcz15_0
        try clear hcz15_1
        try clear hcz15_2
        try clear hcz24_0
        try clear hcz24_1
        try clear hcz24_2
        try clear hcz26_0
        try clear hcz26_1
        try clear hcz26_2
        try clear hcz29_0
        try clear hcz29_1
        try clear hcz29_2
        try clear hcz34_0
        try clear hcz34_1
        try clear hcz34_2
        try clear hfz10_0
        try clear hfz10_1
        try clear hfz10_2
        try clear hfz15_0
        try clear hfz15_1
        try clear hfz15_2
        try clear hfz24_0
        try clear hfz24_1
        try clear hfz24_2
        try clear hfz26_0
        try clear hfz26_1
        try clear hfz26_2
        try clear hfz29_0
        try clear hfz29_1
        try clear hfz29_2
        try clear hfz34_0
        try clear hfz34_1
        try clear hfz34_2
        try clear hx701_0
        try clear p2
        try clear p701
        try clear q701
        obtain ⟨kq, x14_35, rfl, HA, HJ35, HO_690002, HO_698002, HO_701002, BK689, BK690, BK697, BK700, HB⟩ := hcut
        cases kq with
        | zero => exact absurd HA.out (by simp [gain_Put.j2])
        | succ kj35 =>
         have H := HA.out
         clear HA
         simp only [gain_Put.j2] at H
         by_cases c40 : 0 ≤ x36_2
         ·
          rw [if_pos c40] at H
          have c40b0 : decide (0 ≤ x36_2) = true := decide_eq_true c40
          clear c40
          by_cases c41 : x36_2 < (l1.length : Int)
          ·
           rw [if_pos c41] at H
           have c41b0 : decide (x36_2 < (l1.length : Int)) = true := decide_eq_true c41
           clear c41
           replace H := Option.bind_eq_some_iff.mp H
           obtain ⟨⟨t703, t704, t705, t708⟩, A420, H⟩ := H
           replace H : (if t708 = 0 then (gain_Put.l0 kj35 l1 l2 a3 (wrap64 (x36_2 + 1)) t691 t692 t693 t703 t704 t705) else (some (t691, t692, t693, t708))) = some (r1, r2, r3, r4) := H
           have A42 := zm A420
           clear A420
           by_cases c43 : t708 = 0
           ·
            rw [if_pos c43] at H
            have c43b0 : (t708 == 0) = true := beq_iff_eq.mpr c43
            have c43b1 : (t708 != 0) = false := bne_eq_false_iff_eq.mpr c43
            clear c43
            have H' := zm H
            clear H
            obtain ⟨Ao44, co44, eo44⟩ := Kd.V_slice HO_701002.out
            subst eo44
            try go_wp2
            have n0_ := zm (zC HO_690002.out)
            have n1_ := zm (zq HO_698002.out)
            have n2_ := zm (zC HO_701002.out)
            have n3_ := zm (zj BK689.out)
            have n4_ := zm (zj BK690.out)
            have n5_ := zm (zj BK697.out)
            have n6_ := zm (zj BK700.out)
            have n7_ := zm (zf HB.out)
            clear HO_690002
            clear HO_698002
            clear HO_701002
            clear BK689
            clear BK690
            clear BK697
            clear BK700
            clear HB
            have HO_690002 := n0_
            have HO_698002 := n1_
            have HO_701002 := n2_
            have BK689 := n3_
            have BK690 := n4_
            have BK697 := n5_
            have BK700 := n6_
            have HB := n7_
            clear n0_ n1_ n2_ n3_ n4_ n5_ n6_ n7_
            have p702 : 0 ≤ (x36_2 : Int) := of_decide_eq_true (by first | (with_reducible assumption) | assumption)
            have q702 : x36_2 < (l1.length : Int) := of_decide_eq_true (by first | (with_reducible assumption) | assumption)
            obtain ⟨ad702, e702, hx702_0⟩ := Kd.at_int HR1.out x36_2 p702 q702
            have hw702_0 := hx702_0
            cases e702
            replace hx702_0 := (HB.out.cell (zb w _ hx702_0)).trans hx702_0
            replace p702 := eq_true p702
            replace q702 := eq_true q702
            refine start_ (n := 14) (S := fun w' => w'.cell? ⟨gb700, 0, none⟩ = some (.int .u64 x701000_2) ∧ w'.cell? ⟨gb700, 1, none⟩ = some (.int .u32 x701001_2) ∧ w'.cell? ⟨gb700, 2, none⟩ = some (.slice Ao44 x701002_2.length co44) ∧ w'.cell? (ad702.add (x36_2).toNat) = some (.int .i64 (rd l1 x36_2))) (ds := []) #[false, false, false, false, false, false, false, false, false, false, false, false, false, false] (by kernel_rfl) rfl rfl ⟨(zs BK700.out 0).trans rfl, (zs BK700.out 1).trans rfl, (zs BK700.out 2).trans rfl, ((HB.out.cell (zb w _ hw702_0)).trans hw702_0)⟩ (fun hHeld => ?_); refine with_tabW gain_Put.tab11 gain_Put.bits11 (fun HT_ HW_ => ?_)
            generalize wc.drew = w45 at HO_690002 HO_698002 HO_701002 BK689 BK690 BK697 BK700 HB hx702_0 hHeld ⊢
            refine pure_ (i := 1) (N := some 47) (v := ?_) (a' := ?_) #[false, true, false, false, false, false, false, false, false, false, false, false, false, false] rfl rfl (any_of HT_.out (by kernel_rfl)) (fun _ _ _ h => h) (Or.inl ⟨by rfl, ?_⟩) ?_ ?_
            rotate_left
            ·
             intro w'
             go_simp
             with_reducible rfl
            rotate_left
            ·
             simp only [Act.put, List.setIfInBounds_toArray, List.set_cons_zero, List.set_cons_succ, i64_w, i32_w]
             rfl
            refine pure_ (i := 2) (N := some 48) (v := ?_) (a' := ?_) #[false, true, true, false, false, false, false, false, false, false, false, false, false, false] rfl rfl (any_of HT_.out (by kernel_rfl)) (fun _ _ _ h => h) (Or.inl ⟨by rfl, ?_⟩) ?_ ?_
            rotate_left
            ·
             intro w'
             go_simp
             with_reducible rfl
            rotate_left
            ·
             simp only [Act.put, List.setIfInBounds_toArray, List.set_cons_zero, List.set_cons_succ, i64_w, i32_w]
             rfl
            refine pure_ (i := 3) (N := some 49) (v := ?_) (a' := ?_) #[false, true, true, true, false, false, false, false, false, false, false, false, false, false] rfl rfl (any_of HT_.out (by kernel_rfl)) (fun _ _ _ h => h) (Or.inl ⟨by rfl, ?_⟩) ?_ ?_
            rotate_left
            ·
             intro w'
             go_simp
             with_reducible rfl
            rotate_left
            ·
             simp only [Act.put, List.setIfInBounds_toArray, List.set_cons_zero, List.set_cons_succ, i64_w, i32_w]
             rfl
            refine pure_ (i := 5) (N := some 51) (v := ?_) (a' := ?_) #[false, true, true, true, false, true, false, false, false, false, false, false, false, false] rfl rfl (any_of HT_.out (by kernel_rfl)) (fun _ _ _ h => h) (Or.inl ⟨by rfl, ?_⟩) ?_ ?_
            rotate_left
            ·
             intro w'
             go_simp
             with_reducible rfl
            rotate_left
            ·
             simp only [Act.put, List.setIfInBounds_toArray, List.set_cons_zero, List.set_cons_succ, i64_w, i32_w]
             rfl
            refine pure_ (i := 6) (N := some 52) (v := ?_) (a' := ?_) #[false, true, true, true, false, true, true, false, false, false, false, false, false, false] rfl rfl (any_of HT_.out (by kernel_rfl)) (fun _ _ _ h => h) (Or.inl ⟨by rfl, ?_⟩) ?_ ?_
            rotate_left
            ·
             intro w'
             go_simp
             with_reducible rfl
            rotate_left
            ·
             simp only [Act.put, List.setIfInBounds_toArray, List.set_cons_zero, List.set_cons_succ, i64_w, i32_w]
             rfl
            refine take_ (i := 0) (N := some 46) (v := ?_) (a' := ?_) #[true, true, true, true, false, true, true, false, false, false, false, false, false, false] rfl rfl (take_ofW HT_.out HW_.out (by kernel_rfl)) (fun _ _ _ h => h) (Or.inl ⟨by rfl, ?_⟩) hHeld ?_ ?_
            rotate_left
            ·
             rintro w' ⟨s0, s1, s2, s3⟩
             go_simp
             with_reducible rfl
            rotate_left
            ·
             simp only [Act.put, List.setIfInBounds_toArray, List.set_cons_zero, List.set_cons_succ, i64_w, i32_w]
             rfl
            refine take_ (i := 4) (N := some 50) (v := ?_) (a' := ?_) #[true, true, true, true, true, true, true, false, false, false, false, false, false, false] rfl rfl (take_ofW HT_.out HW_.out (by kernel_rfl)) (fun _ _ _ h => h) (Or.inl ⟨by rfl, ?_⟩) hHeld ?_ ?_
            rotate_left
            ·
             rintro w' ⟨s0, s1, s2, s3⟩
             go_simp
             with_reducible rfl
            rotate_left
            ·
             simp only [Act.put, List.setIfInBounds_toArray, List.set_cons_zero, List.set_cons_succ, i64_w, i32_w]
             rfl
            refine join_ (σ := Value × Nat) 2 #[true, true, true, true, true, true, true, true, true, true, true, true, false, false] (fun s_ => [(53, .tuple #[.agg #[.int .u64 t703, .int .u32 t704, s_.1], .int .i64 t708]), (15, .pointer (some ⟨s_.2, 0, none⟩)), (45, .tuple #[.agg #[.int .u64 t703, .int .u32 t704, s_.1], .int .i64 t708]), (54, .agg #[.int .u64 t703, .int .u32 t704, s_.1]), (55, .int .i64 t708)]) (fun s_ w' => (w'.cell? ⟨gb700, 0, none⟩ = some (.int .u64 x701000_2) ∧ w'.cell? ⟨gb700, 1, none⟩ = some (.int .u32 x701001_2) ∧ w'.cell? ⟨gb700, 2, none⟩ = some (.slice Ao44 x701002_2.length co44) ∧ w'.cell? (ad702.add (x36_2).toNat) = some (.int .i64 (rd l1 x36_2))) ∧ (Kd.R (Kd.int .u8) 5 w' w.heap.size (fun k_ => (w.heap.size ≤ k_) ∧ some k_ ≠ (.slice Ao16 t693.length co16 : Value).ownBlock) s_.1 t705) ∧ (Kd.V (Kd.int .u8) 5 w' w.heap.size (fun k_ => (P0_2_ k_ ∨ w.heap.size ≤ k_) ∧ some k_ ≠ (s_.1 : Value).ownBlock ∧ some k_ ≠ (.slice Ao16 t693.length co16 : Value).ownBlock ∧ k_ ≠ gb689 ∧ k_ ≠ gb690 ∧ k_ ≠ gb697 ∧ k_ ≠ gb700 ∧ k_ ≠ s_.2) (.slice A0_2 l0_2.length c0_2) l0_2) ∧ (Kd.R (Kd.int .u8) 5 w' w.heap.size (fun k_ => (w.heap.size ≤ k_) ∧ some k_ ≠ (s_.1 : Value).ownBlock) (.slice Ao16 t693.length co16) t693) ∧ (Kd.V (Kd.int .u8) 5 w' w.heap.size (fun k_ => (P0_2_ k_ ∨ w.heap.size ≤ k_) ∧ some k_ ≠ (s_.1 : Value).ownBlock ∧ some k_ ≠ (.slice Ao16 t693.length co16 : Value).ownBlock ∧ k_ ≠ gb689 ∧ k_ ≠ gb690 ∧ k_ ≠ gb697 ∧ k_ ≠ gb700 ∧ k_ ≠ s_.2) (.slice Ao44 x701002_2.length co44) x701002_2) ∧ (w'.heap[gb689]? = some (.cells #[.int .u64 a0_0, .int .u32 a0_1, .slice A0_2 l0_2.length c0_2] 26 (0, 0))) ∧ (w'.heap[gb690]? = some (.cells #[.int .u64 x691000_2, .int .u32 x691001_2, .slice none 0 0] 26 (0, 0))) ∧ (w'.heap[gb697]? = some (.cells #[.int .u64 t691, .int .u32 t692, .slice Ao16 t693.length co16] 26 (0, 0))) ∧ (w'.heap[gb700]? = some (.cells #[.int .u64 x701000_2, .int .u32 x701001_2, .slice Ao44 x701002_2.length co44] 26 (0, 0))) ∧ (w'.heap[s_.2]? = some (.cells #[.int .u64 0, .int .u32 0, .slice none 0 0] 26 (0, 0))) ∧ (w.heap.size ≤ s_.2) ∧ (w.heap.size ≤ s_.2) ∧ (gb689 ≠ s_.2) ∧ (s_.2 ≠ gb689) ∧ (gb690 ≠ s_.2) ∧ (s_.2 ≠ gb690) ∧ (gb697 ≠ s_.2) ∧ (s_.2 ≠ gb697) ∧ (gb700 ≠ s_.2) ∧ (s_.2 ≠ gb700) ∧ (Below w.heap.size w w')) ?_ ?_
            rotate_left
            ·
             intro hCont
             refine two_ (i := 7) (j := 11) (Ni := some 53) (Nj := some 15) #[true, true, true, true, true, true, true, true, false, false, false, false, false, false] #[true, true, true, true, true, true, true, false, false, false, false, true, false, false] rfl rfl rfl rfl (two_of HT_.out (by kernel_rfl)) (by decide) (by decide) (fun K hK => ?_) (fun K hK => ?_)
             ·
              skip
              refine goes_ Try.func64 (by kernel_rfl) rfl #[.agg #[.int .u64 x701000_2, .int .u32 x701001_2, .slice Ao44 x701002_2.length co44], .int .i64 (rd l1 x36_2), .int .i64 x14_35, .bool a3] (by rfl) rfl rfl (by (try simp only [List.map_toArray, List.map_cons, List.map_nil]); first | done | rfl | (simp only [List.length_drop, List.length_take]; rfl)) ?_
              with_reducible refine (gain_put.calls kj35 x701000_2 x701001_2 _ _ x701002_2 (rd l1 x36_2) x14_35 a3 t703 t704 t705 t708 _ ?side1 ?side2 A42.out).mono ?_
              (case side1 => repeat (first | exact (Kd.V_reads' HO_701002.out).2.2 | (with_reducible refine Kd.C_alloc ?_ _) | (with_reducible refine Kd.C_drewN ?_ _) | (with_reducible refine Kd.C_drew ?_)))
              (case side2 => exact (Kd.V_reads' HO_701002.out).2.1)
              rintro e w46 ⟨v706, rfl, ho0, hb⟩
              refine ⟨_, rfl, ?_⟩
              have n0_ := zm (Kd.V_elder' (by (with_reducible repeat (first | apply zA | apply zB | apply zC)); exact HO_690002.out) (Kd.R_base ho0) hb)
              have n1_ := zm (Kd.R_elder' (by (with_reducible repeat (first | apply zo | apply zp | apply zq)); exact HO_698002.out) (Kd.R_base ho0) hb)
              have n2_ := zm (Kd.V_elder' (by (with_reducible repeat (first | apply zA | apply zB | apply zC)); exact HO_701002.out) (Kd.R_base ho0) hb)
              have n3_ := zm (Kd.R_lower (Kd.R_new' (Kd.R_newM (M := fun k_ => (w.heap.size ≤ k_)) ho0 (zE (by repeat (first | (with_reducible first | exact HB.out | apply ze | apply zd | apply zf | refine zk ?_ GE689.out | refine zk ?_ GE690.out | refine zk ?_ GE697.out | refine zk ?_ GE700.out) | exact HB.out))) (fun k_ h_ => h_)) (Kd.R_lt (by (with_reducible repeat (first | apply zo | apply zp | apply zq)); exact HO_698002.out))) (zE (by repeat (first | (with_reducible first | exact HB.out | apply ze | apply zd | apply zf | refine zk ?_ GE689.out | refine zk ?_ GE690.out | refine zk ?_ GE697.out | refine zk ?_ GE700.out) | exact HB.out))))
              have n4_ := zm (zF (g := gb689) (o := .cells #[.int .u64 a0_0, .int .u32 a0_1, .slice A0_2 l0_2.length c0_2] 26 (0, 0)) (by (with_reducible repeat (first | refine zh ?_ _ | refine zj ?_ | refine zi ?_ _)); exact BK689.out) hb)
              have n5_ := zm (zF (g := gb690) (o := .cells #[.int .u64 x691000_2, .int .u32 x691001_2, .slice none 0 0] 26 (0, 0)) (by (with_reducible repeat (first | refine zh ?_ _ | refine zj ?_ | refine zi ?_ _)); exact BK690.out) hb)
              have n6_ := zm (zF (g := gb697) (o := .cells #[.int .u64 t691, .int .u32 t692, .slice Ao16 t693.length co16] 26 (0, 0)) (by (with_reducible repeat (first | refine zh ?_ _ | refine zj ?_ | refine zi ?_ _)); exact BK697.out) hb)
              have n7_ := zm (zF (g := gb700) (o := .cells #[.int .u64 x701000_2, .int .u32 x701001_2, .slice Ao44 x701002_2.length co44] 26 (0, 0)) (by (with_reducible repeat (first | refine zh ?_ _ | refine zj ?_ | refine zi ?_ _)); exact BK700.out) hb)
              have n8_ := zm (zJ (by repeat (first | (with_reducible first | exact HB.out | apply ze | apply zd | apply zf | refine zk ?_ GE689.out | refine zk ?_ GE690.out | refine zk ?_ GE697.out | refine zk ?_ GE700.out) | exact HB.out)) hb)
              clear HO_690002
              clear HO_698002
              clear HO_701002
              clear BK689
              clear BK690
              clear BK697
              clear BK700
              clear HB
              have HO_690002 := n0_
              have HO_698002 := n1_
              have HO_701002 := n2_
              have HO707 := n3_
              have BK689 := n4_
              have BK690 := n5_
              have BK697 := n6_
              have BK700 := n7_
              have HB := n8_
              clear n0_ n1_ n2_ n3_ n4_ n5_ n6_ n7_ n8_
              (try clear hb)
              (try clear hb2)
              (try clear hk)
              (try clear hi)
              (try clear ho0)
              refine hK.out _ _ ⟨(zs BK700.out 0).trans rfl, (zs BK700.out 1).trans rfl, (zs BK700.out 2).trans rfl, ((HB.out.cell (zb w _ hw702_0)).trans hw702_0)⟩ (fun hHeld => ?_)
              clear hK K
              refine norm_ (a' := ?_) ?_ ?_
              rotate_left
              ·
               show Act.put _ (some 53) _ = _
               simp only [Act.put, List.setIfInBounds_toArray, List.set_cons_zero, List.set_cons_succ, i64_w, i32_w]
               rfl
              refine pure_ (i := 8) (N := some 45) (v := ?_) (a' := ?_) #[true, true, true, true, true, true, true, true, true, false, false, false, false, false] rfl rfl (any_of HT_.out (by kernel_rfl)) (fun _ _ _ h => h) (Or.inl ⟨by rfl, ?_⟩) ?_ ?_
              rotate_left
              ·
               intro w'
               go_simp
               with_reducible rfl
              rotate_left
              ·
               simp only [Act.put, List.setIfInBounds_toArray, List.set_cons_zero, List.set_cons_succ, i64_w, i32_w]
               rfl
              refine pure_ (i := 9) (N := some 54) (v := ?_) (a' := ?_) #[true, true, true, true, true, true, true, true, true, true, false, false, false, false] rfl rfl (any_of HT_.out (by kernel_rfl)) (fun _ _ _ h => h) (Or.inl ⟨by rfl, ?_⟩) ?_ ?_
              rotate_left
              ·
               intro w'
               go_simp
               with_reducible rfl
              rotate_left
              ·
               simp only [Act.put, List.setIfInBounds_toArray, List.set_cons_zero, List.set_cons_succ, i64_w, i32_w]
               rfl
              refine pure_ (i := 10) (N := some 55) (v := ?_) (a' := ?_) #[true, true, true, true, true, true, true, true, true, true, true, false, false, false] rfl rfl (any_of HT_.out (by kernel_rfl)) (fun _ _ _ h => h) (Or.inl ⟨by rfl, ?_⟩) ?_ ?_
              rotate_left
              ·
               intro w'
               go_simp
               with_reducible rfl
              rotate_left
              ·
               simp only [Act.put, List.setIfInBounds_toArray, List.set_cons_zero, List.set_cons_succ, i64_w, i32_w]
               rfl
              refine one_ (i := 11) (N := some 15) #[true, true, true, true, true, true, true, true, true, true, true, true, false, false] rfl rfl (one_of HT_.out (by kernel_rfl)) (by decide) (fun K hK => ?_)
              refine box_step ?hg (N := 15) ?hd (cs := #[.int .u64 0, .int .u32 0, .slice none 0 0]) (t := 26) ?hr ?_; (case hd => rfl); (case hg => rfl); (case hr => first | (go_simp; done) | (go_simp; rfl))
              intro gb709 hg w47 hbox hb
              have n0_ := zm (Kd.V_below (Kd.V_elderB (by (with_reducible repeat (first | apply zA | apply zB | apply zC)); exact HO_690002.out) gb709 (Nat.le_of_eq hg.symm)) hb)
              have n1_ := zm (Kd.R_below (by (with_reducible repeat (first | apply zo | apply zp | apply zq)); exact HO_698002.out) hb)
              have n2_ := zm (Kd.V_below (Kd.V_elderB (by (with_reducible repeat (first | apply zA | apply zB | apply zC)); exact HO_701002.out) gb709 (Nat.le_of_eq hg.symm)) hb)
              have n3_ := zm (Kd.R_below (by (with_reducible repeat (first | apply zo | apply zp | apply zq)); exact HO707.out) hb)
              have n4_ := zm (zF (g := gb689) (o := .cells #[.int .u64 a0_0, .int .u32 a0_1, .slice A0_2 l0_2.length c0_2] 26 (0, 0)) (by (with_reducible repeat (first | refine zh ?_ _ | refine zj ?_ | refine zi ?_ _)); exact BK689.out) hb)
              have n5_ := zm (zF (g := gb690) (o := .cells #[.int .u64 x691000_2, .int .u32 x691001_2, .slice none 0 0] 26 (0, 0)) (by (with_reducible repeat (first | refine zh ?_ _ | refine zj ?_ | refine zi ?_ _)); exact BK690.out) hb)
              have n6_ := zm (zF (g := gb697) (o := .cells #[.int .u64 t691, .int .u32 t692, .slice Ao16 t693.length co16] 26 (0, 0)) (by (with_reducible repeat (first | refine zh ?_ _ | refine zj ?_ | refine zi ?_ _)); exact BK697.out) hb)
              have n7_ := zm (zF (g := gb700) (o := .cells #[.int .u64 x701000_2, .int .u32 x701001_2, .slice Ao44 x701002_2.length co44] 26 (0, 0)) (by (with_reducible repeat (first | refine zh ?_ _ | refine zj ?_ | refine zi ?_ _)); exact BK700.out) hb)
              have n8_ := zm (zJ (by repeat (first | (with_reducible first | exact HB.out | apply ze | apply zd | apply zf | refine zk ?_ GE689.out | refine zk ?_ GE690.out | refine zk ?_ GE697.out | refine zk ?_ GE700.out) | exact HB.out)) hb)
              have n9_ := zm (hbox)
              have n10_ := zm ((by rw [hg]; exact (zE (by repeat (first | (with_reducible first | exact HB.out | apply ze | apply zd | apply zf | refine zk ?_ GE689.out | refine zk ?_ GE690.out | refine zk ?_ GE697.out | refine zk ?_ GE700.out) | exact HB.out))) : w.heap.size ≤ gb709))
              have n11_ := zm ((by rw [hg]; exact (zE (by repeat (first | (with_reducible first | exact HB.out | apply ze | apply zd | apply zf | refine zk ?_ GE689.out | refine zk ?_ GE690.out | refine zk ?_ GE697.out | refine zk ?_ GE700.out) | exact HB.out))) : w.heap.size ≤ gb709))
              have n12_ := zm ((by rw [hg]; exact zn (zD (g := gb689) (o := .cells #[.int .u64 a0_0, .int .u32 a0_1, .slice A0_2 l0_2.length c0_2] 26 (0, 0)) (by (with_reducible repeat (first | refine zh ?_ _ | refine zj ?_ | refine zi ?_ _)); exact BK689.out)) : gb689 ≠ gb709))
              have n13_ := zm ((by rw [hg]; exact zg (zD (g := gb689) (o := .cells #[.int .u64 a0_0, .int .u32 a0_1, .slice A0_2 l0_2.length c0_2] 26 (0, 0)) (by (with_reducible repeat (first | refine zh ?_ _ | refine zj ?_ | refine zi ?_ _)); exact BK689.out)) : gb709 ≠ gb689))
              have n14_ := zm ((by rw [hg]; exact zn (zD (g := gb690) (o := .cells #[.int .u64 x691000_2, .int .u32 x691001_2, .slice none 0 0] 26 (0, 0)) (by (with_reducible repeat (first | refine zh ?_ _ | refine zj ?_ | refine zi ?_ _)); exact BK690.out)) : gb690 ≠ gb709))
              have n15_ := zm ((by rw [hg]; exact zg (zD (g := gb690) (o := .cells #[.int .u64 x691000_2, .int .u32 x691001_2, .slice none 0 0] 26 (0, 0)) (by (with_reducible repeat (first | refine zh ?_ _ | refine zj ?_ | refine zi ?_ _)); exact BK690.out)) : gb709 ≠ gb690))
              have n16_ := zm ((by rw [hg]; exact zn (zD (g := gb697) (o := .cells #[.int .u64 t691, .int .u32 t692, .slice Ao16 t693.length co16] 26 (0, 0)) (by (with_reducible repeat (first | refine zh ?_ _ | refine zj ?_ | refine zi ?_ _)); exact BK697.out)) : gb697 ≠ gb709))
              have n17_ := zm ((by rw [hg]; exact zg (zD (g := gb697) (o := .cells #[.int .u64 t691, .int .u32 t692, .slice Ao16 t693.length co16] 26 (0, 0)) (by (with_reducible repeat (first | refine zh ?_ _ | refine zj ?_ | refine zi ?_ _)); exact BK697.out)) : gb709 ≠ gb697))
              have n18_ := zm ((by rw [hg]; exact zn (zD (g := gb700) (o := .cells #[.int .u64 x701000_2, .int .u32 x701001_2, .slice Ao44 x701002_2.length co44] 26 (0, 0)) (by (with_reducible repeat (first | refine zh ?_ _ | refine zj ?_ | refine zi ?_ _)); exact BK700.out)) : gb700 ≠ gb709))
              have n19_ := zm ((by rw [hg]; exact zg (zD (g := gb700) (o := .cells #[.int .u64 x701000_2, .int .u32 x701001_2, .slice Ao44 x701002_2.length co44] 26 (0, 0)) (by (with_reducible repeat (first | refine zh ?_ _ | refine zj ?_ | refine zi ?_ _)); exact BK700.out)) : gb709 ≠ gb700))
              clear HO_690002
              clear HO_698002
              clear HO_701002
              clear HO707
              clear BK689
              clear BK690
              clear BK697
              clear BK700
              clear HB
              have HO_690002 := n0_
              have HO_698002 := n1_
              have HO_701002 := n2_
              have HO707 := n3_
              have BK689 := n4_
              have BK690 := n5_
              have BK697 := n6_
              have BK700 := n7_
              have HB := n8_
              have BK709 := n9_
              have GW709 := n10_
              have GE709 := n11_
              have NB689_709 := n12_
              have NB709_689 := n13_
              have NB690_709 := n14_
              have NB709_690 := n15_
              have NB697_709 := n16_
              have NB709_697 := n17_
              have NB700_709 := n18_
              have NB709_700 := n19_
              clear n0_ n1_ n2_ n3_ n4_ n5_ n6_ n7_ n8_ n9_ n10_ n11_ n12_ n13_ n14_ n15_ n16_ n17_ n18_ n19_
              clear hb hbox hg
              refine hK.out _ _ ⟨(zs BK700.out 0).trans rfl, (zs BK700.out 1).trans rfl, (zs BK700.out 2).trans rfl, ((HB.out.cell (zb w _ hw702_0)).trans hw702_0)⟩ (fun hHeld => ?_)
              clear hK K
              refine norm_ (a' := ?_) ?_ ?_
              rotate_left
              ·
               show Act.put _ (some 15) _ = _
               simp only [Act.put, List.setIfInBounds_toArray, List.set_cons_zero, List.set_cons_succ, i64_w, i32_w]
               rfl
              exact norm_ (by simp only [putAll, Act.put, List.setIfInBounds_toArray, List.set_cons_zero, List.set_cons_succ]) (hCont (v706, gb709) _ ⟨hHeld, (by (with_reducible repeat (first | apply zo | apply zp | apply zq)); exact zG HO707.out (fun _ hk => ⟨hk.1.1, hk.2⟩)), (by (with_reducible repeat (first | apply zA | apply zB | apply zC)); exact zy HO_690002.out (fun _ hk => ⟨hk.1.1.1, ⟨hk.1.2, ⟨hk.1.1.2.1, ⟨hk.1.1.2.2.1, ⟨hk.1.1.2.2.2.1, ⟨hk.1.1.2.2.2.2.1, ⟨hk.1.1.2.2.2.2.2, hk.2⟩⟩⟩⟩⟩⟩⟩)), (by (with_reducible repeat (first | apply zo | apply zp | apply zq)); exact HO_698002.out), (by (with_reducible repeat (first | apply zA | apply zB | apply zC)); exact zy HO_701002.out (fun _ hk => ⟨hk.1.1.1, ⟨hk.1.2, ⟨hk.1.1.2.1, ⟨hk.1.1.2.2.1, ⟨hk.1.1.2.2.2.1, ⟨hk.1.1.2.2.2.2.1, ⟨hk.1.1.2.2.2.2.2, hk.2⟩⟩⟩⟩⟩⟩⟩)), (by (with_reducible repeat (first | refine zh ?_ _ | refine zj ?_ | refine zi ?_ _)); exact BK689.out), (by (with_reducible repeat (first | refine zh ?_ _ | refine zj ?_ | refine zi ?_ _)); exact BK690.out), (by (with_reducible repeat (first | refine zh ?_ _ | refine zj ?_ | refine zi ?_ _)); exact BK697.out), (by (with_reducible repeat (first | refine zh ?_ _ | refine zj ?_ | refine zi ?_ _)); exact BK700.out), (by (with_reducible repeat (first | refine zh ?_ _ | refine zj ?_ | refine zi ?_ _)); exact BK709.out), GW709.out, GE709.out, NB689_709.out, NB709_689.out, NB690_709.out, NB709_690.out, NB697_709.out, NB709_697.out, NB700_709.out, NB709_700.out, (by repeat (first | (with_reducible first | exact HB.out | apply ze | apply zd | apply zf | refine zk ?_ GE689.out | refine zk ?_ GE690.out | refine zk ?_ GE697.out | refine zk ?_ GE700.out | refine zk ?_ GE709.out) | exact HB.out))⟩)
             ·
              skip
              refine box_step ?hg (N := 15) ?hd (cs := #[.int .u64 0, .int .u32 0, .slice none 0 0]) (t := 26) ?hr ?_; (case hd => rfl); (case hg => rfl); (case hr => first | (go_simp; done) | (go_simp; rfl))
              intro gb709 hg w46 hbox hb
              have n0_ := zm (Kd.V_below (Kd.V_elderB (by (with_reducible repeat (first | apply zA | apply zB | apply zC)); exact HO_690002.out) gb709 (Nat.le_of_eq hg.symm)) hb)
              have n1_ := zm (Kd.R_below (by (with_reducible repeat (first | apply zo | apply zp | apply zq)); exact HO_698002.out) hb)
              have n2_ := zm (Kd.V_below (Kd.V_elderB (by (with_reducible repeat (first | apply zA | apply zB | apply zC)); exact HO_701002.out) gb709 (Nat.le_of_eq hg.symm)) hb)
              have n3_ := zm (zF (g := gb689) (o := .cells #[.int .u64 a0_0, .int .u32 a0_1, .slice A0_2 l0_2.length c0_2] 26 (0, 0)) (by (with_reducible repeat (first | refine zh ?_ _ | refine zj ?_ | refine zi ?_ _)); exact BK689.out) hb)
              have n4_ := zm (zF (g := gb690) (o := .cells #[.int .u64 x691000_2, .int .u32 x691001_2, .slice none 0 0] 26 (0, 0)) (by (with_reducible repeat (first | refine zh ?_ _ | refine zj ?_ | refine zi ?_ _)); exact BK690.out) hb)
              have n5_ := zm (zF (g := gb697) (o := .cells #[.int .u64 t691, .int .u32 t692, .slice Ao16 t693.length co16] 26 (0, 0)) (by (with_reducible repeat (first | refine zh ?_ _ | refine zj ?_ | refine zi ?_ _)); exact BK697.out) hb)
              have n6_ := zm (zF (g := gb700) (o := .cells #[.int .u64 x701000_2, .int .u32 x701001_2, .slice Ao44 x701002_2.length co44] 26 (0, 0)) (by (with_reducible repeat (first | refine zh ?_ _ | refine zj ?_ | refine zi ?_ _)); exact BK700.out) hb)
              have n7_ := zm (zJ (by repeat (first | (with_reducible first | exact HB.out | apply ze | apply zd | apply zf | refine zk ?_ GE689.out | refine zk ?_ GE690.out | refine zk ?_ GE697.out | refine zk ?_ GE700.out) | exact HB.out)) hb)
              have n8_ := zm (hbox)
              have n9_ := zm ((by rw [hg]; exact (zE (by repeat (first | (with_reducible first | exact HB.out | apply ze | apply zd | apply zf | refine zk ?_ GE689.out | refine zk ?_ GE690.out | refine zk ?_ GE697.out | refine zk ?_ GE700.out) | exact HB.out))) : w.heap.size ≤ gb709))
              have n10_ := zm ((by rw [hg]; exact (zE (by repeat (first | (with_reducible first | exact HB.out | apply ze | apply zd | apply zf | refine zk ?_ GE689.out | refine zk ?_ GE690.out | refine zk ?_ GE697.out | refine zk ?_ GE700.out) | exact HB.out))) : w.heap.size ≤ gb709))
              have n11_ := zm ((by rw [hg]; exact zn (zD (g := gb689) (o := .cells #[.int .u64 a0_0, .int .u32 a0_1, .slice A0_2 l0_2.length c0_2] 26 (0, 0)) (by (with_reducible repeat (first | refine zh ?_ _ | refine zj ?_ | refine zi ?_ _)); exact BK689.out)) : gb689 ≠ gb709))
              have n12_ := zm ((by rw [hg]; exact zg (zD (g := gb689) (o := .cells #[.int .u64 a0_0, .int .u32 a0_1, .slice A0_2 l0_2.length c0_2] 26 (0, 0)) (by (with_reducible repeat (first | refine zh ?_ _ | refine zj ?_ | refine zi ?_ _)); exact BK689.out)) : gb709 ≠ gb689))
              have n13_ := zm ((by rw [hg]; exact zn (zD (g := gb690) (o := .cells #[.int .u64 x691000_2, .int .u32 x691001_2, .slice none 0 0] 26 (0, 0)) (by (with_reducible repeat (first | refine zh ?_ _ | refine zj ?_ | refine zi ?_ _)); exact BK690.out)) : gb690 ≠ gb709))
              have n14_ := zm ((by rw [hg]; exact zg (zD (g := gb690) (o := .cells #[.int .u64 x691000_2, .int .u32 x691001_2, .slice none 0 0] 26 (0, 0)) (by (with_reducible repeat (first | refine zh ?_ _ | refine zj ?_ | refine zi ?_ _)); exact BK690.out)) : gb709 ≠ gb690))
              have n15_ := zm ((by rw [hg]; exact zn (zD (g := gb697) (o := .cells #[.int .u64 t691, .int .u32 t692, .slice Ao16 t693.length co16] 26 (0, 0)) (by (with_reducible repeat (first | refine zh ?_ _ | refine zj ?_ | refine zi ?_ _)); exact BK697.out)) : gb697 ≠ gb709))
              have n16_ := zm ((by rw [hg]; exact zg (zD (g := gb697) (o := .cells #[.int .u64 t691, .int .u32 t692, .slice Ao16 t693.length co16] 26 (0, 0)) (by (with_reducible repeat (first | refine zh ?_ _ | refine zj ?_ | refine zi ?_ _)); exact BK697.out)) : gb709 ≠ gb697))
              have n17_ := zm ((by rw [hg]; exact zn (zD (g := gb700) (o := .cells #[.int .u64 x701000_2, .int .u32 x701001_2, .slice Ao44 x701002_2.length co44] 26 (0, 0)) (by (with_reducible repeat (first | refine zh ?_ _ | refine zj ?_ | refine zi ?_ _)); exact BK700.out)) : gb700 ≠ gb709))
              have n18_ := zm ((by rw [hg]; exact zg (zD (g := gb700) (o := .cells #[.int .u64 x701000_2, .int .u32 x701001_2, .slice Ao44 x701002_2.length co44] 26 (0, 0)) (by (with_reducible repeat (first | refine zh ?_ _ | refine zj ?_ | refine zi ?_ _)); exact BK700.out)) : gb709 ≠ gb700))
              clear HO_690002
              clear HO_698002
              clear HO_701002
              clear BK689
              clear BK690
              clear BK697
              clear BK700
              clear HB
              have HO_690002 := n0_
              have HO_698002 := n1_
              have HO_701002 := n2_
              have BK689 := n3_
              have BK690 := n4_
              have BK697 := n5_
              have BK700 := n6_
              have HB := n7_
              have BK709 := n8_
              have GW709 := n9_
              have GE709 := n10_
              have NB689_709 := n11_
              have NB709_689 := n12_
              have NB690_709 := n13_
              have NB709_690 := n14_
              have NB697_709 := n15_
              have NB709_697 := n16_
              have NB700_709 := n17_
              have NB709_700 := n18_
              clear n0_ n1_ n2_ n3_ n4_ n5_ n6_ n7_ n8_ n9_ n10_ n11_ n12_ n13_ n14_ n15_ n16_ n17_ n18_
              clear hb hbox hg
              refine hK.out _ _ ⟨(zs BK700.out 0).trans rfl, (zs BK700.out 1).trans rfl, (zs BK700.out 2).trans rfl, ((HB.out.cell (zb w _ hw702_0)).trans hw702_0)⟩ (fun hHeld => ?_)
              clear hK K
              refine norm_ (a' := ?_) ?_ ?_
              rotate_left
              ·
               show Act.put _ (some 15) _ = _
               simp only [Act.put, List.setIfInBounds_toArray, List.set_cons_zero, List.set_cons_succ, i64_w, i32_w]
               rfl
              refine one_ (i := 7) (N := some 53) #[true, true, true, true, true, true, true, true, false, false, false, true, false, false] rfl rfl (one_of HT_.out (by kernel_rfl)) (by decide) (fun K hK => ?_)
              refine goes_ Try.func64 (by kernel_rfl) rfl #[.agg #[.int .u64 x701000_2, .int .u32 x701001_2, .slice Ao44 x701002_2.length co44], .int .i64 (rd l1 x36_2), .int .i64 x14_35, .bool a3] (by rfl) rfl rfl (by (try simp only [List.map_toArray, List.map_cons, List.map_nil]); first | done | rfl | (simp only [List.length_drop, List.length_take]; rfl)) ?_
              with_reducible refine (gain_put.calls kj35 x701000_2 x701001_2 _ _ x701002_2 (rd l1 x36_2) x14_35 a3 t703 t704 t705 t708 _ ?side1 ?side2 A42.out).mono ?_
              (case side1 => repeat (first | exact (Kd.V_reads' HO_701002.out).2.2 | (with_reducible refine Kd.C_alloc ?_ _) | (with_reducible refine Kd.C_drewN ?_ _) | (with_reducible refine Kd.C_drew ?_)))
              (case side2 => exact (Kd.V_reads' HO_701002.out).2.1)
              rintro e w47 ⟨v706, rfl, ho0, hb⟩
              refine ⟨_, rfl, ?_⟩
              have n0_ := zm (Kd.V_elder' (by (with_reducible repeat (first | apply zA | apply zB | apply zC)); exact HO_690002.out) (Kd.R_base ho0) hb)
              have n1_ := zm (Kd.R_elder' (by (with_reducible repeat (first | apply zo | apply zp | apply zq)); exact HO_698002.out) (Kd.R_base ho0) hb)
              have n2_ := zm (Kd.V_elder' (by (with_reducible repeat (first | apply zA | apply zB | apply zC)); exact HO_701002.out) (Kd.R_base ho0) hb)
              have n3_ := zm (Kd.R_lower (Kd.R_new' (Kd.R_newM (M := fun k_ => (w.heap.size ≤ k_)) ho0 (zE (by repeat (first | (with_reducible first | exact HB.out | apply ze | apply zd | apply zf | refine zk ?_ GE689.out | refine zk ?_ GE690.out | refine zk ?_ GE697.out | refine zk ?_ GE700.out | refine zk ?_ GE709.out) | exact HB.out))) (fun k_ h_ => h_)) (Kd.R_lt (by (with_reducible repeat (first | apply zo | apply zp | apply zq)); exact HO_698002.out))) (zE (by repeat (first | (with_reducible first | exact HB.out | apply ze | apply zd | apply zf | refine zk ?_ GE689.out | refine zk ?_ GE690.out | refine zk ?_ GE697.out | refine zk ?_ GE700.out | refine zk ?_ GE709.out) | exact HB.out))))
              have n4_ := zm (zF (g := gb689) (o := .cells #[.int .u64 a0_0, .int .u32 a0_1, .slice A0_2 l0_2.length c0_2] 26 (0, 0)) (by (with_reducible repeat (first | refine zh ?_ _ | refine zj ?_ | refine zi ?_ _)); exact BK689.out) hb)
              have n5_ := zm (zF (g := gb690) (o := .cells #[.int .u64 x691000_2, .int .u32 x691001_2, .slice none 0 0] 26 (0, 0)) (by (with_reducible repeat (first | refine zh ?_ _ | refine zj ?_ | refine zi ?_ _)); exact BK690.out) hb)
              have n6_ := zm (zF (g := gb697) (o := .cells #[.int .u64 t691, .int .u32 t692, .slice Ao16 t693.length co16] 26 (0, 0)) (by (with_reducible repeat (first | refine zh ?_ _ | refine zj ?_ | refine zi ?_ _)); exact BK697.out) hb)
              have n7_ := zm (zF (g := gb700) (o := .cells #[.int .u64 x701000_2, .int .u32 x701001_2, .slice Ao44 x701002_2.length co44] 26 (0, 0)) (by (with_reducible repeat (first | refine zh ?_ _ | refine zj ?_ | refine zi ?_ _)); exact BK700.out) hb)
              have n8_ := zm (zF (g := gb709) (o := .cells #[.int .u64 0, .int .u32 0, .slice none 0 0] 26 (0, 0)) (by (with_reducible repeat (first | refine zh ?_ _ | refine zj ?_ | refine zi ?_ _)); exact BK709.out) hb)
              have n9_ := zm (zJ (by repeat (first | (with_reducible first | exact HB.out | apply ze | apply zd | apply zf | refine zk ?_ GE689.out | refine zk ?_ GE690.out | refine zk ?_ GE697.out | refine zk ?_ GE700.out | refine zk ?_ GE709.out) | exact HB.out)) hb)
              clear HO_690002
              clear HO_698002
              clear HO_701002
              clear BK689
              clear BK690
              clear BK697
              clear BK700
              clear BK709
              clear HB
              have HO_690002 := n0_
              have HO_698002 := n1_
              have HO_701002 := n2_
              have HO707 := n3_
              have BK689 := n4_
              have BK690 := n5_
              have BK697 := n6_
              have BK700 := n7_
              have BK709 := n8_
              have HB := n9_
              clear n0_ n1_ n2_ n3_ n4_ n5_ n6_ n7_ n8_ n9_
              (try clear hb)
              (try clear hb2)
              (try clear hk)
              (try clear hi)
              (try clear ho0)
              refine hK.out _ _ ⟨(zs BK700.out 0).trans rfl, (zs BK700.out 1).trans rfl, (zs BK700.out 2).trans rfl, ((HB.out.cell (zb w _ hw702_0)).trans hw702_0)⟩ (fun hHeld => ?_)
              clear hK K
              refine norm_ (a' := ?_) ?_ ?_
              rotate_left
              ·
               show Act.put _ (some 53) _ = _
               simp only [Act.put, List.setIfInBounds_toArray, List.set_cons_zero, List.set_cons_succ, i64_w, i32_w]
               rfl
              refine pure_ (i := 8) (N := some 45) (v := ?_) (a' := ?_) #[true, true, true, true, true, true, true, true, true, false, false, true, false, false] rfl rfl (any_of HT_.out (by kernel_rfl)) (fun _ _ _ h => h) (Or.inl ⟨by rfl, ?_⟩) ?_ ?_
              rotate_left
              ·
               intro w'
               go_simp
               with_reducible rfl
              rotate_left
              ·
               simp only [Act.put, List.setIfInBounds_toArray, List.set_cons_zero, List.set_cons_succ, i64_w, i32_w]
               rfl
              refine pure_ (i := 9) (N := some 54) (v := ?_) (a' := ?_) #[true, true, true, true, true, true, true, true, true, true, false, true, false, false] rfl rfl (any_of HT_.out (by kernel_rfl)) (fun _ _ _ h => h) (Or.inl ⟨by rfl, ?_⟩) ?_ ?_
              rotate_left
              ·
               intro w'
               go_simp
               with_reducible rfl
              rotate_left
              ·
               simp only [Act.put, List.setIfInBounds_toArray, List.set_cons_zero, List.set_cons_succ, i64_w, i32_w]
               rfl
              refine pure_ (i := 10) (N := some 55) (v := ?_) (a' := ?_) #[true, true, true, true, true, true, true, true, true, true, true, true, false, false] rfl rfl (any_of HT_.out (by kernel_rfl)) (fun _ _ _ h => h) (Or.inl ⟨by rfl, ?_⟩) ?_ ?_
              rotate_left
              ·
               intro w'
               go_simp
               with_reducible rfl
              rotate_left
              ·
               simp only [Act.put, List.setIfInBounds_toArray, List.set_cons_zero, List.set_cons_succ, i64_w, i32_w]
               rfl
              exact norm_ (by simp only [putAll, Act.put, List.setIfInBounds_toArray, List.set_cons_zero, List.set_cons_succ]) (hCont (v706, gb709) _ ⟨hHeld, (by (with_reducible repeat (first | apply zo | apply zp | apply zq)); exact zG HO707.out (fun _ hk => ⟨hk.1.1, hk.2⟩)), (by (with_reducible repeat (first | apply zA | apply zB | apply zC)); exact zy HO_690002.out (fun _ hk => ⟨hk.1.1.1, ⟨hk.2, ⟨hk.1.1.2.1, ⟨hk.1.1.2.2.1, ⟨hk.1.1.2.2.2.1, ⟨hk.1.1.2.2.2.2.1, ⟨hk.1.1.2.2.2.2.2, hk.1.2⟩⟩⟩⟩⟩⟩⟩)), (by (with_reducible repeat (first | apply zo | apply zp | apply zq)); exact HO_698002.out), (by (with_reducible repeat (first | apply zA | apply zB | apply zC)); exact zy HO_701002.out (fun _ hk => ⟨hk.1.1.1, ⟨hk.2, ⟨hk.1.1.2.1, ⟨hk.1.1.2.2.1, ⟨hk.1.1.2.2.2.1, ⟨hk.1.1.2.2.2.2.1, ⟨hk.1.1.2.2.2.2.2, hk.1.2⟩⟩⟩⟩⟩⟩⟩)), (by (with_reducible repeat (first | refine zh ?_ _ | refine zj ?_ | refine zi ?_ _)); exact BK689.out), (by (with_reducible repeat (first | refine zh ?_ _ | refine zj ?_ | refine zi ?_ _)); exact BK690.out), (by (with_reducible repeat (first | refine zh ?_ _ | refine zj ?_ | refine zi ?_ _)); exact BK697.out), (by (with_reducible repeat (first | refine zh ?_ _ | refine zj ?_ | refine zi ?_ _)); exact BK700.out), (by (with_reducible repeat (first | refine zh ?_ _ | refine zj ?_ | refine zi ?_ _)); exact BK709.out), GW709.out, GE709.out, NB689_709.out, NB709_689.out, NB690_709.out, NB709_690.out, NB697_709.out, NB709_697.out, NB700_709.out, NB709_700.out, (by repeat (first | (with_reducible first | exact HB.out | apply ze | apply zd | apply zf | refine zk ?_ GE689.out | refine zk ?_ GE690.out | refine zk ?_ GE697.out | refine zk ?_ GE700.out | refine zk ?_ GE709.out) | exact HB.out))⟩)
            rintro ⟨v706, gb709⟩ w48 ⟨hS_, h0_, h1_, h2_, h3_, h4_, h5_, h6_, h7_, h8_, h9_, h10_, h11_, h12_, h13_, h14_, h15_, h16_, h17_, h18_, h19_⟩
            have n0_ : Aside0 (Kd.R (Kd.int .u8) 5 w48 w.heap.size (fun k_ => (w.heap.size ≤ k_) ∧ some k_ ≠ (.slice Ao16 t693.length co16 : Value).ownBlock) v706 t705) := ⟨h0_⟩
            have n1_ : Aside0 (Kd.V (Kd.int .u8) 5 w48 w.heap.size (fun k_ => (P0_2_ k_ ∨ w.heap.size ≤ k_) ∧ some k_ ≠ (v706 : Value).ownBlock ∧ some k_ ≠ (.slice Ao16 t693.length co16 : Value).ownBlock ∧ k_ ≠ gb689 ∧ k_ ≠ gb690 ∧ k_ ≠ gb697 ∧ k_ ≠ gb700 ∧ k_ ≠ gb709) (.slice A0_2 l0_2.length c0_2) l0_2) := ⟨h1_⟩
            have n2_ : Aside0 (Kd.R (Kd.int .u8) 5 w48 w.heap.size (fun k_ => (w.heap.size ≤ k_) ∧ some k_ ≠ (v706 : Value).ownBlock) (.slice Ao16 t693.length co16) t693) := ⟨h2_⟩
            have n3_ : Aside0 (Kd.V (Kd.int .u8) 5 w48 w.heap.size (fun k_ => (P0_2_ k_ ∨ w.heap.size ≤ k_) ∧ some k_ ≠ (v706 : Value).ownBlock ∧ some k_ ≠ (.slice Ao16 t693.length co16 : Value).ownBlock ∧ k_ ≠ gb689 ∧ k_ ≠ gb690 ∧ k_ ≠ gb697 ∧ k_ ≠ gb700 ∧ k_ ≠ gb709) (.slice Ao44 x701002_2.length co44) x701002_2) := ⟨h3_⟩
            have n4_ : Aside0 (w48.heap[gb689]? = some (.cells #[.int .u64 a0_0, .int .u32 a0_1, .slice A0_2 l0_2.length c0_2] 26 (0, 0))) := ⟨h4_⟩
            have n5_ : Aside0 (w48.heap[gb690]? = some (.cells #[.int .u64 x691000_2, .int .u32 x691001_2, .slice none 0 0] 26 (0, 0))) := ⟨h5_⟩
            have n6_ : Aside0 (w48.heap[gb697]? = some (.cells #[.int .u64 t691, .int .u32 t692, .slice Ao16 t693.length co16] 26 (0, 0))) := ⟨h6_⟩
            have n7_ : Aside0 (w48.heap[gb700]? = some (.cells #[.int .u64 x701000_2, .int .u32 x701001_2, .slice Ao44 x701002_2.length co44] 26 (0, 0))) := ⟨h7_⟩
            have n8_ : Aside0 (w48.heap[gb709]? = some (.cells #[.int .u64 0, .int .u32 0, .slice none 0 0] 26 (0, 0))) := ⟨h8_⟩
            have n9_ : Aside0 (w.heap.size ≤ gb709) := ⟨h9_⟩
            have n10_ : Aside0 (w.heap.size ≤ gb709) := ⟨h10_⟩
            have n11_ : Aside0 (gb689 ≠ gb709) := ⟨h11_⟩
            have n12_ : Aside0 (gb709 ≠ gb689) := ⟨h12_⟩
            have n13_ : Aside0 (gb690 ≠ gb709) := ⟨h13_⟩
            have n14_ : Aside0 (gb709 ≠ gb690) := ⟨h14_⟩
            have n15_ : Aside0 (gb697 ≠ gb709) := ⟨h15_⟩
            have n16_ : Aside0 (gb709 ≠ gb697) := ⟨h16_⟩
            have n17_ : Aside0 (gb700 ≠ gb709) := ⟨h17_⟩
            have n18_ : Aside0 (gb709 ≠ gb700) := ⟨h18_⟩
            have n19_ : Aside0 (Below w.heap.size w w48) := ⟨h19_⟩
            clear HO_690002
            clear HO_698002
            clear HO_701002
            clear BK689
            clear BK690
            clear BK697
            clear BK700
            clear HB
            clear h0_ h1_ h2_ h3_ h4_ h5_ h6_ h7_ h8_ h9_ h10_ h11_ h12_ h13_ h14_ h15_ h16_ h17_ h18_ h19_
            have HO707 := n0_
            have HO_690002 := n1_
            have HO_698002 := n2_
            have HO_701002 := n3_
            have BK689 := n4_
            have BK690 := n5_
            have BK697 := n6_
            have BK700 := n7_
            have BK709 := n8_
            have GW709 := n9_
            have GE709 := n10_
            have NB689_709 := n11_
            have NB709_689 := n12_
            have NB690_709 := n13_
            have NB709_690 := n14_
            have NB697_709 := n15_
            have NB709_697 := n16_
            have NB700_709 := n17_
            have NB709_700 := n18_
            have HB := n19_
            clear n0_ n1_ n2_ n3_ n4_ n5_ n6_ n7_ n8_ n9_ n10_ n11_ n12_ n13_ n14_ n15_ n16_ n17_ n18_ n19_
            have hHeld : w48.cell? ⟨gb700, 0, none⟩ = some (.int .u64 x701000_2) ∧ w48.cell? ⟨gb700, 1, none⟩ = some (.int .u32 x701001_2) ∧ w48.cell? ⟨gb700, 2, none⟩ = some (.slice Ao44 x701002_2.length co44) ∧ w48.cell? (ad702.add (x36_2).toNat) = some (.int .i64 (rd l1 x36_2)) := hS_
            obtain ⟨Ao51, co51, eo51⟩ := Kd.R_slice HO707.out
            (first | subst eo51 | (injection eo51 with f1_ f2_ f3_; have f4_ := f1_.symm; have f5_ := f3_.symm; clear f1_ f2_ f3_; subst f4_; subst f5_))
            refine norm_ (a' := ?_) ?_ ?_
            rotate_left
            ·
             simp only [putAll, Act.put, List.setIfInBounds_toArray, List.set_cons_zero, List.set_cons_succ]
             rfl
            refine one_ (i := 12) (N := none) #[true, true, true, true, true, true, true, true, true, true, true, true, true, false] rfl rfl (one_of HT_.out (by kernel_rfl)) (by decide) (fun K hK => ?_)
            have hs49 : w48.cell? ⟨gb709, 0, none⟩ = some (.int .u64 0) := (zs BK709.out 0).trans rfl
            have hfs49 := zx BK709.out 0
            have hns49_0 := NB689_709.out
            have hns49_1 := NB690_709.out
            have hns49_2 := NB697_709.out
            have hns49_3 := NB700_709.out
            have hms49_0 := NB709_689.out
            have hms49_1 := NB709_690.out
            have hms49_2 := NB709_697.out
            have hms49_3 := NB709_700.out
            have hs50 : w48.cell? ⟨gb709, 1, none⟩ = some (.int .u32 0) := (zs BK709.out 1).trans rfl
            have hfs50 := zx BK709.out 1
            have hns50_0 := NB689_709.out
            have hns50_1 := NB690_709.out
            have hns50_2 := NB697_709.out
            have hns50_3 := NB700_709.out
            have hms50_0 := NB709_689.out
            have hms50_1 := NB709_690.out
            have hms50_2 := NB709_697.out
            have hms50_3 := NB709_700.out
            have hs52 : w48.cell? ⟨gb709, 2, none⟩ = some (.slice none 0 0) := (zs BK709.out 2).trans rfl
            have hfs52 := zx BK709.out 2
            have hns52_0 := NB689_709.out
            have hns52_1 := NB690_709.out
            have hns52_2 := NB697_709.out
            have hns52_3 := NB700_709.out
            have hms52_0 := NB709_689.out
            have hms52_1 := NB709_690.out
            have hms52_2 := NB709_697.out
            have hms52_3 := NB709_700.out
            refine skip_ (w1 := ?_) (by rfl) rfl ?_ ?_
            rotate_left
            ·
             go_simp
             rfl
            refine hK.out _ _ ⟨((zr (p := ⟨gb709, _, none⟩) NB700_709.out _).trans (((zr (p := ⟨gb709, _, none⟩) NB700_709.out _).trans (((zr (p := ⟨gb709, _, none⟩) NB700_709.out _).trans (hHeld.1)))))), ((zr (p := ⟨gb709, _, none⟩) NB700_709.out _).trans (((zr (p := ⟨gb709, _, none⟩) NB700_709.out _).trans (((zr (p := ⟨gb709, _, none⟩) NB700_709.out _).trans (hHeld.2.1)))))), ((zr (p := ⟨gb709, _, none⟩) NB700_709.out _).trans (((zr (p := ⟨gb709, _, none⟩) NB700_709.out _).trans (((zr (p := ⟨gb709, _, none⟩) NB700_709.out _).trans (hHeld.2.2.1)))))), ((zr (p := ⟨gb709, _, none⟩) (by first | exact zn (zl (by have := zb _ _ hw702_0; first | rwa [za] at this | exact this) GW709.out) | (rw [za]; exact zn (zl (by have := zb _ _ hw702_0; first | rwa [za] at this | exact this) GW709.out)) | (show (Addr.add _ _).block ≠ _; rw [za]; exact zn (zl (by have := zb _ _ hw702_0; first | rwa [za] at this | exact this) GW709.out)) | (dsimp only; exact zn (zl (by have := zb _ _ hw702_0; first | rwa [za] at this | exact this) GW709.out))) _).trans (((zr (p := ⟨gb709, _, none⟩) (by first | exact zn (zl (by have := zb _ _ hw702_0; first | rwa [za] at this | exact this) GW709.out) | (rw [za]; exact zn (zl (by have := zb _ _ hw702_0; first | rwa [za] at this | exact this) GW709.out)) | (show (Addr.add _ _).block ≠ _; rw [za]; exact zn (zl (by have := zb _ _ hw702_0; first | rwa [za] at this | exact this) GW709.out)) | (dsimp only; exact zn (zl (by have := zb _ _ hw702_0; first | rwa [za] at this | exact this) GW709.out))) _).trans (((zr (p := ⟨gb709, _, none⟩) (by first | exact zn (zl (by have := zb _ _ hw702_0; first | rwa [za] at this | exact this) GW709.out) | (rw [za]; exact zn (zl (by have := zb _ _ hw702_0; first | rwa [za] at this | exact this) GW709.out)) | (show (Addr.add _ _).block ≠ _; rw [za]; exact zn (zl (by have := zb _ _ hw702_0; first | rwa [za] at this | exact this) GW709.out)) | (dsimp only; exact zn (zl (by have := zb _ _ hw702_0; first | rwa [za] at this | exact this) GW709.out))) _).trans (hHeld.2.2.2))))))⟩ (fun hHeld => ?_)
            clear hK K
            refine pure_ (i := 13) (N := some 16) (v := ?_) (a' := ?_) #[true, true, true, true, true, true, true, true, true, true, true, true, true, true] rfl rfl (any_of HT_.out (by kernel_rfl)) (fun _ _ _ h => h) (Or.inl ⟨by rfl, ?_⟩) ?_ ?_
            rotate_left
            ·
             intro w'
             go_simp
             with_reducible rfl
            rotate_left
            ·
             simp only [Act.put, List.setIfInBounds_toArray, List.set_cons_zero, List.set_cons_succ, i64_w, i32_w]
             rfl
            refine done_ (done_of HT_.out (by kernel_rfl)) ?_
            have hnb53 := NB709_689.out
            have hnc53 := NB689_709.out
            have hnb54 := NB709_690.out
            have hnc54 := NB690_709.out
            have hnb55 := NB709_697.out
            have hnc55 := NB697_709.out
            have hnb56 := NB709_700.out
            have hnc56 := NB700_709.out
            have hcz57_0 : w48.cell? ⟨gb709, 0, none⟩ = some (.int .u64 0) := (zs BK709.out 0).trans rfl
            have hcz57_1 : w48.cell? ⟨gb709, 1, none⟩ = some (.int .u32 0) := (zs BK709.out 1).trans rfl
            have hcz57_2 : w48.cell? ⟨gb709, 2, none⟩ = some (.slice none 0 0) := (zs BK709.out 2).trans rfl
            have hfz57_0 := zx BK709.out 0
            have hfz57_1 := zx BK709.out 1
            have hfz57_2 := zx BK709.out 2
            have hnb58 := NB700_689.out
            have hnc58 := NB689_700.out
            have hnb59 := NB700_690.out
            have hnc59 := NB690_700.out
            have hnb60 := NB700_697.out
            have hnc60 := NB697_700.out
            have hcz61_0 : w48.cell? ⟨gb700, 0, none⟩ = some (.int .u64 x701000_2) := (zs BK700.out 0).trans rfl
            have hcz61_1 : w48.cell? ⟨gb700, 1, none⟩ = some (.int .u32 x701001_2) := (zs BK700.out 1).trans rfl
            have hcz61_2 : w48.cell? ⟨gb700, 2, none⟩ = some (.slice Ao44 x701002_2.length co44) := (zs BK700.out 2).trans rfl
            have hfz61_0 := zx BK700.out 0
            have hfz61_1 := zx BK700.out 1
            have hfz61_2 := zx BK700.out 2
            try go_wp2
            go_roundg kj35
            case measure => have := HJ5.out; have := HK2.out; have := HJ35.out; omega
            case rel => exact ⟨(wrap64 (x36_2 + 1)), (x691000_2), (x691001_2), (t703), (t704), (t705), (.slice Ao51 t705.length co51), (by first | rfl | (simp; done) | (simp [*]; done)), H', ⟨by have := HJ5.out; have := HK2.out; have := HJ35.out; omega⟩, ⟨by (with_reducible repeat (first | apply zA | apply zB | apply zC)); exact zy (zI (p := ⟨gb700, 2, none⟩) (zI (p := ⟨gb700, 1, none⟩) (zI (p := ⟨gb700, 0, none⟩) (zI (p := ⟨gb709, 2, none⟩) (zI (p := ⟨gb709, 1, none⟩) (zI (p := ⟨gb709, 0, none⟩) (zy (zy HO_690002.out (fun k_ hk => (⟨hk, hk.2.2.2.2.2.2.2⟩ : _ ∧ k_ ≠ gb709))) (fun k_ hk => (⟨hk, hk.1.2.2.2.2.2.2.1⟩ : _ ∧ k_ ≠ gb700))) (fun _ hk => hk.1.2) (.int .u64 t703)) (fun _ hk => hk.1.2) (.int .u32 t704)) (fun _ hk => hk.1.2) (.slice Ao51 t705.length co51)) (fun _ hk => hk.2) (.int .u64 t703)) (fun _ hk => hk.2) (.int .u32 t704)) (fun _ hk => hk.2) (.slice Ao51 t705.length co51)) (fun _ hk => ⟨hk.1.1.1, ⟨hk.1.1.2.2.1, ⟨hk.1.1.2.2.2.1, ⟨hk.1.1.2.2.2.2.1, ⟨hk.1.1.2.2.2.2.2.1, hk.1.1.2.2.2.2.2.2.1⟩⟩⟩⟩⟩)⟩, ⟨by (with_reducible repeat (first | apply zo | apply zp | apply zq)); exact zG (zH (p := ⟨gb700, 2, none⟩) (zH (p := ⟨gb700, 1, none⟩) (zH (p := ⟨gb700, 0, none⟩) (zH (p := ⟨gb709, 2, none⟩) (zH (p := ⟨gb709, 1, none⟩) (zH (p := ⟨gb709, 0, none⟩) (Kd.R_types (Kd.R_types HO_698002.out BK709.out (by decide)) BK700.out (by decide)) (fun _ hk => hk.1.2) (.int .u64 t703)) (fun _ hk => hk.1.2) (.int .u32 t704)) (fun _ hk => hk.1.2) (.slice Ao51 t705.length co51)) (fun _ hk => hk.2) (.int .u64 t703)) (fun _ hk => hk.2) (.int .u32 t704)) (fun _ hk => hk.2) (.slice Ao51 t705.length co51)) (fun _ hk => hk.1.1.1)⟩, ⟨zy (Kd.R_V (ok := fun k_ => w.heap.size ≤ k_ ∧ some k_ ≠ ((.slice Ao16 t693.length co16) : Value).ownBlock ∧ k_ ≠ gb689 ∧ k_ ≠ gb690 ∧ k_ ≠ gb697 ∧ k_ ≠ gb700) (by (with_reducible repeat (first | apply zo | apply zp | apply zq)); exact zG (zH (p := ⟨gb700, 2, none⟩) (zH (p := ⟨gb700, 1, none⟩) (zH (p := ⟨gb700, 0, none⟩) (zH (p := ⟨gb709, 2, none⟩) (zH (p := ⟨gb709, 1, none⟩) (zH (p := ⟨gb709, 0, none⟩) (Kd.R_types (Kd.R_types (Kd.R_types (Kd.R_types (Kd.R_types (Kd.R_types HO707.out BK689.out (by decide)) BK690.out (by decide)) BK697.out (by decide)) BK700.out (by decide)) BK709.out (by decide)) BK700.out (by decide)) (fun _ hk => hk.1.2) (.int .u64 t703)) (fun _ hk => hk.1.2) (.int .u32 t704)) (fun _ hk => hk.1.2) (.slice Ao51 t705.length co51)) (fun _ hk => hk.2) (.int .u64 t703)) (fun _ hk => hk.2) (.int .u32 t704)) (fun _ hk => hk.2) (.slice Ao51 t705.length co51)) (fun _ hk => ⟨hk.1.1.1.1.1.1.1, ⟨hk.1.1.1.1.1.1.2, ⟨hk.1.1.1.1.1.2, ⟨hk.1.1.1.1.2, ⟨hk.1.1.1.2, hk.1.1.2⟩⟩⟩⟩⟩))) (fun k_ hk => by first | exact ⟨(.inr (hk.1)), hk.2⟩ | exact (.inr (hk)))⟩, ⟨by (with_reducible repeat (first | refine zh ?_ _ | refine zj ?_ | refine zi ?_ _)); refine zv ?_ NB689_700.out _; (with_reducible repeat (first | refine zh ?_ _ | refine zj ?_ | refine zi ?_ _)); refine zv ?_ NB689_700.out _; (with_reducible repeat (first | refine zh ?_ _ | refine zj ?_ | refine zi ?_ _)); refine zv ?_ NB689_700.out _; (with_reducible repeat (first | refine zh ?_ _ | refine zj ?_ | refine zi ?_ _)); refine zv ?_ NB689_709.out _; (with_reducible repeat (first | refine zh ?_ _ | refine zj ?_ | refine zi ?_ _)); refine zv ?_ NB689_709.out _; (with_reducible repeat (first | refine zh ?_ _ | refine zj ?_ | refine zi ?_ _)); refine zv ?_ NB689_709.out _; (with_reducible repeat (first | refine zh ?_ _ | refine zj ?_ | refine zi ?_ _)); exact BK689.out⟩, ⟨by (with_reducible repeat (first | refine zh ?_ _ | refine zj ?_ | refine zi ?_ _)); refine zv ?_ NB690_700.out _; (with_reducible repeat (first | refine zh ?_ _ | refine zj ?_ | refine zi ?_ _)); refine zv ?_ NB690_700.out _; (with_reducible repeat (first | refine zh ?_ _ | refine zj ?_ | refine zi ?_ _)); refine zv ?_ NB690_700.out _; (with_reducible repeat (first | refine zh ?_ _ | refine zj ?_ | refine zi ?_ _)); refine zv ?_ NB690_709.out _; (with_reducible repeat (first | refine zh ?_ _ | refine zj ?_ | refine zi ?_ _)); refine zv ?_ NB690_709.out _; (with_reducible repeat (first | refine zh ?_ _ | refine zj ?_ | refine zi ?_ _)); refine zv ?_ NB690_709.out _; (with_reducible repeat (first | refine zh ?_ _ | refine zj ?_ | refine zi ?_ _)); exact BK690.out⟩, ⟨by (with_reducible repeat (first | refine zh ?_ _ | refine zj ?_ | refine zi ?_ _)); refine zv ?_ NB697_700.out _; (with_reducible repeat (first | refine zh ?_ _ | refine zj ?_ | refine zi ?_ _)); refine zv ?_ NB697_700.out _; (with_reducible repeat (first | refine zh ?_ _ | refine zj ?_ | refine zi ?_ _)); refine zv ?_ NB697_700.out _; (with_reducible repeat (first | refine zh ?_ _ | refine zj ?_ | refine zi ?_ _)); refine zv ?_ NB697_709.out _; (with_reducible repeat (first | refine zh ?_ _ | refine zj ?_ | refine zi ?_ _)); refine zv ?_ NB697_709.out _; (with_reducible repeat (first | refine zh ?_ _ | refine zj ?_ | refine zi ?_ _)); refine zv ?_ NB697_709.out _; (with_reducible repeat (first | refine zh ?_ _ | refine zj ?_ | refine zi ?_ _)); exact BK697.out⟩, ⟨by (with_reducible repeat (first | refine zh ?_ _ | refine zj ?_ | refine zi ?_ _)); refine zw (cs := #[.int .u64 t703, .int .u32 t704, .slice Ao44 x701002_2.length co44]) ?_ 2 _ rfl; (with_reducible repeat (first | refine zh ?_ _ | refine zj ?_ | refine zi ?_ _)); refine zw (cs := #[.int .u64 t703, .int .u32 x701001_2, .slice Ao44 x701002_2.length co44]) ?_ 1 _ rfl; (with_reducible repeat (first | refine zh ?_ _ | refine zj ?_ | refine zi ?_ _)); refine zw (cs := #[.int .u64 x701000_2, .int .u32 x701001_2, .slice Ao44 x701002_2.length co44]) ?_ 0 _ rfl; (with_reducible repeat (first | refine zh ?_ _ | refine zj ?_ | refine zi ?_ _)); refine zv ?_ NB700_709.out _; (with_reducible repeat (first | refine zh ?_ _ | refine zj ?_ | refine zi ?_ _)); refine zv ?_ NB700_709.out _; (with_reducible repeat (first | refine zh ?_ _ | refine zj ?_ | refine zi ?_ _)); refine zv ?_ NB700_709.out _; (with_reducible repeat (first | refine zh ?_ _ | refine zj ?_ | refine zi ?_ _)); exact BK700.out⟩, ⟨by repeat (first | (with_reducible first | exact HB.out | apply ze | apply zd | apply zf | refine zk ?_ GE689.out | refine zk ?_ GE690.out | refine zk ?_ GE697.out | refine zk ?_ GE700.out | refine zk ?_ GE709.out) | exact HB.out)⟩⟩
           ·
            rw [if_neg c43] at H
            have c43b0 : (t708 == 0) = false := beq_eq_false_iff_ne.mpr c43
            have c43b1 : (t708 != 0) = true := bne_iff_ne.mpr c43
            simp only [Option.some.injEq, Prod.mk.injEq] at H
            obtain ⟨rfl, rfl, rfl, rfl⟩ := H
            obtain ⟨Ao62, co62, eo62⟩ := Kd.V_slice HO_701002.out
            subst eo62
            try go_wp2
            have n0_ := zm (zC HO_690002.out)
            have n1_ := zm (zq HO_698002.out)
            have n2_ := zm (zC HO_701002.out)
            have n3_ := zm (zj BK689.out)
            have n4_ := zm (zj BK690.out)
            have n5_ := zm (zj BK697.out)
            have n6_ := zm (zj BK700.out)
            have n7_ := zm (zf HB.out)
            clear HO_690002
            clear HO_698002
            clear HO_701002
            clear BK689
            clear BK690
            clear BK697
            clear BK700
            clear HB
            have HO_690002 := n0_
            have HO_698002 := n1_
            have HO_701002 := n2_
            have BK689 := n3_
            have BK690 := n4_
            have BK697 := n5_
            have BK700 := n6_
            have HB := n7_
            clear n0_ n1_ n2_ n3_ n4_ n5_ n6_ n7_
            have p702 : 0 ≤ (x36_2 : Int) := of_decide_eq_true (by first | (with_reducible assumption) | assumption)
            have q702 : x36_2 < (l1.length : Int) := of_decide_eq_true (by first | (with_reducible assumption) | assumption)
            obtain ⟨ad702, e702, hx702_0⟩ := Kd.at_int HR1.out x36_2 p702 q702
            have hw702_0 := hx702_0
            cases e702
            replace hx702_0 := (HB.out.cell (zb w _ hx702_0)).trans hx702_0
            replace p702 := eq_true p702
            replace q702 := eq_true q702
            refine start_ (n := 14) (S := fun w' => w'.cell? ⟨gb700, 0, none⟩ = some (.int .u64 x701000_2) ∧ w'.cell? ⟨gb700, 1, none⟩ = some (.int .u32 x701001_2) ∧ w'.cell? ⟨gb700, 2, none⟩ = some (.slice Ao62 x701002_2.length co62) ∧ w'.cell? (ad702.add (x36_2).toNat) = some (.int .i64 (rd l1 x36_2))) (ds := []) #[false, false, false, false, false, false, false, false, false, false, false, false, false, false] (by kernel_rfl) rfl rfl ⟨(zs BK700.out 0).trans rfl, (zs BK700.out 1).trans rfl, (zs BK700.out 2).trans rfl, ((HB.out.cell (zb w _ hw702_0)).trans hw702_0)⟩ (fun hHeld => ?_); refine with_tabW gain_Put.tab11 gain_Put.bits11 (fun HT_ HW_ => ?_)
            generalize wc.drew = w63 at HO_690002 HO_698002 HO_701002 BK689 BK690 BK697 BK700 HB hx702_0 hHeld ⊢
            refine pure_ (i := 1) (N := some 47) (v := ?_) (a' := ?_) #[false, true, false, false, false, false, false, false, false, false, false, false, false, false] rfl rfl (any_of HT_.out (by kernel_rfl)) (fun _ _ _ h => h) (Or.inl ⟨by rfl, ?_⟩) ?_ ?_
            rotate_left
            ·
             intro w'
             go_simp
             with_reducible rfl
            rotate_left
            ·
             simp only [Act.put, List.setIfInBounds_toArray, List.set_cons_zero, List.set_cons_succ, i64_w, i32_w]
             rfl
            refine pure_ (i := 2) (N := some 48) (v := ?_) (a' := ?_) #[false, true, true, false, false, false, false, false, false, false, false, false, false, false] rfl rfl (any_of HT_.out (by kernel_rfl)) (fun _ _ _ h => h) (Or.inl ⟨by rfl, ?_⟩) ?_ ?_
            rotate_left
            ·
             intro w'
             go_simp
             with_reducible rfl
            rotate_left
            ·
             simp only [Act.put, List.setIfInBounds_toArray, List.set_cons_zero, List.set_cons_succ, i64_w, i32_w]
             rfl
            refine pure_ (i := 3) (N := some 49) (v := ?_) (a' := ?_) #[false, true, true, true, false, false, false, false, false, false, false, false, false, false] rfl rfl (any_of HT_.out (by kernel_rfl)) (fun _ _ _ h => h) (Or.inl ⟨by rfl, ?_⟩) ?_ ?_
            rotate_left
            ·
             intro w'
             go_simp
             with_reducible rfl
            rotate_left
            ·
             simp only [Act.put, List.setIfInBounds_toArray, List.set_cons_zero, List.set_cons_succ, i64_w, i32_w]
             rfl
            refine pure_ (i := 5) (N := some 51) (v := ?_) (a' := ?_) #[false, true, true, true, false, true, false, false, false, false, false, false, false, false] rfl rfl (any_of HT_.out (by kernel_rfl)) (fun _ _ _ h => h) (Or.inl ⟨by rfl, ?_⟩) ?_ ?_
            rotate_left
            ·
             intro w'
             go_simp
             with_reducible rfl
            rotate_left
            ·
             simp only [Act.put, List.setIfInBounds_toArray, List.set_cons_zero, List.set_cons_succ, i64_w, i32_w]
             rfl
            refine pure_ (i := 6) (N := some 52) (v := ?_) (a' := ?_) #[false, true, true, true, false, true, true, false, false, false, false, false, false, false] rfl rfl (any_of HT_.out (by kernel_rfl)) (fun _ _ _ h => h) (Or.inl ⟨by rfl, ?_⟩) ?_ ?_
            rotate_left
            ·
             intro w'
             go_simp
             with_reducible rfl
            rotate_left
            ·
             simp only [Act.put, List.setIfInBounds_toArray, List.set_cons_zero, List.set_cons_succ, i64_w, i32_w]
             rfl
            refine take_ (i := 0) (N := some 46) (v := ?_) (a' := ?_) #[true, true, true, true, false, true, true, false, false, false, false, false, false, false] rfl rfl (take_ofW HT_.out HW_.out (by kernel_rfl)) (fun _ _ _ h => h) (Or.inl ⟨by rfl, ?_⟩) hHeld ?_ ?_
            rotate_left
            ·
             rintro w' ⟨s0, s1, s2, s3⟩
             go_simp
             with_reducible rfl
            rotate_left
            ·
             simp only [Act.put, List.setIfInBounds_toArray, List.set_cons_zero, List.set_cons_succ, i64_w, i32_w]
             rfl
            refine take_ (i := 4) (N := some 50) (v := ?_) (a' := ?_) #[true, true, true, true, true, true, true, false, false, false, false, false, false, false] rfl rfl (take_ofW HT_.out HW_.out (by kernel_rfl)) (fun _ _ _ h => h) (Or.inl ⟨by rfl, ?_⟩) hHeld ?_ ?_
            rotate_left
            ·
             rintro w' ⟨s0, s1, s2, s3⟩
             go_simp
             with_reducible rfl
            rotate_left
            ·
             simp only [Act.put, List.setIfInBounds_toArray, List.set_cons_zero, List.set_cons_succ, i64_w, i32_w]
             rfl
            refine join_ (σ := Value × Nat) 2 #[true, true, true, true, true, true, true, true, true, true, true, true, false, false] (fun s_ => [(53, .tuple #[.agg #[.int .u64 t703, .int .u32 t704, s_.1], .int .i64 t708]), (15, .pointer (some ⟨s_.2, 0, none⟩)), (45, .tuple #[.agg #[.int .u64 t703, .int .u32 t704, s_.1], .int .i64 t708]), (54, .agg #[.int .u64 t703, .int .u32 t704, s_.1]), (55, .int .i64 t708)]) (fun s_ w' => (w'.cell? ⟨gb700, 0, none⟩ = some (.int .u64 x701000_2) ∧ w'.cell? ⟨gb700, 1, none⟩ = some (.int .u32 x701001_2) ∧ w'.cell? ⟨gb700, 2, none⟩ = some (.slice Ao62 x701002_2.length co62) ∧ w'.cell? (ad702.add (x36_2).toNat) = some (.int .i64 (rd l1 x36_2))) ∧ (Kd.R (Kd.int .u8) 5 w' w.heap.size (fun k_ => (w.heap.size ≤ k_) ∧ some k_ ≠ (.slice Ao16 t693.length co16 : Value).ownBlock) s_.1 t705) ∧ (Kd.V (Kd.int .u8) 5 w' w.heap.size (fun k_ => (P0_2_ k_ ∨ w.heap.size ≤ k_) ∧ some k_ ≠ (s_.1 : Value).ownBlock ∧ some k_ ≠ (.slice Ao16 t693.length co16 : Value).ownBlock ∧ k_ ≠ gb689 ∧ k_ ≠ gb690 ∧ k_ ≠ gb697 ∧ k_ ≠ gb700 ∧ k_ ≠ s_.2) (.slice A0_2 l0_2.length c0_2) l0_2) ∧ (Kd.R (Kd.int .u8) 5 w' w.heap.size (fun k_ => (w.heap.size ≤ k_) ∧ some k_ ≠ (s_.1 : Value).ownBlock) (.slice Ao16 t693.length co16) t693) ∧ (Kd.V (Kd.int .u8) 5 w' w.heap.size (fun k_ => (P0_2_ k_ ∨ w.heap.size ≤ k_) ∧ some k_ ≠ (s_.1 : Value).ownBlock ∧ some k_ ≠ (.slice Ao16 t693.length co16 : Value).ownBlock ∧ k_ ≠ gb689 ∧ k_ ≠ gb690 ∧ k_ ≠ gb697 ∧ k_ ≠ gb700 ∧ k_ ≠ s_.2) (.slice Ao62 x701002_2.length co62) x701002_2) ∧ (w'.heap[gb689]? = some (.cells #[.int .u64 a0_0, .int .u32 a0_1, .slice A0_2 l0_2.length c0_2] 26 (0, 0))) ∧ (w'.heap[gb690]? = some (.cells #[.int .u64 x691000_2, .int .u32 x691001_2, .slice none 0 0] 26 (0, 0))) ∧ (w'.heap[gb697]? = some (.cells #[.int .u64 t691, .int .u32 t692, .slice Ao16 t693.length co16] 26 (0, 0))) ∧ (w'.heap[gb700]? = some (.cells #[.int .u64 x701000_2, .int .u32 x701001_2, .slice Ao62 x701002_2.length co62] 26 (0, 0))) ∧ (w'.heap[s_.2]? = some (.cells #[.int .u64 0, .int .u32 0, .slice none 0 0] 26 (0, 0))) ∧ (w.heap.size ≤ s_.2) ∧ (w.heap.size ≤ s_.2) ∧ (gb689 ≠ s_.2) ∧ (s_.2 ≠ gb689) ∧ (gb690 ≠ s_.2) ∧ (s_.2 ≠ gb690) ∧ (gb697 ≠ s_.2) ∧ (s_.2 ≠ gb697) ∧ (gb700 ≠ s_.2) ∧ (s_.2 ≠ gb700) ∧ (Below w.heap.size w w')) ?_ ?_
            rotate_left
            ·
             intro hCont
             refine two_ (i := 7) (j := 11) (Ni := some 53) (Nj := some 15) #[true, true, true, true, true, true, true, true, false, false, false, false, false, false] #[true, true, true, true, true, true, true, false, false, false, false, true, false, false] rfl rfl rfl rfl (two_of HT_.out (by kernel_rfl)) (by decide) (by decide) (fun K hK => ?_) (fun K hK => ?_)
             ·
              skip
              refine goes_ Try.func64 (by kernel_rfl) rfl #[.agg #[.int .u64 x701000_2, .int .u32 x701001_2, .slice Ao62 x701002_2.length co62], .int .i64 (rd l1 x36_2), .int .i64 x14_35, .bool a3] (by rfl) rfl rfl (by (try simp only [List.map_toArray, List.map_cons, List.map_nil]); first | done | rfl | (simp only [List.length_drop, List.length_take]; rfl)) ?_
              with_reducible refine (gain_put.calls kj35 x701000_2 x701001_2 _ _ x701002_2 (rd l1 x36_2) x14_35 a3 t703 t704 t705 t708 _ ?side1 ?side2 A42.out).mono ?_
              (case side1 => repeat (first | exact (Kd.V_reads' HO_701002.out).2.2 | (with_reducible refine Kd.C_alloc ?_ _) | (with_reducible refine Kd.C_drewN ?_ _) | (with_reducible refine Kd.C_drew ?_)))
              (case side2 => exact (Kd.V_reads' HO_701002.out).2.1)
              rintro e w64 ⟨v706, rfl, ho0, hb⟩
              refine ⟨_, rfl, ?_⟩
              have n0_ := zm (Kd.V_elder' (by (with_reducible repeat (first | apply zA | apply zB | apply zC)); exact HO_690002.out) (Kd.R_base ho0) hb)
              have n1_ := zm (Kd.R_elder' (by (with_reducible repeat (first | apply zo | apply zp | apply zq)); exact HO_698002.out) (Kd.R_base ho0) hb)
              have n2_ := zm (Kd.V_elder' (by (with_reducible repeat (first | apply zA | apply zB | apply zC)); exact HO_701002.out) (Kd.R_base ho0) hb)
              have n3_ := zm (Kd.R_lower (Kd.R_new' (Kd.R_newM (M := fun k_ => (w.heap.size ≤ k_)) ho0 (zE (by repeat (first | (with_reducible first | exact HB.out | apply ze | apply zd | apply zf | refine zk ?_ GE689.out | refine zk ?_ GE690.out | refine zk ?_ GE697.out | refine zk ?_ GE700.out) | exact HB.out))) (fun k_ h_ => h_)) (Kd.R_lt (by (with_reducible repeat (first | apply zo | apply zp | apply zq)); exact HO_698002.out))) (zE (by repeat (first | (with_reducible first | exact HB.out | apply ze | apply zd | apply zf | refine zk ?_ GE689.out | refine zk ?_ GE690.out | refine zk ?_ GE697.out | refine zk ?_ GE700.out) | exact HB.out))))
              have n4_ := zm (zF (g := gb689) (o := .cells #[.int .u64 a0_0, .int .u32 a0_1, .slice A0_2 l0_2.length c0_2] 26 (0, 0)) (by (with_reducible repeat (first | refine zh ?_ _ | refine zj ?_ | refine zi ?_ _)); exact BK689.out) hb)
              have n5_ := zm (zF (g := gb690) (o := .cells #[.int .u64 x691000_2, .int .u32 x691001_2, .slice none 0 0] 26 (0, 0)) (by (with_reducible repeat (first | refine zh ?_ _ | refine zj ?_ | refine zi ?_ _)); exact BK690.out) hb)
              have n6_ := zm (zF (g := gb697) (o := .cells #[.int .u64 t691, .int .u32 t692, .slice Ao16 t693.length co16] 26 (0, 0)) (by (with_reducible repeat (first | refine zh ?_ _ | refine zj ?_ | refine zi ?_ _)); exact BK697.out) hb)
              have n7_ := zm (zF (g := gb700) (o := .cells #[.int .u64 x701000_2, .int .u32 x701001_2, .slice Ao62 x701002_2.length co62] 26 (0, 0)) (by (with_reducible repeat (first | refine zh ?_ _ | refine zj ?_ | refine zi ?_ _)); exact BK700.out) hb)
              have n8_ := zm (zJ (by repeat (first | (with_reducible first | exact HB.out | apply ze | apply zd | apply zf | refine zk ?_ GE689.out | refine zk ?_ GE690.out | refine zk ?_ GE697.out | refine zk ?_ GE700.out) | exact HB.out)) hb)
              clear HO_690002
              clear HO_698002
              clear HO_701002
              clear BK689
              clear BK690
              clear BK697
              clear BK700
              clear HB
              have HO_690002 := n0_
              have HO_698002 := n1_
              have HO_701002 := n2_
              have HO707 := n3_
              have BK689 := n4_
              have BK690 := n5_
              have BK697 := n6_
              have BK700 := n7_
              have HB := n8_
              clear n0_ n1_ n2_ n3_ n4_ n5_ n6_ n7_ n8_
              (try clear hb)
              (try clear hb2)
              (try clear hk)
              (try clear hi)
              (try clear ho0)
              refine hK.out _ _ ⟨(zs BK700.out 0).trans rfl, (zs BK700.out 1).trans rfl, (zs BK700.out 2).trans rfl, ((HB.out.cell (zb w _ hw702_0)).trans hw702_0)⟩ (fun hHeld => ?_)
              clear hK K
              refine norm_ (a' := ?_) ?_ ?_
              rotate_left
              ·
               show Act.put _ (some 53) _ = _
               simp only [Act.put, List.setIfInBounds_toArray, List.set_cons_zero, List.set_cons_succ, i64_w, i32_w]
               rfl
              refine pure_ (i := 8) (N := some 45) (v := ?_) (a' := ?_) #[true, true, true, true, true, true, true, true, true, false, false, false, false, false] rfl rfl (any_of HT_.out (by kernel_rfl)) (fun _ _ _ h => h) (Or.inl ⟨by rfl, ?_⟩) ?_ ?_
              rotate_left
              ·
               intro w'
               go_simp
               with_reducible rfl
              rotate_left
              ·
               simp only [Act.put, List.setIfInBounds_toArray, List.set_cons_zero, List.set_cons_succ, i64_w, i32_w]
               rfl
              refine pure_ (i := 9) (N := some 54) (v := ?_) (a' := ?_) #[true, true, true, true, true, true, true, true, true, true, false, false, false, false] rfl rfl (any_of HT_.out (by kernel_rfl)) (fun _ _ _ h => h) (Or.inl ⟨by rfl, ?_⟩) ?_ ?_
              rotate_left
              ·
               intro w'
               go_simp
               with_reducible rfl
              rotate_left
              ·
               simp only [Act.put, List.setIfInBounds_toArray, List.set_cons_zero, List.set_cons_succ, i64_w, i32_w]
               rfl
              refine pure_ (i := 10) (N := some 55) (v := ?_) (a' := ?_) #[true, true, true, true, true, true, true, true, true, true, true, false, false, false] rfl rfl (any_of HT_.out (by kernel_rfl)) (fun _ _ _ h => h) (Or.inl ⟨by rfl, ?_⟩) ?_ ?_
              rotate_left
              ·
               intro w'
               go_simp
               with_reducible rfl
              rotate_left
              ·
               simp only [Act.put, List.setIfInBounds_toArray, List.set_cons_zero, List.set_cons_succ, i64_w, i32_w]
               rfl
              refine one_ (i := 11) (N := some 15) #[true, true, true, true, true, true, true, true, true, true, true, true, false, false] rfl rfl (one_of HT_.out (by kernel_rfl)) (by decide) (fun K hK => ?_)
              refine box_step ?hg (N := 15) ?hd (cs := #[.int .u64 0, .int .u32 0, .slice none 0 0]) (t := 26) ?hr ?_; (case hd => rfl); (case hg => rfl); (case hr => first | (go_simp; done) | (go_simp; rfl))
              intro gb709 hg w65 hbox hb
              have n0_ := zm (Kd.V_below (Kd.V_elderB (by (with_reducible repeat (first | apply zA | apply zB | apply zC)); exact HO_690002.out) gb709 (Nat.le_of_eq hg.symm)) hb)
              have n1_ := zm (Kd.R_below (by (with_reducible repeat (first | apply zo | apply zp | apply zq)); exact HO_698002.out) hb)
              have n2_ := zm (Kd.V_below (Kd.V_elderB (by (with_reducible repeat (first | apply zA | apply zB | apply zC)); exact HO_701002.out) gb709 (Nat.le_of_eq hg.symm)) hb)
              have n3_ := zm (Kd.R_below (by (with_reducible repeat (first | apply zo | apply zp | apply zq)); exact HO707.out) hb)
              have n4_ := zm (zF (g := gb689) (o := .cells #[.int .u64 a0_0, .int .u32 a0_1, .slice A0_2 l0_2.length c0_2] 26 (0, 0)) (by (with_reducible repeat (first | refine zh ?_ _ | refine zj ?_ | refine zi ?_ _)); exact BK689.out) hb)
              have n5_ := zm (zF (g := gb690) (o := .cells #[.int .u64 x691000_2, .int .u32 x691001_2, .slice none 0 0] 26 (0, 0)) (by (with_reducible repeat (first | refine zh ?_ _ | refine zj ?_ | refine zi ?_ _)); exact BK690.out) hb)
              have n6_ := zm (zF (g := gb697) (o := .cells #[.int .u64 t691, .int .u32 t692, .slice Ao16 t693.length co16] 26 (0, 0)) (by (with_reducible repeat (first | refine zh ?_ _ | refine zj ?_ | refine zi ?_ _)); exact BK697.out) hb)
              have n7_ := zm (zF (g := gb700) (o := .cells #[.int .u64 x701000_2, .int .u32 x701001_2, .slice Ao62 x701002_2.length co62] 26 (0, 0)) (by (with_reducible repeat (first | refine zh ?_ _ | refine zj ?_ | refine zi ?_ _)); exact BK700.out) hb)
              have n8_ := zm (zJ (by repeat (first | (with_reducible first | exact HB.out | apply ze | apply zd | apply zf | refine zk ?_ GE689.out | refine zk ?_ GE690.out | refine zk ?_ GE697.out | refine zk ?_ GE700.out) | exact HB.out)) hb)
              have n9_ := zm (hbox)
              have n10_ := zm ((by rw [hg]; exact (zE (by repeat (first | (with_reducible first | exact HB.out | apply ze | apply zd | apply zf | refine zk ?_ GE689.out | refine zk ?_ GE690.out | refine zk ?_ GE697.out | refine zk ?_ GE700.out) | exact HB.out))) : w.heap.size ≤ gb709))
              have n11_ := zm ((by rw [hg]; exact (zE (by repeat (first | (with_reducible first | exact HB.out | apply ze | apply zd | apply zf | refine zk ?_ GE689.out | refine zk ?_ GE690.out | refine zk ?_ GE697.out | refine zk ?_ GE700.out) | exact HB.out))) : w.heap.size ≤ gb709))
              have n12_ := zm ((by rw [hg]; exact zn (zD (g := gb689) (o := .cells #[.int .u64 a0_0, .int .u32 a0_1, .slice A0_2 l0_2.length c0_2] 26 (0, 0)) (by (with_reducible repeat (first | refine zh ?_ _ | refine zj ?_ | refine zi ?_ _)); exact BK689.out)) : gb689 ≠ gb709))
              have n13_ := zm ((by rw [hg]; exact zg (zD (g := gb689) (o := .cells #[.int .u64 a0_0, .int .u32 a0_1, .slice A0_2 l0_2.length c0_2] 26 (0, 0)) (by (with_reducible repeat (first | refine zh ?_ _ | refine zj ?_ | refine zi ?_ _)); exact BK689.out)) : gb709 ≠ gb689))
              have n14_ := zm ((by rw [hg]; exact zn (zD (g := gb690) (o := .cells #[.int .u64 x691000_2, .int .u32 x691001_2, .slice none 0 0] 26 (0, 0)) (by (with_reducible repeat (first | refine zh ?_ _ | refine zj ?_ | refine zi ?_ _)); exact BK690.out)) : gb690 ≠ gb709))
              have n15_ := zm ((by rw [hg]; exact zg (zD (g := gb690) (o := .cells #[.int .u64 x691000_2, .int .u32 x691001_2, .slice none 0 0] 26 (0, 0)) (by (with_reducible repeat (first | refine zh ?_ _ | refine zj ?_ | refine zi ?_ _)); exact BK690.out)) : gb709 ≠ gb690))
              have n16_ := zm ((by rw [hg]; exact zn (zD (g := gb697) (o := .cells #[.int .u64 t691, .int .u32 t692, .slice Ao16 t693.length co16] 26 (0, 0)) (by (with_reducible repeat (first | refine zh ?_ _ | refine zj ?_ | refine zi ?_ _)); exact BK697.out)) : gb697 ≠ gb709))
              have n17_ := zm ((by rw [hg]; exact zg (zD (g := gb697) (o := .cells #[.int .u64 t691, .int .u32 t692, .slice Ao16 t693.length co16] 26 (0, 0)) (by (with_reducible repeat (first | refine zh ?_ _ | refine zj ?_ | refine zi ?_ _)); exact BK697.out)) : gb709 ≠ gb697))
              have n18_ := zm ((by rw [hg]; exact zn (zD (g := gb700) (o := .cells #[.int .u64 x701000_2, .int .u32 x701001_2, .slice Ao62 x701002_2.length co62] 26 (0, 0)) (by (with_reducible repeat (first | refine zh ?_ _ | refine zj ?_ | refine zi ?_ _)); exact BK700.out)) : gb700 ≠ gb709))
              have n19_ := zm ((by rw [hg]; exact zg (zD (g := gb700) (o := .cells #[.int .u64 x701000_2, .int .u32 x701001_2, .slice Ao62 x701002_2.length co62] 26 (0, 0)) (by (with_reducible repeat (first | refine zh ?_ _ | refine zj ?_ | refine zi ?_ _)); exact BK700.out)) : gb709 ≠ gb700))
              clear HO_690002
              clear HO_698002
              clear HO_701002
              clear HO707
              clear BK689
              clear BK690
              clear BK697
              clear BK700
              clear HB
              have HO_690002 := n0_
              have HO_698002 := n1_
              have HO_701002 := n2_
              have HO707 := n3_
              have BK689 := n4_
              have BK690 := n5_
              have BK697 := n6_
              have BK700 := n7_
              have HB := n8_
              have BK709 := n9_
              have GW709 := n10_
              have GE709 := n11_
              have NB689_709 := n12_
              have NB709_689 := n13_
              have NB690_709 := n14_
              have NB709_690 := n15_
              have NB697_709 := n16_
              have NB709_697 := n17_
              have NB700_709 := n18_
              have NB709_700 := n19_
              clear n0_ n1_ n2_ n3_ n4_ n5_ n6_ n7_ n8_ n9_ n10_ n11_ n12_ n13_ n14_ n15_ n16_ n17_ n18_ n19_
              clear hb hbox hg
              refine hK.out _ _ ⟨(zs BK700.out 0).trans rfl, (zs BK700.out 1).trans rfl, (zs BK700.out 2).trans rfl, ((HB.out.cell (zb w _ hw702_0)).trans hw702_0)⟩ (fun hHeld => ?_)
              clear hK K
              refine norm_ (a' := ?_) ?_ ?_
              rotate_left
              ·
               show Act.put _ (some 15) _ = _
               simp only [Act.put, List.setIfInBounds_toArray, List.set_cons_zero, List.set_cons_succ, i64_w, i32_w]
               rfl
              exact norm_ (by simp only [putAll, Act.put, List.setIfInBounds_toArray, List.set_cons_zero, List.set_cons_succ]) (hCont (v706, gb709) _ ⟨hHeld, (by (with_reducible repeat (first | apply zo | apply zp | apply zq)); exact zG HO707.out (fun _ hk => ⟨hk.1.1, hk.2⟩)), (by (with_reducible repeat (first | apply zA | apply zB | apply zC)); exact zy HO_690002.out (fun _ hk => ⟨hk.1.1.1, ⟨hk.1.2, ⟨hk.1.1.2.1, ⟨hk.1.1.2.2.1, ⟨hk.1.1.2.2.2.1, ⟨hk.1.1.2.2.2.2.1, ⟨hk.1.1.2.2.2.2.2, hk.2⟩⟩⟩⟩⟩⟩⟩)), (by (with_reducible repeat (first | apply zo | apply zp | apply zq)); exact HO_698002.out), (by (with_reducible repeat (first | apply zA | apply zB | apply zC)); exact zy HO_701002.out (fun _ hk => ⟨hk.1.1.1, ⟨hk.1.2, ⟨hk.1.1.2.1, ⟨hk.1.1.2.2.1, ⟨hk.1.1.2.2.2.1, ⟨hk.1.1.2.2.2.2.1, ⟨hk.1.1.2.2.2.2.2, hk.2⟩⟩⟩⟩⟩⟩⟩)), (by (with_reducible repeat (first | refine zh ?_ _ | refine zj ?_ | refine zi ?_ _)); exact BK689.out), (by (with_reducible repeat (first | refine zh ?_ _ | refine zj ?_ | refine zi ?_ _)); exact BK690.out), (by (with_reducible repeat (first | refine zh ?_ _ | refine zj ?_ | refine zi ?_ _)); exact BK697.out), (by (with_reducible repeat (first | refine zh ?_ _ | refine zj ?_ | refine zi ?_ _)); exact BK700.out), (by (with_reducible repeat (first | refine zh ?_ _ | refine zj ?_ | refine zi ?_ _)); exact BK709.out), GW709.out, GE709.out, NB689_709.out, NB709_689.out, NB690_709.out, NB709_690.out, NB697_709.out, NB709_697.out, NB700_709.out, NB709_700.out, (by repeat (first | (with_reducible first | exact HB.out | apply ze | apply zd | apply zf | refine zk ?_ GE689.out | refine zk ?_ GE690.out | refine zk ?_ GE697.out | refine zk ?_ GE700.out | refine zk ?_ GE709.out) | exact HB.out))⟩)
             ·
              skip
              refine box_step ?hg (N := 15) ?hd (cs := #[.int .u64 0, .int .u32 0, .slice none 0 0]) (t := 26) ?hr ?_; (case hd => rfl); (case hg => rfl); (case hr => first | (go_simp; done) | (go_simp; rfl))
              intro gb709 hg w64 hbox hb
              have n0_ := zm (Kd.V_below (Kd.V_elderB (by (with_reducible repeat (first | apply zA | apply zB | apply zC)); exact HO_690002.out) gb709 (Nat.le_of_eq hg.symm)) hb)
              have n1_ := zm (Kd.R_below (by (with_reducible repeat (first | apply zo | apply zp | apply zq)); exact HO_698002.out) hb)
              have n2_ := zm (Kd.V_below (Kd.V_elderB (by (with_reducible repeat (first | apply zA | apply zB | apply zC)); exact HO_701002.out) gb709 (Nat.le_of_eq hg.symm)) hb)
              have n3_ := zm (zF (g := gb689) (o := .cells #[.int .u64 a0_0, .int .u32 a0_1, .slice A0_2 l0_2.length c0_2] 26 (0, 0)) (by (with_reducible repeat (first | refine zh ?_ _ | refine zj ?_ | refine zi ?_ _)); exact BK689.out) hb)
              have n4_ := zm (zF (g := gb690) (o := .cells #[.int .u64 x691000_2, .int .u32 x691001_2, .slice none 0 0] 26 (0, 0)) (by (with_reducible repeat (first | refine zh ?_ _ | refine zj ?_ | refine zi ?_ _)); exact BK690.out) hb)
              have n5_ := zm (zF (g := gb697) (o := .cells #[.int .u64 t691, .int .u32 t692, .slice Ao16 t693.length co16] 26 (0, 0)) (by (with_reducible repeat (first | refine zh ?_ _ | refine zj ?_ | refine zi ?_ _)); exact BK697.out) hb)
              have n6_ := zm (zF (g := gb700) (o := .cells #[.int .u64 x701000_2, .int .u32 x701001_2, .slice Ao62 x701002_2.length co62] 26 (0, 0)) (by (with_reducible repeat (first | refine zh ?_ _ | refine zj ?_ | refine zi ?_ _)); exact BK700.out) hb)
              have n7_ := zm (zJ (by repeat (first | (with_reducible first | exact HB.out | apply ze | apply zd | apply zf | refine zk ?_ GE689.out | refine zk ?_ GE690.out | refine zk ?_ GE697.out | refine zk ?_ GE700.out) | exact HB.out)) hb)
              have n8_ := zm (hbox)
              have n9_ := zm ((by rw [hg]; exact (zE (by repeat (first | (with_reducible first | exact HB.out | apply ze | apply zd | apply zf | refine zk ?_ GE689.out | refine zk ?_ GE690.out | refine zk ?_ GE697.out | refine zk ?_ GE700.out) | exact HB.out))) : w.heap.size ≤ gb709))
              have n10_ := zm ((by rw [hg]; exact (zE (by repeat (first | (with_reducible first | exact HB.out | apply ze | apply zd | apply zf | refine zk ?_ GE689.out | refine zk ?_ GE690.out | refine zk ?_ GE697.out | refine zk ?_ GE700.out) | exact HB.out))) : w.heap.size ≤ gb709))
              have n11_ := zm ((by rw [hg]; exact zn (zD (g := gb689) (o := .cells #[.int .u64 a0_0, .int .u32 a0_1, .slice A0_2 l0_2.length c0_2] 26 (0, 0)) (by (with_reducible repeat (first | refine zh ?_ _ | refine zj ?_ | refine zi ?_ _)); exact BK689.out)) : gb689 ≠ gb709))
              have n12_ := zm ((by rw [hg]; exact zg (zD (g := gb689) (o := .cells #[.int .u64 a0_0, .int .u32 a0_1, .slice A0_2 l0_2.length c0_2] 26 (0, 0)) (by (with_reducible repeat (first | refine zh ?_ _ | refine zj ?_ | refine zi ?_ _)); exact BK689.out)) : gb709 ≠ gb689))
              have n13_ := zm ((by rw [hg]; exact zn (zD (g := gb690) (o := .cells #[.int .u64 x691000_2, .int .u32 x691001_2, .slice none 0 0] 26 (0, 0)) (by (with_reducible repeat (first | refine zh ?_ _ | refine zj ?_ | refine zi ?_ _)); exact BK690.out)) : gb690 ≠ gb709))
              have n14_ := zm ((by rw [hg]; exact zg (zD (g := gb690) (o := .cells #[.int .u64 x691000_2, .int .u32 x691001_2, .slice none 0 0] 26 (0, 0)) (by (with_reducible repeat (first | refine zh ?_ _ | refine zj ?_ | refine zi ?_ _)); exact BK690.out)) : gb709 ≠ gb690))
              have n15_ := zm ((by rw [hg]; exact zn (zD (g := gb697) (o := .cells #[.int .u64 t691, .int .u32 t692, .slice Ao16 t693.length co16] 26 (0, 0)) (by (with_reducible repeat (first | refine zh ?_ _ | refine zj ?_ | refine zi ?_ _)); exact BK697.out)) : gb697 ≠ gb709))
              have n16_ := zm ((by rw [hg]; exact zg (zD (g := gb697) (o := .cells #[.int .u64 t691, .int .u32 t692, .slice Ao16 t693.length co16] 26 (0, 0)) (by (with_reducible repeat (first | refine zh ?_ _ | refine zj ?_ | refine zi ?_ _)); exact BK697.out)) : gb709 ≠ gb697))
              have n17_ := zm ((by rw [hg]; exact zn (zD (g := gb700) (o := .cells #[.int .u64 x701000_2, .int .u32 x701001_2, .slice Ao62 x701002_2.length co62] 26 (0, 0)) (by (with_reducible repeat (first | refine zh ?_ _ | refine zj ?_ | refine zi ?_ _)); exact BK700.out)) : gb700 ≠ gb709))
              have n18_ := zm ((by rw [hg]; exact zg (zD (g := gb700) (o := .cells #[.int .u64 x701000_2, .int .u32 x701001_2, .slice Ao62 x701002_2.length co62] 26 (0, 0)) (by (with_reducible repeat (first | refine zh ?_ _ | refine zj ?_ | refine zi ?_ _)); exact BK700.out)) : gb709 ≠ gb700))
              clear HO_690002
              clear HO_698002
              clear HO_701002
              clear BK689
              clear BK690
              clear BK697
              clear BK700
              clear HB
              have HO_690002 := n0_
              have HO_698002 := n1_
              have HO_701002 := n2_
              have BK689 := n3_
              have BK690 := n4_
              have BK697 := n5_
              have BK700 := n6_
              have HB := n7_
              have BK709 := n8_
              have GW709 := n9_
              have GE709 := n10_
              have NB689_709 := n11_
              have NB709_689 := n12_
              have NB690_709 := n13_
              have NB709_690 := n14_
              have NB697_709 := n15_
              have NB709_697 := n16_
              have NB700_709 := n17_
              have NB709_700 := n18_
              clear n0_ n1_ n2_ n3_ n4_ n5_ n6_ n7_ n8_ n9_ n10_ n11_ n12_ n13_ n14_ n15_ n16_ n17_ n18_
              clear hb hbox hg
              refine hK.out _ _ ⟨(zs BK700.out 0).trans rfl, (zs BK700.out 1).trans rfl, (zs BK700.out 2).trans rfl, ((HB.out.cell (zb w _ hw702_0)).trans hw702_0)⟩ (fun hHeld => ?_)
              clear hK K
              refine norm_ (a' := ?_) ?_ ?_
              rotate_left
              ·
               show Act.put _ (some 15) _ = _
               simp only [Act.put, List.setIfInBounds_toArray, List.set_cons_zero, List.set_cons_succ, i64_w, i32_w]
               rfl
              refine one_ (i := 7) (N := some 53) #[true, true, true, true, true, true, true, true, false, false, false, true, false, false] rfl rfl (one_of HT_.out (by kernel_rfl)) (by decide) (fun K hK => ?_)
              refine goes_ Try.func64 (by kernel_rfl) rfl #[.agg #[.int .u64 x701000_2, .int .u32 x701001_2, .slice Ao62 x701002_2.length co62], .int .i64 (rd l1 x36_2), .int .i64 x14_35, .bool a3] (by rfl) rfl rfl (by (try simp only [List.map_toArray, List.map_cons, List.map_nil]); first | done | rfl | (simp only [List.length_drop, List.length_take]; rfl)) ?_
              with_reducible refine (gain_put.calls kj35 x701000_2 x701001_2 _ _ x701002_2 (rd l1 x36_2) x14_35 a3 t703 t704 t705 t708 _ ?side1 ?side2 A42.out).mono ?_
              (case side1 => repeat (first | exact (Kd.V_reads' HO_701002.out).2.2 | (with_reducible refine Kd.C_alloc ?_ _) | (with_reducible refine Kd.C_drewN ?_ _) | (with_reducible refine Kd.C_drew ?_)))
              (case side2 => exact (Kd.V_reads' HO_701002.out).2.1)
              rintro e w65 ⟨v706, rfl, ho0, hb⟩
              refine ⟨_, rfl, ?_⟩
              have n0_ := zm (Kd.V_elder' (by (with_reducible repeat (first | apply zA | apply zB | apply zC)); exact HO_690002.out) (Kd.R_base ho0) hb)
              have n1_ := zm (Kd.R_elder' (by (with_reducible repeat (first | apply zo | apply zp | apply zq)); exact HO_698002.out) (Kd.R_base ho0) hb)
              have n2_ := zm (Kd.V_elder' (by (with_reducible repeat (first | apply zA | apply zB | apply zC)); exact HO_701002.out) (Kd.R_base ho0) hb)
              have n3_ := zm (Kd.R_lower (Kd.R_new' (Kd.R_newM (M := fun k_ => (w.heap.size ≤ k_)) ho0 (zE (by repeat (first | (with_reducible first | exact HB.out | apply ze | apply zd | apply zf | refine zk ?_ GE689.out | refine zk ?_ GE690.out | refine zk ?_ GE697.out | refine zk ?_ GE700.out | refine zk ?_ GE709.out) | exact HB.out))) (fun k_ h_ => h_)) (Kd.R_lt (by (with_reducible repeat (first | apply zo | apply zp | apply zq)); exact HO_698002.out))) (zE (by repeat (first | (with_reducible first | exact HB.out | apply ze | apply zd | apply zf | refine zk ?_ GE689.out | refine zk ?_ GE690.out | refine zk ?_ GE697.out | refine zk ?_ GE700.out | refine zk ?_ GE709.out) | exact HB.out))))
              have n4_ := zm (zF (g := gb689) (o := .cells #[.int .u64 a0_0, .int .u32 a0_1, .slice A0_2 l0_2.length c0_2] 26 (0, 0)) (by (with_reducible repeat (first | refine zh ?_ _ | refine zj ?_ | refine zi ?_ _)); exact BK689.out) hb)
              have n5_ := zm (zF (g := gb690) (o := .cells #[.int .u64 x691000_2, .int .u32 x691001_2, .slice none 0 0] 26 (0, 0)) (by (with_reducible repeat (first | refine zh ?_ _ | refine zj ?_ | refine zi ?_ _)); exact BK690.out) hb)
              have n6_ := zm (zF (g := gb697) (o := .cells #[.int .u64 t691, .int .u32 t692, .slice Ao16 t693.length co16] 26 (0, 0)) (by (with_reducible repeat (first | refine zh ?_ _ | refine zj ?_ | refine zi ?_ _)); exact BK697.out) hb)
              have n7_ := zm (zF (g := gb700) (o := .cells #[.int .u64 x701000_2, .int .u32 x701001_2, .slice Ao62 x701002_2.length co62] 26 (0, 0)) (by (with_reducible repeat (first | refine zh ?_ _ | refine zj ?_ | refine zi ?_ _)); exact BK700.out) hb)
              have n8_ := zm (zF (g := gb709) (o := .cells #[.int .u64 0, .int .u32 0, .slice none 0 0] 26 (0, 0)) (by (with_reducible repeat (first | refine zh ?_ _ | refine zj ?_ | refine zi ?_ _)); exact BK709.out) hb)
              have n9_ := zm (zJ (by repeat (first | (with_reducible first | exact HB.out | apply ze | apply zd | apply zf | refine zk ?_ GE689.out | refine zk ?_ GE690.out | refine zk ?_ GE697.out | refine zk ?_ GE700.out | refine zk ?_ GE709.out) | exact HB.out)) hb)
              clear HO_690002
              clear HO_698002
              clear HO_701002
              clear BK689
              clear BK690
              clear BK697
              clear BK700
              clear BK709
              clear HB
              have HO_690002 := n0_
              have HO_698002 := n1_
              have HO_701002 := n2_
              have HO707 := n3_
              have BK689 := n4_
              have BK690 := n5_
              have BK697 := n6_
              have BK700 := n7_
              have BK709 := n8_
              have HB := n9_
              clear n0_ n1_ n2_ n3_ n4_ n5_ n6_ n7_ n8_ n9_
              (try clear hb)
              (try clear hb2)
              (try clear hk)
              (try clear hi)
              (try clear ho0)
              refine hK.out _ _ ⟨(zs BK700.out 0).trans rfl, (zs BK700.out 1).trans rfl, (zs BK700.out 2).trans rfl, ((HB.out.cell (zb w _ hw702_0)).trans hw702_0)⟩ (fun hHeld => ?_)
              clear hK K
              refine norm_ (a' := ?_) ?_ ?_
              rotate_left
              ·
               show Act.put _ (some 53) _ = _
               simp only [Act.put, List.setIfInBounds_toArray, List.set_cons_zero, List.set_cons_succ, i64_w, i32_w]
               rfl
              refine pure_ (i := 8) (N := some 45) (v := ?_) (a' := ?_) #[true, true, true, true, true, true, true, true, true, false, false, true, false, false] rfl rfl (any_of HT_.out (by kernel_rfl)) (fun _ _ _ h => h) (Or.inl ⟨by rfl, ?_⟩) ?_ ?_
              rotate_left
              ·
               intro w'
               go_simp
               with_reducible rfl
              rotate_left
              ·
               simp only [Act.put, List.setIfInBounds_toArray, List.set_cons_zero, List.set_cons_succ, i64_w, i32_w]
               rfl
              refine pure_ (i := 9) (N := some 54) (v := ?_) (a' := ?_) #[true, true, true, true, true, true, true, true, true, true, false, true, false, false] rfl rfl (any_of HT_.out (by kernel_rfl)) (fun _ _ _ h => h) (Or.inl ⟨by rfl, ?_⟩) ?_ ?_
              rotate_left
              ·
               intro w'
               go_simp
               with_reducible rfl
              rotate_left
              ·
               simp only [Act.put, List.setIfInBounds_toArray, List.set_cons_zero, List.set_cons_succ, i64_w, i32_w]
               rfl
              refine pure_ (i := 10) (N := some 55) (v := ?_) (a' := ?_) #[true, true, true, true, true, true, true, true, true, true, true, true, false, false] rfl rfl (any_of HT_.out (by kernel_rfl)) (fun _ _ _ h => h) (Or.inl ⟨by rfl, ?_⟩) ?_ ?_
              rotate_left
              ·
               intro w'
               go_simp
               with_reducible rfl
              rotate_left
              ·
               simp only [Act.put, List.setIfInBounds_toArray, List.set_cons_zero, List.set_cons_succ, i64_w, i32_w]
               rfl
              exact norm_ (by simp only [putAll, Act.put, List.setIfInBounds_toArray, List.set_cons_zero, List.set_cons_succ]) (hCont (v706, gb709) _ ⟨hHeld, (by (with_reducible repeat (first | apply zo | apply zp | apply zq)); exact zG HO707.out (fun _ hk => ⟨hk.1.1, hk.2⟩)), (by (with_reducible repeat (first | apply zA | apply zB | apply zC)); exact zy HO_690002.out (fun _ hk => ⟨hk.1.1.1, ⟨hk.2, ⟨hk.1.1.2.1, ⟨hk.1.1.2.2.1, ⟨hk.1.1.2.2.2.1, ⟨hk.1.1.2.2.2.2.1, ⟨hk.1.1.2.2.2.2.2, hk.1.2⟩⟩⟩⟩⟩⟩⟩)), (by (with_reducible repeat (first | apply zo | apply zp | apply zq)); exact HO_698002.out), (by (with_reducible repeat (first | apply zA | apply zB | apply zC)); exact zy HO_701002.out (fun _ hk => ⟨hk.1.1.1, ⟨hk.2, ⟨hk.1.1.2.1, ⟨hk.1.1.2.2.1, ⟨hk.1.1.2.2.2.1, ⟨hk.1.1.2.2.2.2.1, ⟨hk.1.1.2.2.2.2.2, hk.1.2⟩⟩⟩⟩⟩⟩⟩)), (by (with_reducible repeat (first | refine zh ?_ _ | refine zj ?_ | refine zi ?_ _)); exact BK689.out), (by (with_reducible repeat (first | refine zh ?_ _ | refine zj ?_ | refine zi ?_ _)); exact BK690.out), (by (with_reducible repeat (first | refine zh ?_ _ | refine zj ?_ | refine zi ?_ _)); exact BK697.out), (by (with_reducible repeat (first | refine zh ?_ _ | refine zj ?_ | refine zi ?_ _)); exact BK700.out), (by (with_reducible repeat (first | refine zh ?_ _ | refine zj ?_ | refine zi ?_ _)); exact BK709.out), GW709.out, GE709.out, NB689_709.out, NB709_689.out, NB690_709.out, NB709_690.out, NB697_709.out, NB709_697.out, NB700_709.out, NB709_700.out, (by repeat (first | (with_reducible first | exact HB.out | apply ze | apply zd | apply zf | refine zk ?_ GE689.out | refine zk ?_ GE690.out | refine zk ?_ GE697.out | refine zk ?_ GE700.out | refine zk ?_ GE709.out) | exact HB.out))⟩)
            rintro ⟨v706, gb709⟩ w66 ⟨hS_, h0_, h1_, h2_, h3_, h4_, h5_, h6_, h7_, h8_, h9_, h10_, h11_, h12_, h13_, h14_, h15_, h16_, h17_, h18_, h19_⟩
            have n0_ : Aside0 (Kd.R (Kd.int .u8) 5 w66 w.heap.size (fun k_ => (w.heap.size ≤ k_) ∧ some k_ ≠ (.slice Ao16 t693.length co16 : Value).ownBlock) v706 t705) := ⟨h0_⟩
            have n1_ : Aside0 (Kd.V (Kd.int .u8) 5 w66 w.heap.size (fun k_ => (P0_2_ k_ ∨ w.heap.size ≤ k_) ∧ some k_ ≠ (v706 : Value).ownBlock ∧ some k_ ≠ (.slice Ao16 t693.length co16 : Value).ownBlock ∧ k_ ≠ gb689 ∧ k_ ≠ gb690 ∧ k_ ≠ gb697 ∧ k_ ≠ gb700 ∧ k_ ≠ gb709) (.slice A0_2 l0_2.length c0_2) l0_2) := ⟨h1_⟩
            have n2_ : Aside0 (Kd.R (Kd.int .u8) 5 w66 w.heap.size (fun k_ => (w.heap.size ≤ k_) ∧ some k_ ≠ (v706 : Value).ownBlock) (.slice Ao16 t693.length co16) t693) := ⟨h2_⟩
            have n3_ : Aside0 (Kd.V (Kd.int .u8) 5 w66 w.heap.size (fun k_ => (P0_2_ k_ ∨ w.heap.size ≤ k_) ∧ some k_ ≠ (v706 : Value).ownBlock ∧ some k_ ≠ (.slice Ao16 t693.length co16 : Value).ownBlock ∧ k_ ≠ gb689 ∧ k_ ≠ gb690 ∧ k_ ≠ gb697 ∧ k_ ≠ gb700 ∧ k_ ≠ gb709) (.slice Ao62 x701002_2.length co62) x701002_2) := ⟨h3_⟩
            have n4_ : Aside0 (w66.heap[gb689]? = some (.cells #[.int .u64 a0_0, .int .u32 a0_1, .slice A0_2 l0_2.length c0_2] 26 (0, 0))) := ⟨h4_⟩
            have n5_ : Aside0 (w66.heap[gb690]? = some (.cells #[.int .u64 x691000_2, .int .u32 x691001_2, .slice none 0 0] 26 (0, 0))) := ⟨h5_⟩
            have n6_ : Aside0 (w66.heap[gb697]? = some (.cells #[.int .u64 t691, .int .u32 t692, .slice Ao16 t693.length co16] 26 (0, 0))) := ⟨h6_⟩
            have n7_ : Aside0 (w66.heap[gb700]? = some (.cells #[.int .u64 x701000_2, .int .u32 x701001_2, .slice Ao62 x701002_2.length co62] 26 (0, 0))) := ⟨h7_⟩
            have n8_ : Aside0 (w66.heap[gb709]? = some (.cells #[.int .u64 0, .int .u32 0, .slice none 0 0] 26 (0, 0))) := ⟨h8_⟩
            have n9_ : Aside0 (w.heap.size ≤ gb709) := ⟨h9_⟩
            have n10_ : Aside0 (w.heap.size ≤ gb709) := ⟨h10_⟩
            have n11_ : Aside0 (gb689 ≠ gb709) := ⟨h11_⟩
            have n12_ : Aside0 (gb709 ≠ gb689) := ⟨h12_⟩
            have n13_ : Aside0 (gb690 ≠ gb709) := ⟨h13_⟩
            have n14_ : Aside0 (gb709 ≠ gb690) := ⟨h14_⟩
            have n15_ : Aside0 (gb697 ≠ gb709) := ⟨h15_⟩
            have n16_ : Aside0 (gb709 ≠ gb697) := ⟨h16_⟩
            have n17_ : Aside0 (gb700 ≠ gb709) := ⟨h17_⟩
            have n18_ : Aside0 (gb709 ≠ gb700) := ⟨h18_⟩
            have n19_ : Aside0 (Below w.heap.size w w66) := ⟨h19_⟩
            clear HO_690002
            clear HO_698002
            clear HO_701002
            clear BK689
            clear BK690
            clear BK697
            clear BK700
            clear HB
            clear h0_ h1_ h2_ h3_ h4_ h5_ h6_ h7_ h8_ h9_ h10_ h11_ h12_ h13_ h14_ h15_ h16_ h17_ h18_ h19_
            have HO707 := n0_
            have HO_690002 := n1_
            have HO_698002 := n2_
            have HO_701002 := n3_
            have BK689 := n4_
            have BK690 := n5_
            have BK697 := n6_
            have BK700 := n7_
            have BK709 := n8_
            have GW709 := n9_
            have GE709 := n10_
            have NB689_709 := n11_
            have NB709_689 := n12_
            have NB690_709 := n13_
            have NB709_690 := n14_
            have NB697_709 := n15_
            have NB709_697 := n16_
            have NB700_709 := n17_
            have NB709_700 := n18_
            have HB := n19_
            clear n0_ n1_ n2_ n3_ n4_ n5_ n6_ n7_ n8_ n9_ n10_ n11_ n12_ n13_ n14_ n15_ n16_ n17_ n18_ n19_
            have hHeld : w66.cell? ⟨gb700, 0, none⟩ = some (.int .u64 x701000_2) ∧ w66.cell? ⟨gb700, 1, none⟩ = some (.int .u32 x701001_2) ∧ w66.cell? ⟨gb700, 2, none⟩ = some (.slice Ao62 x701002_2.length co62) ∧ w66.cell? (ad702.add (x36_2).toNat) = some (.int .i64 (rd l1 x36_2)) := hS_
            obtain ⟨Ao69, co69, eo69⟩ := Kd.R_slice HO707.out
            (first | subst eo69 | (injection eo69 with f1_ f2_ f3_; have f4_ := f1_.symm; have f5_ := f3_.symm; clear f1_ f2_ f3_; subst f4_; subst f5_))
            refine norm_ (a' := ?_) ?_ ?_
            rotate_left
            ·
             simp only [putAll, Act.put, List.setIfInBounds_toArray, List.set_cons_zero, List.set_cons_succ]
             rfl
            refine one_ (i := 12) (N := none) #[true, true, true, true, true, true, true, true, true, true, true, true, true, false] rfl rfl (one_of HT_.out (by kernel_rfl)) (by decide) (fun K hK => ?_)
            have hs67 : w66.cell? ⟨gb709, 0, none⟩ = some (.int .u64 0) := (zs BK709.out 0).trans rfl
            have hfs67 := zx BK709.out 0
            have hns67_0 := NB689_709.out
            have hns67_1 := NB690_709.out
            have hns67_2 := NB697_709.out
            have hns67_3 := NB700_709.out
            have hms67_0 := NB709_689.out
            have hms67_1 := NB709_690.out
            have hms67_2 := NB709_697.out
            have hms67_3 := NB709_700.out
            have hs68 : w66.cell? ⟨gb709, 1, none⟩ = some (.int .u32 0) := (zs BK709.out 1).trans rfl
            have hfs68 := zx BK709.out 1
            have hns68_0 := NB689_709.out
            have hns68_1 := NB690_709.out
            have hns68_2 := NB697_709.out
            have hns68_3 := NB700_709.out
            have hms68_0 := NB709_689.out
            have hms68_1 := NB709_690.out
            have hms68_2 := NB709_697.out
            have hms68_3 := NB709_700.out
            have hs70 : w66.cell? ⟨gb709, 2, none⟩ = some (.slice none 0 0) := (zs BK709.out 2).trans rfl
            have hfs70 := zx BK709.out 2
            have hns70_0 := NB689_709.out
            have hns70_1 := NB690_709.out
            have hns70_2 := NB697_709.out
            have hns70_3 := NB700_709.out
            have hms70_0 := NB709_689.out
            have hms70_1 := NB709_690.out
            have hms70_2 := NB709_697.out
            have hms70_3 := NB709_700.out
            refine skip_ (w1 := ?_) (by rfl) rfl ?_ ?_
            rotate_left
            ·
             go_simp
             rfl
            refine hK.out _ _ ⟨((zr (p := ⟨gb709, _, none⟩) NB700_709.out _).trans (((zr (p := ⟨gb709, _, none⟩) NB700_709.out _).trans (((zr (p := ⟨gb709, _, none⟩) NB700_709.out _).trans (hHeld.1)))))), ((zr (p := ⟨gb709, _, none⟩) NB700_709.out _).trans (((zr (p := ⟨gb709, _, none⟩) NB700_709.out _).trans (((zr (p := ⟨gb709, _, none⟩) NB700_709.out _).trans (hHeld.2.1)))))), ((zr (p := ⟨gb709, _, none⟩) NB700_709.out _).trans (((zr (p := ⟨gb709, _, none⟩) NB700_709.out _).trans (((zr (p := ⟨gb709, _, none⟩) NB700_709.out _).trans (hHeld.2.2.1)))))), ((zr (p := ⟨gb709, _, none⟩) (by first | exact zn (zl (by have := zb _ _ hw702_0; first | rwa [za] at this | exact this) GW709.out) | (rw [za]; exact zn (zl (by have := zb _ _ hw702_0; first | rwa [za] at this | exact this) GW709.out)) | (show (Addr.add _ _).block ≠ _; rw [za]; exact zn (zl (by have := zb _ _ hw702_0; first | rwa [za] at this | exact this) GW709.out)) | (dsimp only; exact zn (zl (by have := zb _ _ hw702_0; first | rwa [za] at this | exact this) GW709.out))) _).trans (((zr (p := ⟨gb709, _, none⟩) (by first | exact zn (zl (by have := zb _ _ hw702_0; first | rwa [za] at this | exact this) GW709.out) | (rw [za]; exact zn (zl (by have := zb _ _ hw702_0; first | rwa [za] at this | exact this) GW709.out)) | (show (Addr.add _ _).block ≠ _; rw [za]; exact zn (zl (by have := zb _ _ hw702_0; first | rwa [za] at this | exact this) GW709.out)) | (dsimp only; exact zn (zl (by have := zb _ _ hw702_0; first | rwa [za] at this | exact this) GW709.out))) _).trans (((zr (p := ⟨gb709, _, none⟩) (by first | exact zn (zl (by have := zb _ _ hw702_0; first | rwa [za] at this | exact this) GW709.out) | (rw [za]; exact zn (zl (by have := zb _ _ hw702_0; first | rwa [za] at this | exact this) GW709.out)) | (show (Addr.add _ _).block ≠ _; rw [za]; exact zn (zl (by have := zb _ _ hw702_0; first | rwa [za] at this | exact this) GW709.out)) | (dsimp only; exact zn (zl (by have := zb _ _ hw702_0; first | rwa [za] at this | exact this) GW709.out))) _).trans (hHeld.2.2.2))))))⟩ (fun hHeld => ?_)
            clear hK K
            refine pure_ (i := 13) (N := some 16) (v := ?_) (a' := ?_) #[true, true, true, true, true, true, true, true, true, true, true, true, true, true] rfl rfl (any_of HT_.out (by kernel_rfl)) (fun _ _ _ h => h) (Or.inl ⟨by rfl, ?_⟩) ?_ ?_
            rotate_left
            ·
             intro w'
             go_simp
             with_reducible rfl
            rotate_left
            ·
             simp only [Act.put, List.setIfInBounds_toArray, List.set_cons_zero, List.set_cons_succ, i64_w, i32_w]
             rfl
            refine done_ (done_of HT_.out (by kernel_rfl)) ?_
            have hnb71 := NB697_689.out
            have hnc71 := NB689_697.out
            have hnb72 := NB697_690.out
            have hnc72 := NB690_697.out
            have hnb73 := NB697_700.out
            have hnc73 := NB700_697.out
            have hnb74 := NB697_709.out
            have hnc74 := NB709_697.out
            have hcz75_0 : w66.cell? ⟨gb697, 0, none⟩ = some (.int .u64 t691) := (zs BK697.out 0).trans rfl
            have hcz75_1 : w66.cell? ⟨gb697, 1, none⟩ = some (.int .u32 t692) := (zs BK697.out 1).trans rfl
            have hcz75_2 : w66.cell? ⟨gb697, 2, none⟩ = some (.slice Ao16 t693.length co16) := (zs BK697.out 2).trans rfl
            have hfz75_0 := zx BK697.out 0
            have hfz75_1 := zx BK697.out 1
            have hfz75_2 := zx BK697.out 2
            have hnb76 := NB690_689.out
            have hnc76 := NB689_690.out
            have hnb77 := NB690_700.out
            have hnc77 := NB700_690.out
            have hnb78 := NB690_709.out
            have hnc78 := NB709_690.out
            have hcz79_0 : w66.cell? ⟨gb690, 0, none⟩ = some (.int .u64 x691000_2) := (zs BK690.out 0).trans rfl
            have hcz79_1 : w66.cell? ⟨gb690, 1, none⟩ = some (.int .u32 x691001_2) := (zs BK690.out 1).trans rfl
            have hcz79_2 : w66.cell? ⟨gb690, 2, none⟩ = some (.slice none 0 0) := (zs BK690.out 2).trans rfl
            have hfz79_0 := zx BK690.out 0
            have hfz79_1 := zx BK690.out 1
            have hfz79_2 := zx BK690.out 2
            try go_wp2
            refine bodyPost_ret (results_ct rfl _ _ gb690 26 #[.int .u64 t691, .int .u32 t692, .slice Ao16 t693.length co16] (0, 0) _ rfl (by (with_reducible repeat (first | refine zh ?_ _ | refine zj ?_ | refine zi ?_ _)); refine zw (cs := #[.int .u64 t691, .int .u32 t692, .slice none 0 0]) ?_ 2 _ rfl; (with_reducible repeat (first | refine zh ?_ _ | refine zj ?_ | refine zi ?_ _)); refine zw (cs := #[.int .u64 t691, .int .u32 x691001_2, .slice none 0 0]) ?_ 1 _ rfl; (with_reducible repeat (first | refine zh ?_ _ | refine zj ?_ | refine zi ?_ _)); refine zw (cs := #[.int .u64 x691000_2, .int .u32 x691001_2, .slice none 0 0]) ?_ 0 _ rfl; (with_reducible repeat (first | refine zh ?_ _ | refine zj ?_ | refine zi ?_ _)); refine zv ?_ NB690_709.out _; (with_reducible repeat (first | refine zh ?_ _ | refine zj ?_ | refine zi ?_ _)); refine zv ?_ NB690_709.out _; (with_reducible repeat (first | refine zh ?_ _ | refine zj ?_ | refine zi ?_ _)); refine zv ?_ NB690_709.out _; (with_reducible repeat (first | refine zh ?_ _ | refine zj ?_ | refine zi ?_ _)); exact BK690.out) Try.underlying26 rfl (by kernel_rfl)) rfl ?_
            exact ⟨_, by first | rfl | (simp [errW_none, errW_some] <;> rfl) | (simp [*, errW_none, errW_some] <;> rfl), zy (Kd.R_V (by (with_reducible repeat (first | apply zo | apply zp | apply zq)); exact zG (zH (p := ⟨gb690, 2, none⟩) (zH (p := ⟨gb690, 1, none⟩) (zH (p := ⟨gb690, 0, none⟩) (zH (p := ⟨gb709, 2, none⟩) (zH (p := ⟨gb709, 1, none⟩) (zH (p := ⟨gb709, 0, none⟩) (Kd.R_types (Kd.R_types HO_698002.out BK709.out (by decide)) BK690.out (by decide)) (fun _ hk => hk.1.2) (.int .u64 t703)) (fun _ hk => hk.1.2) (.int .u32 t704)) (fun _ hk => hk.1.2) (.slice Ao69 t705.length co69)) (fun _ hk => hk.2) (.int .u64 t691)) (fun _ hk => hk.2) (.int .u32 t692)) (fun _ hk => hk.2) (.slice Ao16 t693.length co16)) (fun _ hk => hk.1.1.1))) (fun k_ hk => by first | exact ⟨(.inr (hk.1)), hk.2⟩ | exact (.inr (hk))), by repeat (first | (with_reducible first | exact HB.out | apply ze | apply zd | apply zf | refine zk ?_ GE689.out | refine zk ?_ GE690.out | refine zk ?_ GE697.out | refine zk ?_ GE700.out | refine zk ?_ GE709.out) | exact HB.out)⟩
          ·
           rw [if_neg c41] at H
           exact absurd H (by simp)
         ·
          rw [if_neg c40] at H
          exact absurd H (by simp)
      ·
       rw [if_neg c35] at H
       have c35b0 : decide (x36_2 < 5) = false := decide_eq_false c35
       clear c35
       simp only [Option.some.injEq, Prod.mk.injEq] at H
       obtain ⟨rfl, rfl, rfl, rfl⟩ := H
       have hnb80 := NB700_689.out
       have hnc80 := NB689_700.out
       have hnb81 := NB700_690.out
       have hnc81 := NB690_700.out
       have hnb82 := NB700_697.out
       have hnc82 := NB697_700.out
       have hcz83_0 : wr.cell? ⟨gb700, 0, none⟩ = some (.int .u64 x701000_2) := (zs BK700.out 0).trans rfl
       have hcz83_1 : wr.cell? ⟨gb700, 1, none⟩ = some (.int .u32 x701001_2) := (zs BK700.out 1).trans rfl
       have hcz83_2 : wr.cell? ⟨gb700, 2, none⟩ = some (u701002) := (zs BK700.out 2).trans rfl
       have hfz83_0 := zx BK700.out 0
       have hfz83_1 := zx BK700.out 1
       have hfz83_2 := zx BK700.out 2
       have hnb84 := NB690_689.out
       have hnc84 := NB689_690.out
       have hnb85 := NB690_697.out
       have hnc85 := NB697_690.out
       have hcz86_0 : wr.cell? ⟨gb690, 0, none⟩ = some (.int .u64 x691000_2) := (zs BK690.out 0).trans rfl
       have hcz86_1 : wr.cell? ⟨gb690, 1, none⟩ = some (.int .u32 x691001_2) := (zs BK690.out 1).trans rfl
       have hcz86_2 : wr.cell? ⟨gb690, 2, none⟩ = some (.slice none 0 0) := (zs BK690.out 2).trans rfl
       have hfz86_0 := zx BK690.out 0
       have hfz86_1 := zx BK690.out 1
       have hfz86_2 := zx BK690.out 2
       obtain ⟨Ao87, co87, eo87⟩ := Kd.V_slice HO_701002.out
       subst eo87
       go_wp2
       refine bodyPost_ret (results_ct rfl _ _ gb690 26 #[.int .u64 x701000_2, .int .u32 x701001_2, .slice Ao87 x701002_2.length co87] (0, 0) _ rfl (by (with_reducible repeat (first | refine zh ?_ _ | refine zj ?_ | refine zi ?_ _)); refine zw (cs := #[.int .u64 x701000_2, .int .u32 x701001_2, .slice none 0 0]) ?_ 2 _ rfl; (with_reducible repeat (first | refine zh ?_ _ | refine zj ?_ | refine zi ?_ _)); refine zw (cs := #[.int .u64 x701000_2, .int .u32 x691001_2, .slice none 0 0]) ?_ 1 _ rfl; (with_reducible repeat (first | refine zh ?_ _ | refine zj ?_ | refine zi ?_ _)); refine zw (cs := #[.int .u64 x691000_2, .int .u32 x691001_2, .slice none 0 0]) ?_ 0 _ rfl; (with_reducible repeat (first | refine zh ?_ _ | refine zj ?_ | refine zi ?_ _)); exact BK690.out) Try.underlying26 rfl (by kernel_rfl)) rfl ?_
       exact ⟨_, by first | rfl | (simp [errW_none, errW_some] <;> rfl) | (simp [*, errW_none, errW_some] <;> rfl), by (with_reducible repeat (first | apply zA | apply zB | apply zC)); exact zy (zI (p := ⟨gb690, 2, none⟩) (zI (p := ⟨gb690, 1, none⟩) (zI (p := ⟨gb690, 0, none⟩) (zy HO_701002.out (fun k_ hk => (⟨hk, hk.2.2.2.1⟩ : _ ∧ k_ ≠ gb690))) (fun _ hk => hk.2) (.int .u64 x701000_2)) (fun _ hk => hk.2) (.int .u32 x701001_2)) (fun _ hk => hk.2) (.slice Ao87 x701002_2.length co87)) (fun _ hk => hk.1.1), by repeat (first | (with_reducible first | exact HB.out | apply ze | apply zd | apply zf | refine zk ?_ GE689.out | refine zk ?_ GE690.out | refine zk ?_ GE697.out | refine zk ?_ GE700.out) | exact HB.out)⟩

end Go.Proofs.Ytkaoiblgfpphoaa.Prt

namespace Go.Proofs.Ytkaoiblgfpphoaa.Prt
open Go.RowKit Go.Proofs.YtkaoiblgfpphoaaW.PrintWords Go.Proofs.YtkaoiblgfpphoaaW.PrintLast Go.Proofs.YtkaoiblgfpphoaaW.PrintMore
attribute [local go_sem] max2_int min2_int max_two min_two max_three min_three max_four min_four   -- for this text's walks alone
set_option linter.unusedVariables false
set_option linter.unusedSimpArgs false

/-! ### psalteryref06_Same: function 49 -/
def psalteryref06_Same.l0 : Nat → List Int → List Int → Int → Option (Bool)
 | 0, _, _, _ => none
 | k + 1, x0, x1, x5 => if x5 < (x0.length : Int) then (if 0 ≤ x5 then (if x5 < (x1.length : Int) then (if (rd x0 x5) = (rd x1 x5) then (psalteryref06_Same.l0 k x0 x1 (wrap64 (x5 + 1))) else (some false)) else (none)) else (none)) else (some true)
def psalteryref06_Same.f (k : Nat) (l0 : List Int) (l1 : List Int) : Option (Bool) := if (l0.length : Int) = (l1.length : Int) then (psalteryref06_Same.l0 k l0 l1 0) else (some false)
theorem psalteryref06_Same.mono_l : ∀ k, (∀ y0 y1 y2, LeO (psalteryref06_Same.l0 k y0 y1 y2) (psalteryref06_Same.l0 (k + 1) y0 y1 y2))
 | 0 => fun _ _ _ r h => by simp [psalteryref06_Same.l0] at h
 | k + 1 => by
  have ih0 := psalteryref06_Same.mono_l k
  ·
   intro y0 y1 y2
   unfold psalteryref06_Same.l0
   repeat' first
   | (with_reducible exact ih0 _ _ _)
   | (with_reducible exact LeO.refl _)
   | (with_reducible exact LeO.none _)
   | (with_reducible refine LeO.ite ?_ ?_)
   | (with_reducible refine LeO.bind ?_ (fun _ => ?_))
   | exact ih0 _ _ _
   | exact LeO.none _
   | refine LeO.ite ?_ ?_
   | refine LeO.bind ?_ (fun _ => ?_)
theorem psalteryref06_Same.mono : ∀ a0 a1 k, LeO (psalteryref06_Same.f k a0 a1) (psalteryref06_Same.f (k + 1) a0 a1) := by
 intro a0 a1 k
 have ih0 := psalteryref06_Same.mono_l k
 unfold psalteryref06_Same.f
 repeat' first
   | (with_reducible exact ih0 _ _ _)
   | (with_reducible exact LeO.refl _)
   | (with_reducible exact LeO.none _)
   | (with_reducible refine LeO.ite ?_ ?_)
   | (with_reducible refine LeO.bind ?_ (fun _ => ?_))
   | exact ih0 _ _ _
   | exact LeO.none _
   | refine LeO.ite ?_ ?_
   | refine LeO.bind ?_ (fun _ => ?_)
set_option maxHeartbeats 8000000 in
set_option maxRecDepth 100000 in
theorem psalteryref06_Same.calls (k : Nat) (A0 : Option Addr) (c0 : Nat) (l0 : List Int) (A1 : Option Addr) (c1 : Nat) (l1 : List Int) (r : Bool) (w : World) (hr0 : Kd.C (Kd.int .i64) w A0 l0.length l0) (hc0 : l0.length ≤ c0) (hr1 : Kd.C (Kd.int .i64) w A1 l1.length l1) (hc1 : l1.length ≤ c1) (h : psalteryref06_Same.f k l0 l1 = some r) :
  Calls Try.prog 49 #[.slice A0 l0.length c0, .slice A1 l1.length c1] w fun e w' => e = .returned (.bool r) ∧ Drawn0 w w' := by
 have HR0 := zm hr0
 have HC0 := zm hc0
 clear hr0 hc0
 have HR1 := zm hr1
 have HC1 := zm hc1
 clear hr1 hc1
 have H : (if (l0.length : Int) = (l1.length : Int) then (psalteryref06_Same.l0 k l0 l1 0) else (some false)) = some r := h
 clear h
 by_cases c3 : (l0.length : Int) = (l1.length : Int)
 ·
  rw [if_pos c3] at H
  have c3b0 : ((l0.length : Int) == (l1.length : Int)) = true := beq_iff_eq.mpr c3
  have c3b1 : ((l0.length : Int) != (l1.length : Int)) = false := bne_eq_false_iff_eq.mpr c3
  have c3b2 : (l0.length == l1.length) = true := by first | simpa using c3 | (simp at c3 ⊢; omega)
  clear c3
  have H' := zm H
  clear H
  go_enter Try.func49, Try.ntmps49
  go_wp2
  repeat (go_quiet (fail); try go_wp2)
  go_loopg [5] k (fun kq v5 w' => ∃ (x5_1 : Int), v5 = .int .i64 x5_1 ∧ Aside0 (psalteryref06_Same.l0 kq l0 l1 x5_1 = some r) ∧ Aside0 (kq ≤ k) ∧ Drawn0 w w')
  case atStart => exact ⟨(0), (by first | rfl | (simp; done) | (simp [*]; done)), H', ⟨Nat.le_refl _⟩, by repeat (first | exact Drawn0.refl _ | apply Drawn0.step)⟩
  case round =>
   clear H'
   try clear c1
   try clear p2
   try clear c3
   try clear c3b0
   try clear c3b1
   try clear c3b2
   obtain ⟨x5_1, rfl, HA, HK1, ⟨m1, rfl⟩⟩ := hrel
   cases gk with
   | zero => exact absurd HA.out (by simp [psalteryref06_Same.l0])
   | succ k1 =>
    have H := HA.out
    clear HA
    simp only [psalteryref06_Same.l0] at H
    by_cases c4 : x5_1 < (l0.length : Int)
    ·
     rw [if_pos c4] at H
     have c4b0 : decide (x5_1 < (l0.length : Int)) = true := decide_eq_true c4
     clear c4
     by_cases c5 : 0 ≤ x5_1
     ·
      rw [if_pos c5] at H
      have c5b0 : decide (0 ≤ x5_1) = true := decide_eq_true c5
      clear c5
      by_cases c6 : x5_1 < (l1.length : Int)
      ·
       rw [if_pos c6] at H
       have c6b0 : decide (x5_1 < (l1.length : Int)) = true := decide_eq_true c6
       clear c6
       by_cases c7 : (rd l0 x5_1) = (rd l1 x5_1)
       ·
        rw [if_pos c7] at H
        have c7b0 : ((rd l0 x5_1) == (rd l1 x5_1)) = true := beq_iff_eq.mpr c7
        have c7b1 : ((rd l0 x5_1) != (rd l1 x5_1)) = false := bne_eq_false_iff_eq.mpr c7
        clear c7
        have H' := zm H
        clear H
        have p772 : 0 ≤ (x5_1 : Int) := of_decide_eq_true (by first | (with_reducible assumption) | assumption)
        have q772 : x5_1 < (l0.length : Int) := of_decide_eq_true (by first | (with_reducible assumption) | assumption)
        obtain ⟨ad772, e772, hx772_0⟩ := Kd.at_int HR0.out x5_1 p772 q772
        cases e772
        replace p772 := eq_true p772
        replace q772 := eq_true q772
        have p773 : 0 ≤ (x5_1 : Int) := of_decide_eq_true (by first | (with_reducible assumption) | assumption)
        have q773 : x5_1 < (l1.length : Int) := of_decide_eq_true (by first | (with_reducible assumption) | assumption)
        obtain ⟨ad773, e773, hx773_0⟩ := Kd.at_int HR1.out x5_1 p773 q773
        cases e773
        replace p773 := eq_true p773
        replace q773 := eq_true q773
        go_wp2
        repeat (go_quiet (fail); try go_wp2)
        go_roundg k1
        case measure => have := HK1.out; omega
        case rel => exact ⟨(wrap64 (x5_1 + 1)), (by first | rfl | (simp; done) | (simp [*]; done)), H', ⟨by have := HK1.out; omega⟩, by repeat (first | exact Drawn0.refl _ | apply Drawn0.step)⟩
       ·
        rw [if_neg c7] at H
        have c7b0 : ((rd l0 x5_1) == (rd l1 x5_1)) = false := beq_eq_false_iff_ne.mpr c7
        have c7b1 : ((rd l0 x5_1) != (rd l1 x5_1)) = true := bne_iff_ne.mpr c7
        obtain rfl := Option.some.inj H
        have p772 : 0 ≤ (x5_1 : Int) := of_decide_eq_true (by first | (with_reducible assumption) | assumption)
        have q772 : x5_1 < (l0.length : Int) := of_decide_eq_true (by first | (with_reducible assumption) | assumption)
        obtain ⟨ad772, e772, hx772_0⟩ := Kd.at_int HR0.out x5_1 p772 q772
        cases e772
        replace p772 := eq_true p772
        replace q772 := eq_true q772
        have p773 : 0 ≤ (x5_1 : Int) := of_decide_eq_true (by first | (with_reducible assumption) | assumption)
        have q773 : x5_1 < (l1.length : Int) := of_decide_eq_true (by first | (with_reducible assumption) | assumption)
        obtain ⟨ad773, e773, hx773_0⟩ := Kd.at_int HR1.out x5_1 p773 q773
        cases e773
        replace p773 := eq_true p773
        replace q773 := eq_true q773
        go_wp2
        repeat (go_quiet (fail); try go_wp2)
        go_ret
        exact ⟨by first | rfl | (simp; done) | (simp [*]; done), by repeat (first | exact Drawn0.refl _ | apply Drawn0.step)⟩
      ·
       rw [if_neg c6] at H
       exact absurd H (by simp)
     ·
      rw [if_neg c5] at H
      exact absurd H (by simp)
    ·
     rw [if_neg c4] at H
     have c4b0 : decide (x5_1 < (l0.length : Int)) = false := decide_eq_false c4
     clear c4
     obtain rfl := Option.some.inj H
     go_wp2
     repeat (go_quiet (fail); try go_wp2)
     go_ret
     exact ⟨by first | rfl | (simp; done) | (simp [*]; done), by repeat (first | exact Drawn0.refl _ | apply Drawn0.step)⟩
 ·
  rw [if_neg c3] at H
  have c3b0 : ((l0.length : Int) == (l1.length : Int)) = false := beq_eq_false_iff_ne.mpr c3
  have c3b1 : ((l0.length : Int) != (l1.length : Int)) = true := bne_iff_ne.mpr c3
  have c3b2 : (l0.length == l1.length) = false := by first | simpa using c3 | (simp at c3 ⊢; omega)
  obtain rfl := Option.some.inj H
  go_enter Try.func49, Try.ntmps49
  go_wp2
  repeat (go_quiet (fail); try go_wp2)
  go_ret
  exact ⟨by first | rfl | (simp; done) | (simp [*]; done), by repeat (first | exact Drawn0.refl _ | apply Drawn0.step)⟩

end Go.Proofs.Ytkaoiblgfpphoaa.Prt

namespace Go.Proofs.Ytkaoiblgfpphoaa.Prt
open Go.RowKit Go.Proofs.YtkaoiblgfpphoaaW.PrintWords Go.Proofs.YtkaoiblgfpphoaaW.PrintLast Go.Proofs.YtkaoiblgfpphoaaW.PrintMore
attribute [local go_sem] max2_int min2_int max_two min_two max_three min_three max_four min_four   -- for this text's walks alone
set_option linter.unusedVariables false
set_option linter.unusedSimpArgs false

/-! ### psalterylaw11_knows: function 42 -/
def psalterylaw11_knows.f (k : Nat)  : Option (Bool) := (some (([5, 5, 5, 5, 5] : List Int) : List Int)).bind fun y774 => ((some (([5, 4, 8, 9, 5] : List Int) : List Int)).bind fun y777 => ((coder_New.f).bind fun bt780 => ((gain_Put.f k bt780.1 bt780.2.1 bt780.2.2 y774 y777 false).bind fun bt785 => ((coder_Finish.f bt785.1 bt785.2.1 bt785.2.2.1).bind fun t792 => ((coder_Open.f t792).bind fun bt795 => ((gain_Take.f k bt795.1 bt795.2.1 bt795.2.2.1 bt795.2.2.2 y777 false).bind fun bt801 => (if bt785.2.2.2 = 0 then ((psalteryref06_Same.f k bt801.2.2.2.2.1 y774).bind fun t812 => (if t812 = true then (if bt801.2.2.2.2.2 = 0 then ((coder_RightDec.f bt801.1 bt801.2.1 bt801.2.2.1 bt801.2.2.2.1).bind fun t813 => (if t813 = true then ((gain_Most.f true).bind fun t814 => (if t814 = 30 then ((gain_Most.f false).bind fun t815 => (if t815 = 45 then ((gain_Right.f k y774).bind fun t816 => (some t816)) else (none))) else (none))) else (none))) else (none)) else (none))) else (none))))))))
theorem psalterylaw11_knows.mono : ∀ k, LeO (psalterylaw11_knows.f k ) (psalterylaw11_knows.f (k + 1) ) := by
 intro  k
 unfold psalterylaw11_knows.f
 repeat' first
   | (with_reducible exact gain_Put.mono _ _ _ _ _ _ _)
   | (with_reducible exact gain_Right.mono _ _)
   | (with_reducible exact gain_Take.mono _ _ _ _ _ _ _)
   | (with_reducible exact psalteryref06_Same.mono _ _ _)
   | (with_reducible exact LeO.refl _)
   | (with_reducible exact LeO.none _)
   | (with_reducible refine LeO.ite ?_ ?_)
   | (with_reducible refine LeO.bind ?_ (fun _ => ?_))
   | exact gain_Put.mono _ _ _ _ _ _ _
   | exact gain_Right.mono _ _
   | exact gain_Take.mono _ _ _ _ _ _ _
   | exact psalteryref06_Same.mono _ _ _
   | exact LeO.none _
   | refine LeO.ite ?_ ?_
   | refine LeO.bind ?_ (fun _ => ?_)
set_option maxHeartbeats 8000000 in
set_option maxRecDepth 100000 in
theorem psalterylaw11_knows.calls (k : Nat)  (r : Bool) (w : World) (h : psalterylaw11_knows.f k  = some r) :
  Calls Try.prog 42 #[] w fun e w' => e = .returned (.bool r) ∧ Below w.heap.size w w' := by
 have hu26 := Try.underlying26
 have hu43 := Try.underlying43
 have HB := zm (Below.refl w.heap.size w)
 have H : ((some (([5, 5, 5, 5, 5] : List Int) : List Int)).bind fun y774 => ((some (([5, 4, 8, 9, 5] : List Int) : List Int)).bind fun y777 => ((coder_New.f).bind fun bt780 => ((gain_Put.f k bt780.1 bt780.2.1 bt780.2.2 y774 y777 false).bind fun bt785 => ((coder_Finish.f bt785.1 bt785.2.1 bt785.2.2.1).bind fun t792 => ((coder_Open.f t792).bind fun bt795 => ((gain_Take.f k bt795.1 bt795.2.1 bt795.2.2.1 bt795.2.2.2 y777 false).bind fun bt801 => (if bt785.2.2.2 = 0 then ((psalteryref06_Same.f k bt801.2.2.2.2.1 y774).bind fun t812 => (if t812 = true then (if bt801.2.2.2.2.2 = 0 then ((coder_RightDec.f bt801.1 bt801.2.1 bt801.2.2.1 bt801.2.2.2.1).bind fun t813 => (if t813 = true then ((gain_Most.f true).bind fun t814 => (if t814 = 30 then ((gain_Most.f false).bind fun t815 => (if t815 = 45 then ((gain_Right.f k y774).bind fun t816 => (some t816)) else (none))) else (none))) else (none))) else (none)) else (none))) else (none))))))))) = some r := h
 clear h
 obtain ⟨y774, hy774⟩ : ∃ y_ : List Int, y_ = (([5, 5, 5, 5, 5] : List Int)) := ⟨_, rfl⟩
 replace H : ((some (([5, 4, 8, 9, 5] : List Int) : List Int)).bind fun y777 => ((coder_New.f).bind fun bt780 => ((gain_Put.f k bt780.1 bt780.2.1 bt780.2.2 y774 y777 false).bind fun bt785 => ((coder_Finish.f bt785.1 bt785.2.1 bt785.2.2.1).bind fun t792 => ((coder_Open.f t792).bind fun bt795 => ((gain_Take.f k bt795.1 bt795.2.1 bt795.2.2.1 bt795.2.2.2 y777 false).bind fun bt801 => (if bt785.2.2.2 = 0 then ((psalteryref06_Same.f k bt801.2.2.2.2.1 y774).bind fun t812 => (if t812 = true then (if bt801.2.2.2.2.2 = 0 then ((coder_RightDec.f bt801.1 bt801.2.1 bt801.2.2.1 bt801.2.2.2.1).bind fun t813 => (if t813 = true then ((gain_Most.f true).bind fun t814 => (if t814 = 30 then ((gain_Most.f false).bind fun t815 => (if t815 = 45 then ((gain_Right.f k y774).bind fun t816 => (some t816)) else (none))) else (none))) else (none))) else (none)) else (none))) else (none)))))))) = some r := by first | (rw [hy774]; with_reducible exact H) | (have H2_ := (Option.bind_some _ _).symm.trans H; rw [hy774]; with_reducible exact H2_) | (have H2_ := (Option.bind_some _ _).symm.trans H; with_reducible exact H2_) | with_reducible exact H | (rw [hy774]; exact H) | exact H
 have Ny774 := zm hy774
 clear hy774
 obtain ⟨y777, hy777⟩ : ∃ y_ : List Int, y_ = (([5, 4, 8, 9, 5] : List Int)) := ⟨_, rfl⟩
 replace H : ((coder_New.f).bind fun bt780 => ((gain_Put.f k bt780.1 bt780.2.1 bt780.2.2 y774 y777 false).bind fun bt785 => ((coder_Finish.f bt785.1 bt785.2.1 bt785.2.2.1).bind fun t792 => ((coder_Open.f t792).bind fun bt795 => ((gain_Take.f k bt795.1 bt795.2.1 bt795.2.2.1 bt795.2.2.2 y777 false).bind fun bt801 => (if bt785.2.2.2 = 0 then ((psalteryref06_Same.f k bt801.2.2.2.2.1 y774).bind fun t812 => (if t812 = true then (if bt801.2.2.2.2.2 = 0 then ((coder_RightDec.f bt801.1 bt801.2.1 bt801.2.2.1 bt801.2.2.2.1).bind fun t813 => (if t813 = true then ((gain_Most.f true).bind fun t814 => (if t814 = 30 then ((gain_Most.f false).bind fun t815 => (if t815 = 45 then ((gain_Right.f k y774).bind fun t816 => (some t816)) else (none))) else (none))) else (none))) else (none)) else (none))) else (none))))))) = some r := by first | (rw [hy777]; with_reducible exact H) | (have H2_ := (Option.bind_some _ _).symm.trans H; rw [hy777]; with_reducible exact H2_) | (have H2_ := (Option.bind_some _ _).symm.trans H; with_reducible exact H2_) | with_reducible exact H | (rw [hy777]; exact H) | exact H
 have Ny777 := zm hy777
 clear hy777
 replace H := Option.bind_eq_some_iff.mp H
 obtain ⟨⟨t780, t781, t782⟩, A10, H⟩ := H
 replace H : ((gain_Put.f k t780 t781 t782 y774 y777 false).bind fun bt785 => ((coder_Finish.f bt785.1 bt785.2.1 bt785.2.2.1).bind fun t792 => ((coder_Open.f t792).bind fun bt795 => ((gain_Take.f k bt795.1 bt795.2.1 bt795.2.2.1 bt795.2.2.2 y777 false).bind fun bt801 => (if bt785.2.2.2 = 0 then ((psalteryref06_Same.f k bt801.2.2.2.2.1 y774).bind fun t812 => (if t812 = true then (if bt801.2.2.2.2.2 = 0 then ((coder_RightDec.f bt801.1 bt801.2.1 bt801.2.2.1 bt801.2.2.2.1).bind fun t813 => (if t813 = true then ((gain_Most.f true).bind fun t814 => (if t814 = 30 then ((gain_Most.f false).bind fun t815 => (if t815 = 45 then ((gain_Right.f k y774).bind fun t816 => (some t816)) else (none))) else (none))) else (none))) else (none)) else (none))) else (none)))))) = some r := H
 have A1 := zm A10
 clear A10
 replace H := Option.bind_eq_some_iff.mp H
 obtain ⟨⟨t785, t786, t787, t790⟩, A20, H⟩ := H
 replace H : ((coder_Finish.f t785 t786 t787).bind fun t792 => ((coder_Open.f t792).bind fun bt795 => ((gain_Take.f k bt795.1 bt795.2.1 bt795.2.2.1 bt795.2.2.2 y777 false).bind fun bt801 => (if t790 = 0 then ((psalteryref06_Same.f k bt801.2.2.2.2.1 y774).bind fun t812 => (if t812 = true then (if bt801.2.2.2.2.2 = 0 then ((coder_RightDec.f bt801.1 bt801.2.1 bt801.2.2.1 bt801.2.2.2.1).bind fun t813 => (if t813 = true then ((gain_Most.f true).bind fun t814 => (if t814 = 30 then ((gain_Most.f false).bind fun t815 => (if t815 = 45 then ((gain_Right.f k y774).bind fun t816 => (some t816)) else (none))) else (none))) else (none))) else (none)) else (none))) else (none))))) = some r := H
 have A2 := zm A20
 clear A20
 replace H := Option.bind_eq_some_iff.mp H
 obtain ⟨t792, A30, H⟩ := H
 replace H : ((coder_Open.f t792).bind fun bt795 => ((gain_Take.f k bt795.1 bt795.2.1 bt795.2.2.1 bt795.2.2.2 y777 false).bind fun bt801 => (if t790 = 0 then ((psalteryref06_Same.f k bt801.2.2.2.2.1 y774).bind fun t812 => (if t812 = true then (if bt801.2.2.2.2.2 = 0 then ((coder_RightDec.f bt801.1 bt801.2.1 bt801.2.2.1 bt801.2.2.2.1).bind fun t813 => (if t813 = true then ((gain_Most.f true).bind fun t814 => (if t814 = 30 then ((gain_Most.f false).bind fun t815 => (if t815 = 45 then ((gain_Right.f k y774).bind fun t816 => (some t816)) else (none))) else (none))) else (none))) else (none)) else (none))) else (none)))) = some r := H
 have A3 := zm A30
 clear A30
 replace H := Option.bind_eq_some_iff.mp H
 obtain ⟨⟨t795, t796, t797, t800⟩, A40, H⟩ := H
 replace H : ((gain_Take.f k t795 t796 t797 t800 y777 false).bind fun bt801 => (if t790 = 0 then ((psalteryref06_Same.f k bt801.2.2.2.2.1 y774).bind fun t812 => (if t812 = true then (if bt801.2.2.2.2.2 = 0 then ((coder_RightDec.f bt801.1 bt801.2.1 bt801.2.2.1 bt801.2.2.2.1).bind fun t813 => (if t813 = true then ((gain_Most.f true).bind fun t814 => (if t814 = 30 then ((gain_Most.f false).bind fun t815 => (if t815 = 45 then ((gain_Right.f k y774).bind fun t816 => (some t816)) else (none))) else (none))) else (none))) else (none)) else (none))) else (none))) = some r := H
 have A4 := zm A40
 clear A40
 replace H := Option.bind_eq_some_iff.mp H
 obtain ⟨⟨t801, t802, t803, t806, t807, t810⟩, A50, H⟩ := H
 replace H : (if t790 = 0 then ((psalteryref06_Same.f k t807 y774).bind fun t812 => (if t812 = true then (if t810 = 0 then ((coder_RightDec.f t801 t802 t803 t806).bind fun t813 => (if t813 = true then ((gain_Most.f true).bind fun t814 => (if t814 = 30 then ((gain_Most.f false).bind fun t815 => (if t815 = 45 then ((gain_Right.f k y774).bind fun t816 => (some t816)) else (none))) else (none))) else (none))) else (none)) else (none))) else (none)) = some r := H
 have A5 := zm A50
 clear A50
 by_cases c6 : t790 = 0
 ·
  rw [if_pos c6] at H
  have c6b0 : (t790 == 0) = true := beq_iff_eq.mpr c6
  have c6b1 : (t790 != 0) = false := bne_eq_false_iff_eq.mpr c6
  clear c6
  replace H := Option.bind_eq_some_iff.mp H
  obtain ⟨t812, A70, H⟩ := H
  replace H : (if t812 = true then (if t810 = 0 then ((coder_RightDec.f t801 t802 t803 t806).bind fun t813 => (if t813 = true then ((gain_Most.f true).bind fun t814 => (if t814 = 30 then ((gain_Most.f false).bind fun t815 => (if t815 = 45 then ((gain_Right.f k y774).bind fun t816 => (some t816)) else (none))) else (none))) else (none))) else (none)) else (none)) = some r := H
  have A7 := zm A70
  clear A70
  by_cases c8 : t812 = true
  ·
   subst c8
   have H1 : (if t810 = 0 then ((coder_RightDec.f t801 t802 t803 t806).bind fun t813 => (if t813 = true then ((gain_Most.f true).bind fun t814 => (if t814 = 30 then ((gain_Most.f false).bind fun t815 => (if t815 = 45 then ((gain_Right.f k y774).bind fun t816 => (some t816)) else (none))) else (none))) else (none))) else (none)) = some r := by rw [if_pos rfl] at H; exact H
   clear H
   have H := H1
   clear H1
   by_cases c9 : t810 = 0
   ·
    rw [if_pos c9] at H
    have c9b0 : (t810 == 0) = true := beq_iff_eq.mpr c9
    have c9b1 : (t810 != 0) = false := bne_eq_false_iff_eq.mpr c9
    clear c9
    replace H := Option.bind_eq_some_iff.mp H
    obtain ⟨t813, A100, H⟩ := H
    replace H : (if t813 = true then ((gain_Most.f true).bind fun t814 => (if t814 = 30 then ((gain_Most.f false).bind fun t815 => (if t815 = 45 then ((gain_Right.f k y774).bind fun t816 => (some t816)) else (none))) else (none))) else (none)) = some r := H
    have A10 := zm A100
    clear A100
    by_cases c11 : t813 = true
    ·
     subst c11
     have H1 : ((gain_Most.f true).bind fun t814 => (if t814 = 30 then ((gain_Most.f false).bind fun t815 => (if t815 = 45 then ((gain_Right.f k y774).bind fun t816 => (some t816)) else (none))) else (none))) = some r := by rw [if_pos rfl] at H; exact H
     clear H
     have H := H1
     clear H1
     replace H := Option.bind_eq_some_iff.mp H
     obtain ⟨t814, A120, H⟩ := H
     replace H : (if t814 = 30 then ((gain_Most.f false).bind fun t815 => (if t815 = 45 then ((gain_Right.f k y774).bind fun t816 => (some t816)) else (none))) else (none)) = some r := H
     have A12 := zm A120
     clear A120
     by_cases c13 : t814 = 30
     ·
      rw [if_pos c13] at H
      have c13b0 : (t814 == 30) = true := beq_iff_eq.mpr c13
      have c13b1 : (t814 != 30) = false := bne_eq_false_iff_eq.mpr c13
      clear c13
      replace H := Option.bind_eq_some_iff.mp H
      obtain ⟨t815, A140, H⟩ := H
      replace H : (if t815 = 45 then ((gain_Right.f k y774).bind fun t816 => (some t816)) else (none)) = some r := H
      have A14 := zm A140
      clear A140
      by_cases c15 : t815 = 45
      ·
       rw [if_pos c15] at H
       have c15b0 : (t815 == 45) = true := beq_iff_eq.mpr c15
       have c15b1 : (t815 != 45) = false := bne_eq_false_iff_eq.mpr c15
       clear c15
       replace H := Option.bind_eq_some_iff.mp H
       obtain ⟨t816, A160, H⟩ := H
       replace H : (some t816) = some r := H
       have A16 := zm A160
       clear A160
       obtain rfl := Option.some.inj H
       go_enter Try.func42, Try.ntmps42
       go_wp2_with (first | ((with_reducible refine gate_dst (N := 8) rfl ?_); refine Kd.R_lit (Kd.int .i64) _ 3 ?hg (N := 8) ?hd (xs := ([5, 5, 5, 5, 5] : List Int)) (inner := [.int .i64 5, .int .i64 5, .int .i64 5, .int .i64 5, .int .i64 5]) (ok := fun _ => True) (okp := fun _ => True) ?hr ?hp (fun _ hk => hk) trivial (Below.refl _ _) (Nat.le_refl _) (by simp) ?_; (case hd => rfl); (case hg => rfl); (case hr => first | (go_simp; done) | (go_simp; rfl)); (case hp => exact (Reps.one (show Kd.M (Kd.int .i64) _ _ _ 5 [.int .i64 5] from rfl) (Reps.one (show Kd.M (Kd.int .i64) _ _ _ 5 [.int .i64 5] from rfl) (Reps.one (show Kd.M (Kd.int .i64) _ _ _ 5 [.int .i64 5] from rfl) (Reps.one (show Kd.M (Kd.int .i64) _ _ _ 5 [.int .i64 5] from rfl) (Reps.one (show Kd.M (Kd.int .i64) _ _ _ 5 [.int .i64 5] from rfl) (Reps.none _ _))))))); intro v775 w17 ho18 hb hg_ hnew_; clear hg_ hnew_; (first | rw [← Ny774.out] at ho18 | (simp only [Int.reduceToNat] at ho18; rw [← Ny774.out] at ho18)); have n0_ := zm (Kd.R_lower ho18 (zE (by repeat (first | (with_reducible first | exact HB.out | apply ze | apply zd | apply zf) | exact HB.out)))); have n1_ := zm (zJ (by repeat (first | (with_reducible first | exact HB.out | apply ze | apply zd | apply zf) | exact HB.out)) hb); clear HB; have HO776 := n0_; have HB := n1_; clear n0_ n1_; clear hb ho18) | ((with_reducible refine gate_dst (N := 9) rfl ?_); refine Kd.R_lit (Kd.int .i64) _ 3 ?hg (N := 9) ?hd (xs := ([5, 4, 8, 9, 5] : List Int)) (inner := [.int .i64 5, .int .i64 4, .int .i64 8, .int .i64 9, .int .i64 5]) (ok := fun _ => True) (okp := fun _ => True) ?hr ?hp (fun _ hk => hk) trivial (Below.refl _ _) (Nat.le_refl _) (by simp) ?_; (case hd => rfl); (case hg => rfl); (case hr => first | (go_simp; done) | (go_simp; rfl)); (case hp => exact (Reps.one (show Kd.M (Kd.int .i64) _ _ _ 5 [.int .i64 5] from rfl) (Reps.one (show Kd.M (Kd.int .i64) _ _ _ 4 [.int .i64 4] from rfl) (Reps.one (show Kd.M (Kd.int .i64) _ _ _ 8 [.int .i64 8] from rfl) (Reps.one (show Kd.M (Kd.int .i64) _ _ _ 9 [.int .i64 9] from rfl) (Reps.one (show Kd.M (Kd.int .i64) _ _ _ 5 [.int .i64 5] from rfl) (Reps.none _ _))))))); intro v778 w19 ho20 hb hg_ hnew_; clear hg_ hnew_; (first | rw [← Ny777.out] at ho20 | (simp only [Int.reduceToNat] at ho20; rw [← Ny777.out] at ho20)); have n0_ := zm (Kd.R_elder' (by (with_reducible repeat (first | apply zo | apply zp | apply zq)); exact HO776.out) (Kd.R_base ho20) hb); have n1_ := zm (Kd.R_lower (Kd.R_new' ho20 (Kd.R_lt (by (with_reducible repeat (first | apply zo | apply zp | apply zq)); exact HO776.out))) (zE (by repeat (first | (with_reducible first | exact HB.out | apply ze | apply zd | apply zf) | exact HB.out)))); have n2_ := zm (zJ (by repeat (first | (with_reducible first | exact HB.out | apply ze | apply zd | apply zf) | exact HB.out)) hb); clear HO776; clear HB; have HO776 := n0_; have HO779 := n1_; have HB := n2_; clear n0_ n1_ n2_; clear hb ho20) | ((with_reducible refine gate_callee (f := 29) rfl ?_); refine goesL_ (some 11) rfl rfl Try.func29 (by kernel_rfl) rfl #[] rfl (by (try simp only [List.map_toArray, List.map_cons, List.map_nil]); first | done | rfl | (simp only [List.length_drop, List.length_take]; rfl)) ?_; (with_reducible refine (coder_New.calls  t780 t781 t782 _ A1.out).mono ?_); rintro e w21 ⟨v783, rfl, ho0, hb⟩; refine ⟨_, rfl, ?_⟩; have n0_ := zm (Kd.R_below (by (with_reducible repeat (first | apply zo | apply zp | apply zq)); exact HO776.out) hb); have n1_ := zm (Kd.R_below (by (with_reducible repeat (first | apply zo | apply zp | apply zq)); exact HO779.out) hb); have n2_ := zm (Kd.R_lower ho0 (zE (by repeat (first | (with_reducible first | exact HB.out | apply ze | apply zd | apply zf) | exact HB.out)))); have n3_ := zm (zJ (by repeat (first | (with_reducible first | exact HB.out | apply ze | apply zd | apply zf) | exact HB.out)) hb); clear HO776; clear HO779; clear HB; have HO776 := n0_; have HO779 := n1_; have HO784 := n2_; have HB := n3_; clear n0_ n1_ n2_ n3_; (try clear hb); (try clear hb2); (try clear hk); (try clear hi); (try clear ho0); obtain ⟨Ao22, co22, eo22⟩ := Kd.R_slice HO784.out; subst eo22; obtain ⟨Ao23, co23, eo23⟩ := Kd.R_slice HO776.out; subst eo23; obtain ⟨Ao24, co24, eo24⟩ := Kd.R_slice HO779.out; subst eo24) | ((with_reducible refine gate_callee (f := 43) rfl ?_); refine goesL_ (some 14) rfl rfl Try.func43 (by kernel_rfl) rfl #[.agg #[.int .u64 t780, .int .u32 t781, .slice Ao22 t782.length co22], .slice Ao23 y774.length co23, .slice Ao24 y777.length co24, .bool false] rfl (by (try simp only [List.map_toArray, List.map_cons, List.map_nil]); first | done | rfl | (simp only [List.length_drop, List.length_take]; rfl)) ?_; (with_reducible refine (gain_Put.calls k t780 t781 (fun k_ => some k_ = (.slice Ao22 t782.length co22 : Value).ownBlock) _ _ t782 _ _ y774 _ _ y777 false t785 t786 t787 t790 _ ?side1 ?side2 ?side3 ?side4 ?side5 A2.out).mono ?_); (case side1 => exact Kd.R_V (Kd.R_tight rfl (Kd.R_apart' (Kd.R_apart' (HO784.out) (Kd.R_typed HO776.out) (by decide)) (Kd.R_typed HO779.out) (by decide)))); (case side2 => repeat (first | exact (Kd.R_reads' HO776.out).2.2 | (with_reducible refine Kd.C_alloc ?_ _) | (with_reducible refine Kd.C_drewN ?_ _) | (with_reducible refine Kd.C_drew ?_))); (case side3 => exact (Kd.R_reads' HO776.out).2.1); (case side4 => repeat (first | exact (Kd.R_reads' HO779.out).2.2 | (with_reducible refine Kd.C_alloc ?_ _) | (with_reducible refine Kd.C_drewN ?_ _) | (with_reducible refine Kd.C_drew ?_))); (case side5 => exact (Kd.R_reads' HO779.out).2.1); rintro e w25 ⟨v788, rfl, ho0, hb⟩; refine ⟨_, rfl, ?_⟩; have n0_ := zm (Kd.R_below (by (with_reducible repeat (first | apply zo | apply zp | apply zq)); exact HO776.out) hb); have n1_ := zm (Kd.R_below (by (with_reducible repeat (first | apply zo | apply zp | apply zq)); exact HO779.out) hb); have n2_ := zm (Kd.R_below (by (with_reducible repeat (first | apply zo | apply zp | apply zq)); exact HO784.out) hb); have n3_ := zm (Kd.V_lower (zy (ok' := fun k_ => some k_ ≠ (.slice Ao23 y774.length co23 : Value).ownBlock ∧ some k_ ≠ (.slice Ao24 y777.length co24 : Value).ownBlock) ho0 (fun k_ hk_ => ⟨Or.elim hk_ (fun hs_ => ((Kd.R_apart' (Kd.R_apart' (HO784.out) (Kd.R_typed HO776.out) (by decide)) (Kd.R_typed HO779.out) (by decide)).1 k_ hs_.symm).1.2) (fun hn_ => (Kd.fresh' (Kd.R_lt (by (with_reducible repeat (first | apply zo | apply zp | apply zq)); exact HO776.out)) k_ hn_)), Or.elim hk_ (fun hs_ => ((Kd.R_apart' (Kd.R_apart' (HO784.out) (Kd.R_typed HO776.out) (by decide)) (Kd.R_typed HO779.out) (by decide)).1 k_ hs_.symm).2) (fun hn_ => (Kd.fresh' (Kd.R_lt (by (with_reducible repeat (first | apply zo | apply zp | apply zq)); exact HO779.out)) k_ hn_))⟩)) (zE (by repeat (first | (with_reducible first | exact HB.out | apply ze | apply zd | apply zf) | exact HB.out)))); have n4_ := zm (zJ (by repeat (first | (with_reducible first | exact HB.out | apply ze | apply zd | apply zf) | exact HB.out)) hb); clear HO776; clear HO779; clear HO784; clear HB; have HO776 := n0_; have HO779 := n1_; have HO784 := n2_; have HO789 := n3_; have HB := n4_; clear n0_ n1_ n2_ n3_ n4_; (try clear hb); (try clear hb2); (try clear hk); (try clear hi); (try clear ho0)) | ((with_reducible refine gate_dst (N := 3) rfl ?_); refine box_event ?hg (N := 3) ?hd (cs := #[.int .u64 0, .int .u32 0, .slice none 0 0]) (t := 26) ?hr ?_; (case hd => rfl); (case hg => rfl); (case hr => first | (go_simp; done) | (go_simp; rfl)); intro gb791 hg w26 hbox hb; have n0_ := zm (Kd.R_below (by (with_reducible repeat (first | apply zo | apply zp | apply zq)); exact HO776.out) hb); have n1_ := zm (Kd.R_below (by (with_reducible repeat (first | apply zo | apply zp | apply zq)); exact HO779.out) hb); have n2_ := zm (Kd.R_below (by (with_reducible repeat (first | apply zo | apply zp | apply zq)); exact HO784.out) hb); have n3_ := zm (Kd.V_below (Kd.V_elderB (by (with_reducible repeat (first | apply zA | apply zB | apply zC)); exact HO789.out) gb791 (Nat.le_of_eq hg.symm)) hb); have n4_ := zm (zJ (by repeat (first | (with_reducible first | exact HB.out | apply ze | apply zd | apply zf) | exact HB.out)) hb); have n5_ := zm (hbox); have n6_ := zm ((by rw [hg]; exact (zE (by repeat (first | (with_reducible first | exact HB.out | apply ze | apply zd | apply zf) | exact HB.out))) : w.heap.size ≤ gb791)); have n7_ := zm ((by rw [hg]; exact (zE (by repeat (first | (with_reducible first | exact HB.out | apply ze | apply zd | apply zf) | exact HB.out))) : w.heap.size ≤ gb791)); clear HO776; clear HO779; clear HO784; clear HO789; clear HB; have HO776 := n0_; have HO779 := n1_; have HO784 := n2_; have HO789 := n3_; have HB := n4_; have BK791 := n5_; have GW791 := n6_; have GE791 := n7_; clear n0_ n1_ n2_ n3_ n4_ n5_ n6_ n7_; clear hb hbox hg; have hcz27_0 : w26.cell? ⟨gb791, 0, none⟩ = some (.int .u64 0) := (zs BK791.out 0).trans rfl; have hcz27_1 : w26.cell? ⟨gb791, 1, none⟩ = some (.int .u32 0) := (zs BK791.out 1).trans rfl; have hcz27_2 : w26.cell? ⟨gb791, 2, none⟩ = some (.slice none 0 0) := (zs BK791.out 2).trans rfl; have hfz27_0 := zx BK791.out 0; have hfz27_1 := zx BK791.out 1; have hfz27_2 := zx BK791.out 2; obtain ⟨Ao28, co28, eo28⟩ := Kd.V_slice HO789.out; subst eo28) | ((with_reducible refine gate_callee (f := 24) rfl ?_); refine goesL_ (some 19) rfl rfl Try.func24 (by kernel_rfl) rfl #[.agg #[.int .u64 t785, .int .u32 t786, .slice Ao28 t787.length co28]] rfl (by (try simp only [List.map_toArray, List.map_cons, List.map_nil]); first | done | rfl | (simp only [List.length_drop, List.length_take]; rfl)) ?_; (with_reducible refine (coder_Finish.calls t785 t786 _ _ t787 t792 _ ?side1 ?side2 A3.out).mono ?_); (case side1 => refine (Kd.V_reads' (e := 5) (base := w.heap.size) (ok := fun k_ => ((some k_ ≠ (.slice Ao23 y774.length co23 : Value).ownBlock ∧ some k_ ≠ (.slice Ao24 y777.length co24 : Value).ownBlock) ∧ k_ ≠ gb791)) (n := t787.length) (c := co28) ?_).2.2; exact (by (with_reducible repeat (first | apply zA | apply zB | apply zC)); exact (zy (zI (p := ⟨gb791, 2, none⟩) (zI (p := ⟨gb791, 1, none⟩) (zI (p := ⟨gb791, 0, none⟩) (zy HO789.out (fun k_ hk => (⟨hk, hk.2⟩ : _ ∧ k_ ≠ gb791))) (fun _ hk => hk.2) (.int .u64 t785)) (fun _ hk => hk.2) (.int .u32 t786)) (fun _ hk => hk.2) (.slice Ao28 t787.length co28)) (fun _ h_ => h_.1)))); (case side2 => exact (Kd.V_reads' HO789.out).2.1); rintro e w29 ⟨v793, rfl, ho0, hb⟩; refine ⟨_, rfl, ?_⟩; have n0_ := zm (Kd.R_below (by (with_reducible repeat (first | apply zo | apply zp | apply zq)); exact (zG (zH (p := ⟨gb791, 2, none⟩) (zH (p := ⟨gb791, 1, none⟩) (zH (p := ⟨gb791, 0, none⟩) (Kd.R_types HO776.out BK791.out (by decide)) (fun _ hk => hk.2) (.int .u64 t785)) (fun _ hk => hk.2) (.int .u32 t786)) (fun _ hk => hk.2) (.slice Ao28 t787.length co28)) (fun _ h_ => h_.1))) hb); have n1_ := zm (Kd.R_below (by (with_reducible repeat (first | apply zo | apply zp | apply zq)); exact (zG (zH (p := ⟨gb791, 2, none⟩) (zH (p := ⟨gb791, 1, none⟩) (zH (p := ⟨gb791, 0, none⟩) (Kd.R_types HO779.out BK791.out (by decide)) (fun _ hk => hk.2) (.int .u64 t785)) (fun _ hk => hk.2) (.int .u32 t786)) (fun _ hk => hk.2) (.slice Ao28 t787.length co28)) (fun _ h_ => h_.1))) hb); have n2_ := zm (Kd.R_elder' (by (with_reducible repeat (first | apply zo | apply zp | apply zq)); exact (zG (zH (p := ⟨gb791, 2, none⟩) (zH (p := ⟨gb791, 1, none⟩) (zH (p := ⟨gb791, 0, none⟩) (Kd.R_types HO784.out BK791.out (by decide)) (fun _ hk => hk.2) (.int .u64 t785)) (fun _ hk => hk.2) (.int .u32 t786)) (fun _ hk => hk.2) (.slice Ao28 t787.length co28)) (fun _ h_ => h_.1))) (Kd.R_base ho0) hb); have n3_ := zm (Kd.V_elder' (by (with_reducible repeat (first | apply zA | apply zB | apply zC)); exact (zy (zI (p := ⟨gb791, 2, none⟩) (zI (p := ⟨gb791, 1, none⟩) (zI (p := ⟨gb791, 0, none⟩) (zy HO789.out (fun k_ hk => (⟨hk, hk.2⟩ : _ ∧ k_ ≠ gb791))) (fun _ hk => hk.2) (.int .u64 t785)) (fun _ hk => hk.2) (.int .u32 t786)) (fun _ hk => hk.2) (.slice Ao28 t787.length co28)) (fun _ h_ => h_.1))) (Kd.R_base ho0) hb); have n4_ := zm (Kd.R_lower (Kd.R_new' ho0 (Kd.R_lt (by (with_reducible repeat (first | apply zo | apply zp | apply zq)); exact (zG (zH (p := ⟨gb791, 2, none⟩) (zH (p := ⟨gb791, 1, none⟩) (zH (p := ⟨gb791, 0, none⟩) (Kd.R_types HO784.out BK791.out (by decide)) (fun _ hk => hk.2) (.int .u64 t785)) (fun _ hk => hk.2) (.int .u32 t786)) (fun _ hk => hk.2) (.slice Ao28 t787.length co28)) (fun _ h_ => h_.1))))) (zE (by repeat (first | (with_reducible first | exact HB.out | apply ze | apply zd | apply zf | refine zk ?_ GE791.out) | exact HB.out)))); have n5_ := zm (zF (g := gb791) (o := .cells #[.int .u64 t785, .int .u32 t786, .slice Ao28 t787.length co28] 26 (0, 0)) (by (with_reducible repeat (first | refine zh ?_ _ | refine zj ?_ | refine zi ?_ _)); refine zw (cs := #[.int .u64 t785, .int .u32 t786, .slice none 0 0]) ?_ 2 _ rfl; (with_reducible repeat (first | refine zh ?_ _ | refine zj ?_ | refine zi ?_ _)); refine zw (cs := #[.int .u64 t785, .int .u32 0, .slice none 0 0]) ?_ 1 _ rfl; (with_reducible repeat (first | refine zh ?_ _ | refine zj ?_ | refine zi ?_ _)); refine zw (cs := #[.int .u64 0, .int .u32 0, .slice none 0 0]) ?_ 0 _ rfl; (with_reducible repeat (first | refine zh ?_ _ | refine zj ?_ | refine zi ?_ _)); exact BK791.out) hb); have n6_ := zm (zJ (by repeat (first | (with_reducible first | exact HB.out | apply ze | apply zd | apply zf | refine zk ?_ GE791.out) | exact HB.out)) hb); clear HO776; clear HO779; clear HO784; clear HO789; clear BK791; clear HB; have HO776 := n0_; have HO779 := n1_; have HO784 := n2_; have HO789 := n3_; have HO794 := n4_; have BK791 := n5_; have HB := n6_; clear n0_ n1_ n2_ n3_ n4_ n5_ n6_; (try clear hb); (try clear hb2); (try clear hk); (try clear hi); (try clear ho0); obtain ⟨Ao30, co30, eo30⟩ := Kd.R_slice HO794.out; subst eo30) | ((with_reducible refine gate_callee (f := 26) rfl ?_); refine goesL_ (some 20) rfl rfl Try.func26 (by kernel_rfl) rfl #[.slice Ao30 t792.length co30] rfl (by (try simp only [List.map_toArray, List.map_cons, List.map_nil]); first | done | rfl | (simp only [List.length_drop, List.length_take]; rfl)) ?_; (with_reducible refine (coder_Open.calls (fun k_ => some k_ = (.slice Ao30 t792.length co30 : Value).ownBlock) _ _ t792 t795 t796 t797 t800 _ ?side1 A4.out).mono ?_); (case side1 => exact Kd.R_V (Kd.R_tight rfl (Kd.R_types (Kd.R_apart' (Kd.R_apart' (HO794.out) (Kd.R_typed HO776.out) (by decide)) (Kd.R_typed HO779.out) (by decide)) BK791.out (by decide)))); rintro e w31 ⟨v798, rfl, ho0, hb⟩; refine ⟨_, rfl, ?_⟩; have n0_ := zm (Kd.R_below (by (with_reducible repeat (first | apply zo | apply zp | apply zq)); exact HO776.out) hb); have n1_ := zm (Kd.R_below (by (with_reducible repeat (first | apply zo | apply zp | apply zq)); exact HO779.out) hb); have n2_ := zm (Kd.R_below (by (with_reducible repeat (first | apply zo | apply zp | apply zq)); exact HO784.out) hb); have n3_ := zm (Kd.V_below (by (with_reducible repeat (first | apply zA | apply zB | apply zC)); exact HO789.out) hb); have n4_ := zm (Kd.R_below (by (with_reducible repeat (first | apply zo | apply zp | apply zq)); exact HO794.out) hb); have n5_ := zm (Kd.V_lower (zy (ok' := fun k_ => some k_ ≠ (.slice Ao23 y774.length co23 : Value).ownBlock ∧ some k_ ≠ (.slice Ao24 y777.length co24 : Value).ownBlock ∧ some k_ ≠ (.slice Ao22 t782.length co22 : Value).ownBlock ∧ k_ ≠ gb791) ho0 (fun k_ hk_ => ⟨Or.elim hk_ (fun hs_ => ((Kd.R_types (Kd.R_apart' (Kd.R_apart' (HO794.out) (Kd.R_typed HO776.out) (by decide)) (Kd.R_typed HO779.out) (by decide)) BK791.out (by decide)).1 k_ hs_.symm).1.1.2) (fun hn_ => (Kd.fresh' (Kd.R_lt (by (with_reducible repeat (first | apply zo | apply zp | apply zq)); exact HO776.out)) k_ hn_)), Or.elim hk_ (fun hs_ => ((Kd.R_types (Kd.R_apart' (Kd.R_apart' (HO794.out) (Kd.R_typed HO776.out) (by decide)) (Kd.R_typed HO779.out) (by decide)) BK791.out (by decide)).1 k_ hs_.symm).1.2) (fun hn_ => (Kd.fresh' (Kd.R_lt (by (with_reducible repeat (first | apply zo | apply zp | apply zq)); exact HO779.out)) k_ hn_)), Or.elim hk_ (fun hs_ => ((Kd.R_types (Kd.R_apart' (Kd.R_apart' (HO794.out) (Kd.R_typed HO776.out) (by decide)) (Kd.R_typed HO779.out) (by decide)) BK791.out (by decide)).1 k_ hs_.symm).1.1.1.2) (fun hn_ => (Kd.fresh' (Kd.R_lt (by (with_reducible repeat (first | apply zo | apply zp | apply zq)); exact HO784.out)) k_ hn_)), Or.elim hk_ (fun hs_ => ((Kd.R_types (Kd.R_apart' (Kd.R_apart' (HO794.out) (Kd.R_typed HO776.out) (by decide)) (Kd.R_typed HO779.out) (by decide)) BK791.out (by decide)).1 k_ hs_.symm).2) (fun hn_ => (Kd.freshB (g := gb791) (o := .cells #[.int .u64 t785, .int .u32 t786, .slice Ao28 t787.length co28] 26 (0, 0)) (by (with_reducible repeat (first | refine zh ?_ _ | refine zj ?_ | refine zi ?_ _)); exact BK791.out) k_ hn_))⟩)) (zE (by repeat (first | (with_reducible first | exact HB.out | apply ze | apply zd | apply zf | refine zk ?_ GE791.out) | exact HB.out)))); have n6_ := zm (zF (g := gb791) (o := .cells #[.int .u64 t785, .int .u32 t786, .slice Ao28 t787.length co28] 26 (0, 0)) (by (with_reducible repeat (first | refine zh ?_ _ | refine zj ?_ | refine zi ?_ _)); exact BK791.out) hb); have n7_ := zm (zJ (by repeat (first | (with_reducible first | exact HB.out | apply ze | apply zd | apply zf | refine zk ?_ GE791.out) | exact HB.out)) hb); clear HO776; clear HO779; clear HO784; clear HO789; clear HO794; clear BK791; clear HB; have HO776 := n0_; have HO779 := n1_; have HO784 := n2_; have HO789 := n3_; have HO794 := n4_; have HO799 := n5_; have BK791 := n6_; have HB := n7_; clear n0_ n1_ n2_ n3_ n4_ n5_ n6_ n7_; (try clear hb); (try clear hb2); (try clear hk); (try clear hi); (try clear ho0); obtain ⟨Ao32, co32, eo32⟩ := Kd.V_slice HO799.out; subst eo32) | ((with_reducible refine gate_callee (f := 47) rfl ?_); refine goesL_ (some 22) rfl rfl Try.func47 (by kernel_rfl) rfl #[.agg #[.int .u64 t795, .int .u32 t796, .slice Ao32 t797.length co32, .int .i64 t800], .slice Ao24 y777.length co24, .bool false] rfl (by (try simp only [List.map_toArray, List.map_cons, List.map_nil]); first | done | rfl | (simp only [List.length_drop, List.length_take]; rfl)) ?_; (with_reducible refine (gain_Take.calls k t795 t796 (fun k_ => (some k_ ≠ (.slice Ao23 y774.length co23 : Value).ownBlock ∧ (some k_ ≠ (.slice Ao24 y777.length co24 : Value).ownBlock ∧ (some k_ ≠ (.slice Ao22 t782.length co22 : Value).ownBlock ∧ k_ ≠ gb791)))) _ _ t797 t800 _ _ y777 false t801 t802 t803 t806 t807 t810 _ ?side1 ?side2 ?side3 A5.out).mono ?_); (case side1 => exact HO799.out); (case side2 => repeat (first | exact (Kd.R_reads' HO779.out).2.2 | (with_reducible refine Kd.C_alloc ?_ _) | (with_reducible refine Kd.C_drewN ?_ _) | (with_reducible refine Kd.C_drew ?_))); (case side3 => exact (Kd.R_reads' HO779.out).2.1); rintro e w33 ⟨v804, v808, rfl, ho0, ho1, hb⟩; refine ⟨_, rfl, ?_⟩; have n0_ := zm (Kd.R_elder' (by (with_reducible repeat (first | apply zo | apply zp | apply zq)); exact HO776.out) (Kd.R_base ho1) hb); have n1_ := zm (Kd.R_elder' (by (with_reducible repeat (first | apply zo | apply zp | apply zq)); exact HO779.out) (Kd.R_base ho1) hb); have n2_ := zm (Kd.R_below (by (with_reducible repeat (first | apply zo | apply zp | apply zq)); exact HO784.out) hb); have n3_ := zm (Kd.V_elder' (by (with_reducible repeat (first | apply zA | apply zB | apply zC)); exact HO789.out) (Kd.R_base ho1) hb); have n4_ := zm (Kd.R_below (by (with_reducible repeat (first | apply zo | apply zp | apply zq)); exact HO794.out) hb); have n5_ := zm (Kd.V_elder' (by (with_reducible repeat (first | apply zA | apply zB | apply zC)); exact HO799.out) (Kd.R_base ho1) hb); have n6_ := zm (Kd.V_lower (zy (ok' := fun k_ => some k_ ≠ (v808 : Value).ownBlock ∧ some k_ ≠ (.slice Ao23 y774.length co23 : Value).ownBlock ∧ some k_ ≠ (.slice Ao24 y777.length co24 : Value).ownBlock ∧ some k_ ≠ (.slice Ao22 t782.length co22 : Value).ownBlock ∧ k_ ≠ gb791) ho0 (fun k_ hk_ => ⟨hk_.2, Or.elim hk_.1 (fun hs_ => hs_.1) (fun hn_ => (Kd.fresh' (Kd.R_lt (by (with_reducible repeat (first | apply zo | apply zp | apply zq)); exact HO776.out)) k_ hn_)), Or.elim hk_.1 (fun hs_ => hs_.2.1) (fun hn_ => (Kd.fresh' (Kd.R_lt (by (with_reducible repeat (first | apply zo | apply zp | apply zq)); exact HO779.out)) k_ hn_)), Or.elim hk_.1 (fun hs_ => hs_.2.2.1) (fun hn_ => (Kd.fresh' (Kd.R_lt (by (with_reducible repeat (first | apply zo | apply zp | apply zq)); exact HO784.out)) k_ hn_)), Or.elim hk_.1 (fun hs_ => hs_.2.2.2) (fun hn_ => (Kd.freshB (g := gb791) (o := .cells #[.int .u64 t785, .int .u32 t786, .slice Ao28 t787.length co28] 26 (0, 0)) (by (with_reducible repeat (first | refine zh ?_ _ | refine zj ?_ | refine zi ?_ _)); exact BK791.out) k_ hn_))⟩)) (zE (by repeat (first | (with_reducible first | exact HB.out | apply ze | apply zd | apply zf | refine zk ?_ GE791.out) | exact HB.out)))); have n7_ := zm (Kd.R_lower (Kd.R_new' (Kd.R_new' (zG (ok' := fun k_ => True) ho1 (fun _ hk_ => trivial)) (Kd.R_lt (by (with_reducible repeat (first | apply zo | apply zp | apply zq)); exact HO776.out))) (Kd.R_lt (by (with_reducible repeat (first | apply zo | apply zp | apply zq)); exact HO779.out))) (zE (by repeat (first | (with_reducible first | exact HB.out | apply ze | apply zd | apply zf | refine zk ?_ GE791.out) | exact HB.out)))); have n8_ := zm (zF (g := gb791) (o := .cells #[.int .u64 t785, .int .u32 t786, .slice Ao28 t787.length co28] 26 (0, 0)) (by (with_reducible repeat (first | refine zh ?_ _ | refine zj ?_ | refine zi ?_ _)); exact BK791.out) hb); have n9_ := zm (zJ (by repeat (first | (with_reducible first | exact HB.out | apply ze | apply zd | apply zf | refine zk ?_ GE791.out) | exact HB.out)) hb); clear HO776; clear HO779; clear HO784; clear HO789; clear HO794; clear HO799; clear BK791; clear HB; have HO776 := n0_; have HO779 := n1_; have HO784 := n2_; have HO789 := n3_; have HO794 := n4_; have HO799 := n5_; have HO805 := n6_; have HO809 := n7_; have BK791 := n8_; have HB := n9_; clear n0_ n1_ n2_ n3_ n4_ n5_ n6_ n7_ n8_ n9_; (try clear hb); (try clear hb2); (try clear hk); (try clear hi); (try clear ho0); (try clear ho1)) | ((with_reducible refine gate_dst (N := 5) rfl ?_); refine box_event ?hg (N := 5) ?hd (cs := #[.int .u64 0, .int .u32 0, .slice none 0 0, .int .i64 0]) (t := 43) ?hr ?_; (case hd => rfl); (case hg => rfl); (case hr => first | (go_simp; done) | (go_simp; rfl)); intro gb811 hg w34 hbox hb; have n0_ := zm (Kd.R_below (by (with_reducible repeat (first | apply zo | apply zp | apply zq)); exact HO776.out) hb); have n1_ := zm (Kd.R_below (by (with_reducible repeat (first | apply zo | apply zp | apply zq)); exact HO779.out) hb); have n2_ := zm (Kd.R_below (by (with_reducible repeat (first | apply zo | apply zp | apply zq)); exact HO784.out) hb); have n3_ := zm (Kd.V_below (Kd.V_elderB (by (with_reducible repeat (first | apply zA | apply zB | apply zC)); exact HO789.out) gb811 (Nat.le_of_eq hg.symm)) hb); have n4_ := zm (Kd.R_below (by (with_reducible repeat (first | apply zo | apply zp | apply zq)); exact HO794.out) hb); have n5_ := zm (Kd.V_below (Kd.V_elderB (by (with_reducible repeat (first | apply zA | apply zB | apply zC)); exact HO799.out) gb811 (Nat.le_of_eq hg.symm)) hb); have n6_ := zm (Kd.V_below (Kd.V_elderB (by (with_reducible repeat (first | apply zA | apply zB | apply zC)); exact HO805.out) gb811 (Nat.le_of_eq hg.symm)) hb); have n7_ := zm (Kd.R_below (by (with_reducible repeat (first | apply zo | apply zp | apply zq)); exact HO809.out) hb); have n8_ := zm (zF (g := gb791) (o := .cells #[.int .u64 t785, .int .u32 t786, .slice Ao28 t787.length co28] 26 (0, 0)) (by (with_reducible repeat (first | refine zh ?_ _ | refine zj ?_ | refine zi ?_ _)); exact BK791.out) hb); have n9_ := zm (zJ (by repeat (first | (with_reducible first | exact HB.out | apply ze | apply zd | apply zf | refine zk ?_ GE791.out) | exact HB.out)) hb); have n10_ := zm (hbox); have n11_ := zm ((by rw [hg]; exact (zE (by repeat (first | (with_reducible first | exact HB.out | apply ze | apply zd | apply zf | refine zk ?_ GE791.out) | exact HB.out))) : w.heap.size ≤ gb811)); have n12_ := zm ((by rw [hg]; exact (zE (by repeat (first | (with_reducible first | exact HB.out | apply ze | apply zd | apply zf | refine zk ?_ GE791.out) | exact HB.out))) : w.heap.size ≤ gb811)); have n13_ := zm ((by rw [hg]; exact zn (zD (g := gb791) (o := .cells #[.int .u64 t785, .int .u32 t786, .slice Ao28 t787.length co28] 26 (0, 0)) (by (with_reducible repeat (first | refine zh ?_ _ | refine zj ?_ | refine zi ?_ _)); exact BK791.out)) : gb791 ≠ gb811)); have n14_ := zm ((by rw [hg]; exact zg (zD (g := gb791) (o := .cells #[.int .u64 t785, .int .u32 t786, .slice Ao28 t787.length co28] 26 (0, 0)) (by (with_reducible repeat (first | refine zh ?_ _ | refine zj ?_ | refine zi ?_ _)); exact BK791.out)) : gb811 ≠ gb791)); clear HO776; clear HO779; clear HO784; clear HO789; clear HO794; clear HO799; clear HO805; clear HO809; clear BK791; clear HB; have HO776 := n0_; have HO779 := n1_; have HO784 := n2_; have HO789 := n3_; have HO794 := n4_; have HO799 := n5_; have HO805 := n6_; have HO809 := n7_; have BK791 := n8_; have HB := n9_; have BK811 := n10_; have GW811 := n11_; have GE811 := n12_; have NB791_811 := n13_; have NB811_791 := n14_; clear n0_ n1_ n2_ n3_ n4_ n5_ n6_ n7_ n8_ n9_ n10_ n11_ n12_ n13_ n14_; clear hb hbox hg; have hnb35 := NB811_791.out; have hnc35 := NB791_811.out; have hcz36_0 : w34.cell? ⟨gb811, 0, none⟩ = some (.int .u64 0) := (zs BK811.out 0).trans rfl; have hcz36_1 : w34.cell? ⟨gb811, 1, none⟩ = some (.int .u32 0) := (zs BK811.out 1).trans rfl; have hcz36_2 : w34.cell? ⟨gb811, 2, none⟩ = some (.slice none 0 0) := (zs BK811.out 2).trans rfl; have hcz36_3 : w34.cell? ⟨gb811, 3, none⟩ = some (.int .i64 0) := (zs BK811.out 3).trans rfl; have hfz36_0 := zx BK811.out 0; have hfz36_1 := zx BK811.out 1; have hfz36_2 := zx BK811.out 2; have hfz36_3 := zx BK811.out 3; obtain ⟨Ao37, co37, eo37⟩ := Kd.V_slice HO805.out; subst eo37; obtain ⟨Ao38, co38, eo38⟩ := Kd.R_slice HO809.out; subst eo38) | (go_at_call 49; (with_reducible refine (psalteryref06_Same.calls k _ _ t807 _ _ y774 true _ ?side1 ?side2 ?side3 ?side4 A7.out).mono ?_); (case side1 => refine (Kd.R_reads' (e := 3) (base := w.heap.size) (ok := fun k_ => ((True ∧ some k_ ≠ (.slice Ao23 y774.length co23 : Value).ownBlock) ∧ some k_ ≠ (.slice Ao24 y777.length co24 : Value).ownBlock)) (n := t807.length) (c := co38) ?_).2.2; exact (by (with_reducible repeat (first | apply zo | apply zp | apply zq)); exact (zG (zH (p := ⟨gb811, 3, none⟩) (zH (p := ⟨gb811, 2, none⟩) (zH (p := ⟨gb811, 1, none⟩) (zH (p := ⟨gb811, 0, none⟩) (Kd.R_types HO809.out BK811.out (by decide)) (fun _ hk => hk.2) (.int .u64 t801)) (fun _ hk => hk.2) (.int .u32 t802)) (fun _ hk => hk.2) (.slice Ao37 t803.length co37)) (fun _ hk => hk.2) (.int .i64 t806)) (fun _ h_ => h_.1)))); (case side2 => exact (Kd.R_reads' HO809.out).2.1); (case side3 => refine (Kd.R_reads' (e := 3) (base := w.heap.size) (ok := fun k_ => ((True ∧ some k_ ≠ (.slice Ao24 y777.length co24 : Value).ownBlock) ∧ some k_ ≠ (.slice Ao38 t807.length co38 : Value).ownBlock)) (n := y774.length) (c := co23) ?_).2.2; exact (by (with_reducible repeat (first | apply zo | apply zp | apply zq)); exact (zG (zH (p := ⟨gb811, 3, none⟩) (zH (p := ⟨gb811, 2, none⟩) (zH (p := ⟨gb811, 1, none⟩) (zH (p := ⟨gb811, 0, none⟩) (Kd.R_types HO776.out BK811.out (by decide)) (fun _ hk => hk.2) (.int .u64 t801)) (fun _ hk => hk.2) (.int .u32 t802)) (fun _ hk => hk.2) (.slice Ao37 t803.length co37)) (fun _ hk => hk.2) (.int .i64 t806)) (fun _ h_ => h_.1)))); (case side4 => exact (Kd.R_reads' HO776.out).2.1); rintro e w' ⟨rfl, ⟨nd, rfl⟩⟩) | (go_at_call 28; (with_reducible refine (coder_RightDec.calls t801 t802 _ _ t803 t806 true _ ?side1 ?side2 A10.out).mono ?_); (case side1 => refine (Kd.V_reads' (e := 5) (base := w.heap.size) (ok := fun k_ => ((some k_ ≠ (.slice Ao38 t807.length co38 : Value).ownBlock ∧ (some k_ ≠ (.slice Ao23 y774.length co23 : Value).ownBlock ∧ (some k_ ≠ (.slice Ao24 y777.length co24 : Value).ownBlock ∧ (some k_ ≠ (.slice Ao22 t782.length co22 : Value).ownBlock ∧ k_ ≠ gb791)))) ∧ k_ ≠ gb811)) (n := t803.length) (c := co37) ?_).2.2; exact (by (with_reducible repeat (first | apply zA | apply zB | apply zC)); exact (zy (zI (p := ⟨gb811, 3, none⟩) (zI (p := ⟨gb811, 2, none⟩) (zI (p := ⟨gb811, 1, none⟩) (zI (p := ⟨gb811, 0, none⟩) (zy HO805.out (fun k_ hk => (⟨hk, hk.2⟩ : _ ∧ k_ ≠ gb811))) (fun _ hk => hk.2) (.int .u64 t801)) (fun _ hk => hk.2) (.int .u32 t802)) (fun _ hk => hk.2) (.slice Ao37 t803.length co37)) (fun _ hk => hk.2) (.int .i64 t806)) (fun _ h_ => h_.1)))); (case side2 => exact (Kd.V_reads' HO805.out).2.1); rintro e w39 ⟨rfl, hb⟩; have n0_ := zm (Kd.R_below (by (with_reducible repeat (first | apply zo | apply zp | apply zq)); exact (zG (zH (p := ⟨gb811, 3, none⟩) (zH (p := ⟨gb811, 2, none⟩) (zH (p := ⟨gb811, 1, none⟩) (zH (p := ⟨gb811, 0, none⟩) (Kd.R_types HO776.out BK811.out (by decide)) (fun _ hk => hk.2) (.int .u64 t801)) (fun _ hk => hk.2) (.int .u32 t802)) (fun _ hk => hk.2) (.slice Ao37 t803.length co37)) (fun _ hk => hk.2) (.int .i64 t806)) (fun _ h_ => h_.1))) hb); have n1_ := zm (Kd.R_below (by (with_reducible repeat (first | apply zo | apply zp | apply zq)); exact (zG (zH (p := ⟨gb811, 3, none⟩) (zH (p := ⟨gb811, 2, none⟩) (zH (p := ⟨gb811, 1, none⟩) (zH (p := ⟨gb811, 0, none⟩) (Kd.R_types HO779.out BK811.out (by decide)) (fun _ hk => hk.2) (.int .u64 t801)) (fun _ hk => hk.2) (.int .u32 t802)) (fun _ hk => hk.2) (.slice Ao37 t803.length co37)) (fun _ hk => hk.2) (.int .i64 t806)) (fun _ h_ => h_.1))) hb); have n2_ := zm (Kd.R_below (by (with_reducible repeat (first | apply zo | apply zp | apply zq)); exact (zG (zH (p := ⟨gb811, 3, none⟩) (zH (p := ⟨gb811, 2, none⟩) (zH (p := ⟨gb811, 1, none⟩) (zH (p := ⟨gb811, 0, none⟩) (Kd.R_types HO784.out BK811.out (by decide)) (fun _ hk => hk.2) (.int .u64 t801)) (fun _ hk => hk.2) (.int .u32 t802)) (fun _ hk => hk.2) (.slice Ao37 t803.length co37)) (fun _ hk => hk.2) (.int .i64 t806)) (fun _ h_ => h_.1))) hb); have n3_ := zm (Kd.V_below (by (with_reducible repeat (first | apply zA | apply zB | apply zC)); exact (zy (zI (p := ⟨gb811, 3, none⟩) (zI (p := ⟨gb811, 2, none⟩) (zI (p := ⟨gb811, 1, none⟩) (zI (p := ⟨gb811, 0, none⟩) (zy HO789.out (fun k_ hk => (⟨hk, hk.2⟩ : _ ∧ k_ ≠ gb811))) (fun _ hk => hk.2) (.int .u64 t801)) (fun _ hk => hk.2) (.int .u32 t802)) (fun _ hk => hk.2) (.slice Ao37 t803.length co37)) (fun _ hk => hk.2) (.int .i64 t806)) (fun _ h_ => h_.1))) hb); have n4_ := zm (Kd.R_below (by (with_reducible repeat (first | apply zo | apply zp | apply zq)); exact (zG (zH (p := ⟨gb811, 3, none⟩) (zH (p := ⟨gb811, 2, none⟩) (zH (p := ⟨gb811, 1, none⟩) (zH (p := ⟨gb811, 0, none⟩) (Kd.R_types HO794.out BK811.out (by decide)) (fun _ hk => hk.2) (.int .u64 t801)) (fun _ hk => hk.2) (.int .u32 t802)) (fun _ hk => hk.2) (.slice Ao37 t803.length co37)) (fun _ hk => hk.2) (.int .i64 t806)) (fun _ h_ => h_.1))) hb); have n5_ := zm (Kd.V_below (by (with_reducible repeat (first | apply zA | apply zB | apply zC)); exact (zy (zI (p := ⟨gb811, 3, none⟩) (zI (p := ⟨gb811, 2, none⟩) (zI (p := ⟨gb811, 1, none⟩) (zI (p := ⟨gb811, 0, none⟩) (zy HO799.out (fun k_ hk => (⟨hk, hk.2⟩ : _ ∧ k_ ≠ gb811))) (fun _ hk => hk.2) (.int .u64 t801)) (fun _ hk => hk.2) (.int .u32 t802)) (fun _ hk => hk.2) (.slice Ao37 t803.length co37)) (fun _ hk => hk.2) (.int .i64 t806)) (fun _ h_ => h_.1))) hb); have n6_ := zm (Kd.V_below (by (with_reducible repeat (first | apply zA | apply zB | apply zC)); exact (zy (zI (p := ⟨gb811, 3, none⟩) (zI (p := ⟨gb811, 2, none⟩) (zI (p := ⟨gb811, 1, none⟩) (zI (p := ⟨gb811, 0, none⟩) (zy HO805.out (fun k_ hk => (⟨hk, hk.2⟩ : _ ∧ k_ ≠ gb811))) (fun _ hk => hk.2) (.int .u64 t801)) (fun _ hk => hk.2) (.int .u32 t802)) (fun _ hk => hk.2) (.slice Ao37 t803.length co37)) (fun _ hk => hk.2) (.int .i64 t806)) (fun _ h_ => h_.1))) hb); have n7_ := zm (Kd.R_below (by (with_reducible repeat (first | apply zo | apply zp | apply zq)); exact (zG (zH (p := ⟨gb811, 3, none⟩) (zH (p := ⟨gb811, 2, none⟩) (zH (p := ⟨gb811, 1, none⟩) (zH (p := ⟨gb811, 0, none⟩) (Kd.R_types HO809.out BK811.out (by decide)) (fun _ hk => hk.2) (.int .u64 t801)) (fun _ hk => hk.2) (.int .u32 t802)) (fun _ hk => hk.2) (.slice Ao37 t803.length co37)) (fun _ hk => hk.2) (.int .i64 t806)) (fun _ h_ => h_.1))) hb); have n8_ := zm (zF (g := gb791) (o := .cells #[.int .u64 t785, .int .u32 t786, .slice Ao28 t787.length co28] 26 (0, 0)) (by (with_reducible repeat (first | refine zh ?_ _ | refine zj ?_ | refine zi ?_ _)); refine zv ?_ NB791_811.out _; (with_reducible repeat (first | refine zh ?_ _ | refine zj ?_ | refine zi ?_ _)); refine zv ?_ NB791_811.out _; (with_reducible repeat (first | refine zh ?_ _ | refine zj ?_ | refine zi ?_ _)); refine zv ?_ NB791_811.out _; (with_reducible repeat (first | refine zh ?_ _ | refine zj ?_ | refine zi ?_ _)); refine zv ?_ NB791_811.out _; (with_reducible repeat (first | refine zh ?_ _ | refine zj ?_ | refine zi ?_ _)); exact BK791.out) hb); have n9_ := zm (zF (g := gb811) (o := .cells #[.int .u64 t801, .int .u32 t802, .slice Ao37 t803.length co37, .int .i64 t806] 43 (0, 0)) (by (with_reducible repeat (first | refine zh ?_ _ | refine zj ?_ | refine zi ?_ _)); refine zw (cs := #[.int .u64 t801, .int .u32 t802, .slice Ao37 t803.length co37, .int .i64 0]) ?_ 3 _ rfl; (with_reducible repeat (first | refine zh ?_ _ | refine zj ?_ | refine zi ?_ _)); refine zw (cs := #[.int .u64 t801, .int .u32 t802, .slice none 0 0, .int .i64 0]) ?_ 2 _ rfl; (with_reducible repeat (first | refine zh ?_ _ | refine zj ?_ | refine zi ?_ _)); refine zw (cs := #[.int .u64 t801, .int .u32 0, .slice none 0 0, .int .i64 0]) ?_ 1 _ rfl; (with_reducible repeat (first | refine zh ?_ _ | refine zj ?_ | refine zi ?_ _)); refine zw (cs := #[.int .u64 0, .int .u32 0, .slice none 0 0, .int .i64 0]) ?_ 0 _ rfl; (with_reducible repeat (first | refine zh ?_ _ | refine zj ?_ | refine zi ?_ _)); exact BK811.out) hb); have n10_ := zm (zJ (by repeat (first | (with_reducible first | exact HB.out | apply ze | apply zd | apply zf | refine zk ?_ GE791.out | refine zk ?_ GE811.out) | exact HB.out)) hb); clear HO776; clear HO779; clear HO784; clear HO789; clear HO794; clear HO799; clear HO805; clear HO809; clear BK791; clear BK811; clear HB; have HO776 := n0_; have HO779 := n1_; have HO784 := n2_; have HO789 := n3_; have HO794 := n4_; have HO799 := n5_; have HO805 := n6_; have HO809 := n7_; have BK791 := n8_; have BK811 := n9_; have HB := n10_; clear n0_ n1_ n2_ n3_ n4_ n5_ n6_ n7_ n8_ n9_ n10_; (try clear hb); (try clear hb2); (try clear hk); (try clear hi)) | (go_at_call 50; (with_reducible refine (gain_Most.calls true t814 _ A12.out).mono ?_); rintro e w' ⟨rfl, ⟨nd, rfl⟩⟩) | (go_at_call 50; (with_reducible refine (gain_Most.calls false t815 _ A14.out).mono ?_); rintro e w' ⟨rfl, ⟨nd, rfl⟩⟩) | (go_at_call 45; (with_reducible refine (gain_Right.calls k _ _ y774 t816 _ ?side1 ?side2 A16.out).mono ?_); (case side1 => repeat (first | exact (Kd.R_reads' HO776.out).2.2 | (with_reducible refine Kd.C_alloc ?_ _) | (with_reducible refine Kd.C_drewN ?_ _) | (with_reducible refine Kd.C_drew ?_))); (case side2 => exact (Kd.R_reads' HO776.out).2.1); rintro e w' ⟨rfl, ⟨nd, rfl⟩⟩))
       go_ret
       exact ⟨by first | rfl | (simp [errW_none, errW_some] <;> rfl) | (simp [*, errW_none, errW_some] <;> rfl), by repeat (first | (with_reducible first | exact HB.out | apply ze | apply zd | apply zf | refine zk ?_ GE791.out | refine zk ?_ GE811.out) | exact HB.out)⟩
      ·
       rw [if_neg c15] at H
       exact absurd H (by simp)
     ·
      rw [if_neg c13] at H
      exact absurd H (by simp)
    ·
     replace c11 := Bool.eq_false_iff.mpr c11
     subst c11
     have H1 : (none) = some r := by rw [if_neg (show ¬ (false = true) by decide)] at H; exact H
     clear H
     have H := H1
     clear H1
     exact absurd H (by simp)
   ·
    rw [if_neg c9] at H
    exact absurd H (by simp)
  ·
   replace c8 := Bool.eq_false_iff.mpr c8
   subst c8
   have H1 : (none) = some r := by rw [if_neg (show ¬ (false = true) by decide)] at H; exact H
   clear H
   have H := H1
   clear H1
   exact absurd H (by simp)
 ·
  rw [if_neg c6] at H
  exact absurd H (by simp)

end Go.Proofs.Ytkaoiblgfpphoaa.Prt

namespace Go.Proofs.Ytkaoiblgfpphoaa.Prt
open Go.RowKit Go.Proofs.YtkaoiblgfpphoaaW.PrintWords Go.Proofs.YtkaoiblgfpphoaaW.PrintLast Go.Proofs.YtkaoiblgfpphoaaW.PrintMore
attribute [local go_sem] max2_int min2_int max_two min_two max_three min_three max_four min_four   -- for this text's walks alone
set_option linter.unusedVariables false
set_option linter.unusedSimpArgs false

/-! ### psalteryref11_Right: function 46 -/
def psalteryref11_Right.l0 : Nat → List Int → Bool → Int → Option (Bool)
 | 0, _, _, _ => none
 | k + 1, x0, x3, x4 => if x4 < (x0.length : Int) then (if x3 = true then (if 0 ≤ x4 then (if (rd x0 x4) ≥ 0 then (psalteryref11_Right.l0 k x0 (decide ((rd x0 x4) ≤ 44)) (wrap64 (x4 + 1))) else (psalteryref11_Right.l0 k x0 false (wrap64 (x4 + 1)))) else (none)) else (psalteryref11_Right.l0 k x0 false (wrap64 (x4 + 1)))) else (some x3)
def psalteryref11_Right.f (k : Nat) (l0 : List Int) : Option (Bool) := psalteryref11_Right.l0 k l0 ((l0.length : Int) == 5) 0
theorem psalteryref11_Right.mono_l : ∀ k, (∀ y0 y1 y2, LeO (psalteryref11_Right.l0 k y0 y1 y2) (psalteryref11_Right.l0 (k + 1) y0 y1 y2))
 | 0 => fun _ _ _ r h => by simp [psalteryref11_Right.l0] at h
 | k + 1 => by
  have ih0 := psalteryref11_Right.mono_l k
  ·
   intro y0 y1 y2
   unfold psalteryref11_Right.l0
   repeat' first
   | (with_reducible exact ih0 _ _ _)
   | (with_reducible exact LeO.refl _)
   | (with_reducible exact LeO.none _)
   | (with_reducible refine LeO.ite ?_ ?_)
   | (with_reducible refine LeO.bind ?_ (fun _ => ?_))
   | exact ih0 _ _ _
   | exact LeO.none _
   | refine LeO.ite ?_ ?_
   | refine LeO.bind ?_ (fun _ => ?_)
theorem psalteryref11_Right.mono : ∀ a0 k, LeO (psalteryref11_Right.f k a0) (psalteryref11_Right.f (k + 1) a0) := by
 intro a0 k
 have ih0 := psalteryref11_Right.mono_l k
 unfold psalteryref11_Right.f
 repeat' first
   | (with_reducible exact ih0 _ _ _)
   | (with_reducible exact LeO.refl _)
   | (with_reducible exact LeO.none _)
   | (with_reducible refine LeO.ite ?_ ?_)
   | (with_reducible refine LeO.bind ?_ (fun _ => ?_))
   | exact ih0 _ _ _
   | exact LeO.none _
   | refine LeO.ite ?_ ?_
   | refine LeO.bind ?_ (fun _ => ?_)
set_option maxHeartbeats 8000000 in
set_option maxRecDepth 100000 in
theorem psalteryref11_Right.calls (k : Nat) (A0 : Option Addr) (c0 : Nat) (l0 : List Int) (r : Bool) (w : World) (hr0 : Kd.C (Kd.int .i64) w A0 l0.length l0) (hc0 : l0.length ≤ c0) (h : psalteryref11_Right.f k l0 = some r) :
  Calls Try.prog 46 #[.slice A0 l0.length c0] w fun e w' => e = .returned (.bool r) ∧ Drawn0 w w' := by
 have HR0 := zm hr0
 have HC0 := zm hc0
 clear hr0 hc0
 have H : (psalteryref11_Right.l0 k l0 ((l0.length : Int) == 5) 0) = some r := h
 clear h
 have H' := zm H
 clear H
 go_enter Try.func46, Try.ntmps46
 go_wp2
 go_loopg [3, 4] k (fun kq v3 v4 w' => ∃ (x3_1 : Bool) (x4_1 : Int), v3 = .bool x3_1 ∧ v4 = .int .i64 x4_1 ∧ Aside0 (psalteryref11_Right.l0 kq l0 x3_1 x4_1 = some r) ∧ Aside0 (kq ≤ k) ∧ Drawn0 w w')
 case atStart => exact ⟨(((l0.length : Int) == 5)), (0), (by first | rfl | (simp; done) | (simp [*]; done)), (by first | rfl | (simp; done) | (simp [*]; done)), H', ⟨Nat.le_refl _⟩, by repeat (first | exact Drawn0.refl _ | apply Drawn0.step)⟩
 case round =>
  clear H'
  obtain ⟨x3_1, x4_1, rfl, rfl, HA, HK1, ⟨m1, rfl⟩⟩ := hrel
  cases gk with
  | zero => exact absurd HA.out (by simp [psalteryref11_Right.l0])
  | succ k1 =>
   have H := HA.out
   clear HA
   simp only [psalteryref11_Right.l0] at H
   by_cases c2 : x4_1 < (l0.length : Int)
   ·
    rw [if_pos c2] at H
    have c2b0 : decide (x4_1 < (l0.length : Int)) = true := decide_eq_true c2
    clear c2
    by_cases c3 : x3_1 = true
    ·
     subst c3
     have H1 : (if 0 ≤ x4_1 then (if (rd l0 x4_1) ≥ 0 then (psalteryref11_Right.l0 k1 l0 (decide ((rd l0 x4_1) ≤ 44)) (wrap64 (x4_1 + 1))) else (psalteryref11_Right.l0 k1 l0 false (wrap64 (x4_1 + 1)))) else (none)) = some r := by rw [if_pos rfl] at H; exact H
     clear H
     have H := H1
     clear H1
     by_cases c4 : 0 ≤ x4_1
     ·
      rw [if_pos c4] at H
      have c4b0 : decide (0 ≤ x4_1) = true := decide_eq_true c4
      clear c4
      by_cases c5 : (rd l0 x4_1) ≥ 0
      ·
       rw [if_pos c5] at H
       have c5b0 : decide (0 ≤ (rd l0 x4_1)) = true := decide_eq_true c5
       clear c5
       have H' := zm H
       clear H
       have p817 : 0 ≤ (x4_1 : Int) := of_decide_eq_true (by first | (with_reducible assumption) | assumption)
       have q817 : x4_1 < (l0.length : Int) := of_decide_eq_true (by first | (with_reducible assumption) | assumption)
       obtain ⟨ad817, e817, hx817_0⟩ := Kd.at_int HR0.out x4_1 p817 q817
       cases e817
       replace p817 := eq_true p817
       replace q817 := eq_true q817
       have p818 : 0 ≤ (x4_1 : Int) := of_decide_eq_true (by first | (with_reducible assumption) | assumption)
       have q818 : x4_1 < (l0.length : Int) := of_decide_eq_true (by first | (with_reducible assumption) | assumption)
       obtain ⟨ad818, e818, hx818_0⟩ := Kd.at_int HR0.out x4_1 p818 q818
       obtain rfl : ad817 = ad818 := (by injection e818)
       replace p818 := eq_true p818
       replace q818 := eq_true q818
       go_wp2
       go_roundg k1
       case measure => have := HK1.out; omega
       case rel => exact ⟨(decide ((rd l0 x4_1) ≤ 44)), (wrap64 (x4_1 + 1)), (by first | rfl | (simp; done) | (simp [*]; done)), (by first | rfl | (simp; done) | (simp [*]; done)), H', ⟨by have := HK1.out; omega⟩, by repeat (first | exact Drawn0.refl _ | apply Drawn0.step)⟩
      ·
       rw [if_neg c5] at H
       have c5b0 : decide (0 ≤ (rd l0 x4_1)) = false := decide_eq_false c5
       clear c5
       have H' := zm H
       clear H
       have p817 : 0 ≤ (x4_1 : Int) := of_decide_eq_true (by first | (with_reducible assumption) | assumption)
       have q817 : x4_1 < (l0.length : Int) := of_decide_eq_true (by first | (with_reducible assumption) | assumption)
       obtain ⟨ad817, e817, hx817_0⟩ := Kd.at_int HR0.out x4_1 p817 q817
       cases e817
       replace p817 := eq_true p817
       replace q817 := eq_true q817
       go_wp2
       go_roundg k1
       case measure => have := HK1.out; omega
       case rel => exact ⟨(false), (wrap64 (x4_1 + 1)), (by first | rfl | (simp; done) | (simp [*]; done)), (by first | rfl | (simp; done) | (simp [*]; done)), H', ⟨by have := HK1.out; omega⟩, by repeat (first | exact Drawn0.refl _ | apply Drawn0.step)⟩
     ·
      rw [if_neg c4] at H
      exact absurd H (by simp)
    ·
     replace c3 := Bool.eq_false_iff.mpr c3
     subst c3
     have H1 : (psalteryref11_Right.l0 k1 l0 false (wrap64 (x4_1 + 1))) = some r := by rw [if_neg (show ¬ (false = true) by decide)] at H; exact H
     clear H
     have H := H1
     clear H1
     have H' := zm H
     clear H
     go_wp2
     go_roundg k1
     case measure => have := HK1.out; omega
     case rel => exact ⟨(false), (wrap64 (x4_1 + 1)), (by first | rfl | (simp; done) | (simp [*]; done)), (by first | rfl | (simp; done) | (simp [*]; done)), H', ⟨by have := HK1.out; omega⟩, by repeat (first | exact Drawn0.refl _ | apply Drawn0.step)⟩
   ·
    rw [if_neg c2] at H
    have c2b0 : decide (x4_1 < (l0.length : Int)) = false := decide_eq_false c2
    clear c2
    obtain rfl := Option.some.inj H
    go_wp2
    go_ret
    exact ⟨by first | rfl | (simp; done) | (simp [*]; done), by repeat (first | exact Drawn0.refl _ | apply Drawn0.step)⟩

end Go.Proofs.Ytkaoiblgfpphoaa.Prt

namespace Go.Proofs.Ytkaoiblgfpphoaa.Prt
open Go.RowKit Go.Proofs.YtkaoiblgfpphoaaW.PrintWords Go.Proofs.YtkaoiblgfpphoaaW.PrintLast Go.Proofs.YtkaoiblgfpphoaaW.PrintMore
attribute [local go_sem] max2_int min2_int max_two min_two max_three min_three max_four min_four   -- for this text's walks alone
set_option linter.unusedVariables false
set_option linter.unusedSimpArgs false

/-! ### psalteryref03_Clamp: function 62 -/
def psalteryref03_Clamp.f (a0 : Int) (a1 : Int) (a2 : Int) : Option (Int) := if a0 < a1 then (some a1) else (if a0 > a2 then (some a2) else (some a0))
set_option maxHeartbeats 8000000 in
set_option maxRecDepth 100000 in
theorem psalteryref03_Clamp.calls (a0 : Int) (a1 : Int) (a2 : Int) (r : Int) (w : World) (h : psalteryref03_Clamp.f a0 a1 a2 = some r) :
  Calls Try.prog 62 #[.int .i64 a0, .int .i64 a1, .int .i64 a2] w fun e w' => e = .returned (.int .i64 r) ∧ Drawn0 w w' := by
 have H : (if a0 < a1 then (some a1) else (if a0 > a2 then (some a2) else (some a0))) = some r := h
 clear h
 by_cases c4 : a0 < a1
 ·
  rw [if_pos c4] at H
  have c4b0 : decide (a0 < a1) = true := decide_eq_true c4
  clear c4
  obtain rfl := Option.some.inj H
  go_enter Try.func62, Try.ntmps62
  go_wp2
  go_ret
  exact ⟨by first | rfl | (simp; done) | (simp [*]; done), by repeat (first | exact Drawn0.refl _ | apply Drawn0.step)⟩
 ·
  rw [if_neg c4] at H
  have c4b0 : decide (a0 < a1) = false := decide_eq_false c4
  clear c4
  by_cases c5 : a0 > a2
  ·
   rw [if_pos c5] at H
   have c5b0 : decide (a2 < a0) = true := decide_eq_true c5
   clear c5
   obtain rfl := Option.some.inj H
   go_enter Try.func62, Try.ntmps62
   go_wp2
   go_ret
   exact ⟨by first | rfl | (simp; done) | (simp [*]; done), by repeat (first | exact Drawn0.refl _ | apply Drawn0.step)⟩
  ·
   rw [if_neg c5] at H
   have c5b0 : decide (a2 < a0) = false := decide_eq_false c5
   clear c5
   obtain rfl := Option.some.inj H
   go_enter Try.func62, Try.ntmps62
   go_wp2
   go_ret
   exact ⟨by first | rfl | (simp; done) | (simp [*]; done), by repeat (first | exact Drawn0.refl _ | apply Drawn0.step)⟩

end Go.Proofs.Ytkaoiblgfpphoaa.Prt

namespace Go.Proofs.Ytkaoiblgfpphoaa.Prt
open Go.RowKit Go.Proofs.YtkaoiblgfpphoaaW.PrintWords Go.Proofs.YtkaoiblgfpphoaaW.PrintLast Go.Proofs.YtkaoiblgfpphoaaW.PrintMore
attribute [local go_sem] max2_int min2_int max_two min_two max_three min_three max_four min_four   -- for this text's walks alone
set_option linter.unusedVariables false
set_option linter.unusedSimpArgs false

/-! ### psalteryref05_Get: function 33 -/
def psalteryref05_Get.f (a0_0 : Int) (a0_1 : Int) (l0_2 : List Int) (a0_3 : Int) (a1 : Int) : Option (Int) := if (IntKind.u64.wrap (a1)) = 0 then (none) else (if (IntKind.u64.wrap (Int.tdiv a0_1 (IntKind.u64.wrap (a1)))) = 0 then (none) else ((psalteryref03_Clamp.f (wrap64 (IntKind.u64.wrap (Int.tdiv a0_0 (IntKind.u64.wrap (Int.tdiv a0_1 (IntKind.u64.wrap (a1))))))) 0 (wrap64 (a1 - 1))).bind fun t352 => (some t352)))
set_option maxHeartbeats 8000000 in
set_option maxRecDepth 100000 in
theorem psalteryref05_Get.calls (a0_0 : Int) (a0_1 : Int) (A0_2 : Option Addr) (c0_2 : Nat) (l0_2 : List Int) (a0_3 : Int) (a1 : Int) (r : Int) (w : World) (hr0_2 : Kd.C (Kd.int .u8) w A0_2 l0_2.length l0_2) (hc0_2 : l0_2.length ≤ c0_2) (h : psalteryref05_Get.f a0_0 a0_1 l0_2 a0_3 a1 = some r) :
  Calls Try.prog 33 #[.agg #[.int .u64 a0_0, .int .u64 a0_1, .slice A0_2 l0_2.length c0_2, .int .i64 a0_3], .int .i64 a1] w fun e w' => e = .returned (.int .i64 r) ∧ Below w.heap.size w w' := by
 have hu46 := Try.underlying46
 have HR0_2 := zm hr0_2
 have HC0_2 := zm hc0_2
 clear hr0_2 hc0_2
 have HB := zm (Below.refl w.heap.size w)
 have H : (if (IntKind.u64.wrap (a1)) = 0 then (none) else (if (IntKind.u64.wrap (Int.tdiv a0_1 (IntKind.u64.wrap (a1)))) = 0 then (none) else ((psalteryref03_Clamp.f (wrap64 (IntKind.u64.wrap (Int.tdiv a0_0 (IntKind.u64.wrap (Int.tdiv a0_1 (IntKind.u64.wrap (a1))))))) 0 (wrap64 (a1 - 1))).bind fun t352 => (some t352)))) = some r := h
 clear h
 by_cases c3 : (IntKind.u64.wrap (a1)) = 0
 ·
  rw [if_pos c3] at H
  exact absurd H (by simp)
 ·
  rw [if_neg c3] at H
  have c3b0 : ((IntKind.u64.wrap (a1)) == 0) = false := beq_eq_false_iff_ne.mpr c3
  have c3b1 : ((IntKind.u64.wrap (a1)) != 0) = true := bne_iff_ne.mpr c3
  by_cases c4 : (IntKind.u64.wrap (Int.tdiv a0_1 (IntKind.u64.wrap (a1)))) = 0
  ·
   rw [if_pos c4] at H
   exact absurd H (by simp)
  ·
   rw [if_neg c4] at H
   have c4b0 : ((IntKind.u64.wrap (Int.tdiv a0_1 (IntKind.u64.wrap (a1)))) == 0) = false := beq_eq_false_iff_ne.mpr c4
   have c4b1 : ((IntKind.u64.wrap (Int.tdiv a0_1 (IntKind.u64.wrap (a1)))) != 0) = true := bne_iff_ne.mpr c4
   replace H := Option.bind_eq_some_iff.mp H
   obtain ⟨t352, A50, H⟩ := H
   replace H : (some t352) = some r := H
   have A5 := zm A50
   clear A50
   obtain rfl := Option.some.inj H
   go_enter Try.func33, Try.ntmps33
   go_wp2_with (first | ((with_reducible refine gate_dst (N := 2) rfl ?_); refine box_event ?hg (N := 2) ?hd (cs := #[.int .u64 a0_0, .int .u64 a0_1, .slice A0_2 l0_2.length c0_2, .int .i64 a0_3]) (t := 46) ?hr ?_; (case hd => rfl); (case hg => rfl); (case hr => first | (go_simp; done) | (go_simp; rfl)); intro gb351 hg w6 hbox hb; have n0_ := zm (zJ (by repeat (first | (with_reducible first | exact HB.out | apply ze | apply zd | apply zf) | exact HB.out)) hb); have n1_ := zm (hbox); have n2_ := zm ((by rw [hg]; exact (zE (by repeat (first | (with_reducible first | exact HB.out | apply ze | apply zd | apply zf) | exact HB.out))) : w.heap.size ≤ gb351)); have n3_ := zm ((by rw [hg]; exact (zE (by repeat (first | (with_reducible first | exact HB.out | apply ze | apply zd | apply zf) | exact HB.out))) : w.heap.size ≤ gb351)); clear HB; have HB := n0_; have BK351 := n1_; have GW351 := n2_; have GE351 := n3_; clear n0_ n1_ n2_ n3_; clear hb hbox hg; have hcz7_0 : w6.cell? ⟨gb351, 0, none⟩ = some (.int .u64 a0_0) := (zs BK351.out 0).trans rfl; have hcz7_1 : w6.cell? ⟨gb351, 1, none⟩ = some (.int .u64 a0_1) := (zs BK351.out 1).trans rfl; have hcz7_2 : w6.cell? ⟨gb351, 2, none⟩ = some (.slice A0_2 l0_2.length c0_2) := (zs BK351.out 2).trans rfl; have hcz7_3 : w6.cell? ⟨gb351, 3, none⟩ = some (.int .i64 a0_3) := (zs BK351.out 3).trans rfl; have hfz7_0 := zx BK351.out 0; have hfz7_1 := zx BK351.out 1; have hfz7_2 := zx BK351.out 2; have hfz7_3 := zx BK351.out 3) | (go_at_call 62; (with_reducible refine (psalteryref03_Clamp.calls (wrap64 (IntKind.u64.wrap (Int.tdiv a0_0 (IntKind.u64.wrap (Int.tdiv a0_1 (IntKind.u64.wrap (a1))))))) 0 (wrap64 (a1 - 1)) t352 _ A5.out).mono ?_); rintro e w' ⟨rfl, ⟨nd, rfl⟩⟩; (try first | exact ⟨rfl, _, World.drewN_drewN _ _ _⟩ | exact ⟨rfl, _, Eq.trans (World.drewN_drewN _ _ _) (congrArg (World.drewN _) (Nat.add_assoc _ _ _))⟩)))
   repeat (go_quiet (first | ((with_reducible refine gate_dst (N := 2) rfl ?_); refine box_event ?hg (N := 2) ?hd (cs := #[.int .u64 a0_0, .int .u64 a0_1, .slice A0_2 l0_2.length c0_2, .int .i64 a0_3]) (t := 46) ?hr ?_; (case hd => rfl); (case hg => rfl); (case hr => first | (go_simp; done) | (go_simp; rfl)); intro gb351 hg w6 hbox hb; have n0_ := zm (zJ (by repeat (first | (with_reducible first | exact HB.out | apply ze | apply zd | apply zf) | exact HB.out)) hb); have n1_ := zm (hbox); have n2_ := zm ((by rw [hg]; exact (zE (by repeat (first | (with_reducible first | exact HB.out | apply ze | apply zd | apply zf) | exact HB.out))) : w.heap.size ≤ gb351)); have n3_ := zm ((by rw [hg]; exact (zE (by repeat (first | (with_reducible first | exact HB.out | apply ze | apply zd | apply zf) | exact HB.out))) : w.heap.size ≤ gb351)); clear HB; have HB := n0_; have BK351 := n1_; have GW351 := n2_; have GE351 := n3_; clear n0_ n1_ n2_ n3_; clear hb hbox hg; have hcz7_0 : w6.cell? ⟨gb351, 0, none⟩ = some (.int .u64 a0_0) := (zs BK351.out 0).trans rfl; have hcz7_1 : w6.cell? ⟨gb351, 1, none⟩ = some (.int .u64 a0_1) := (zs BK351.out 1).trans rfl; have hcz7_2 : w6.cell? ⟨gb351, 2, none⟩ = some (.slice A0_2 l0_2.length c0_2) := (zs BK351.out 2).trans rfl; have hcz7_3 : w6.cell? ⟨gb351, 3, none⟩ = some (.int .i64 a0_3) := (zs BK351.out 3).trans rfl; have hfz7_0 := zx BK351.out 0; have hfz7_1 := zx BK351.out 1; have hfz7_2 := zx BK351.out 2; have hfz7_3 := zx BK351.out 3) | (go_at_call 62; (with_reducible refine (psalteryref03_Clamp.calls (wrap64 (IntKind.u64.wrap (Int.tdiv a0_0 (IntKind.u64.wrap (Int.tdiv a0_1 (IntKind.u64.wrap (a1))))))) 0 (wrap64 (a1 - 1)) t352 _ A5.out).mono ?_); rintro e w' ⟨rfl, ⟨nd, rfl⟩⟩; (try first | exact ⟨rfl, _, World.drewN_drewN _ _ _⟩ | exact ⟨rfl, _, Eq.trans (World.drewN_drewN _ _ _) (congrArg (World.drewN _) (Nat.add_assoc _ _ _))⟩))); try go_wp2_with (first | ((with_reducible refine gate_dst (N := 2) rfl ?_); refine box_event ?hg (N := 2) ?hd (cs := #[.int .u64 a0_0, .int .u64 a0_1, .slice A0_2 l0_2.length c0_2, .int .i64 a0_3]) (t := 46) ?hr ?_; (case hd => rfl); (case hg => rfl); (case hr => first | (go_simp; done) | (go_simp; rfl)); intro gb351 hg w6 hbox hb; have n0_ := zm (zJ (by repeat (first | (with_reducible first | exact HB.out | apply ze | apply zd | apply zf) | exact HB.out)) hb); have n1_ := zm (hbox); have n2_ := zm ((by rw [hg]; exact (zE (by repeat (first | (with_reducible first | exact HB.out | apply ze | apply zd | apply zf) | exact HB.out))) : w.heap.size ≤ gb351)); have n3_ := zm ((by rw [hg]; exact (zE (by repeat (first | (with_reducible first | exact HB.out | apply ze | apply zd | apply zf) | exact HB.out))) : w.heap.size ≤ gb351)); clear HB; have HB := n0_; have BK351 := n1_; have GW351 := n2_; have GE351 := n3_; clear n0_ n1_ n2_ n3_; clear hb hbox hg; have hcz7_0 : w6.cell? ⟨gb351, 0, none⟩ = some (.int .u64 a0_0) := (zs BK351.out 0).trans rfl; have hcz7_1 : w6.cell? ⟨gb351, 1, none⟩ = some (.int .u64 a0_1) := (zs BK351.out 1).trans rfl; have hcz7_2 : w6.cell? ⟨gb351, 2, none⟩ = some (.slice A0_2 l0_2.length c0_2) := (zs BK351.out 2).trans rfl; have hcz7_3 : w6.cell? ⟨gb351, 3, none⟩ = some (.int .i64 a0_3) := (zs BK351.out 3).trans rfl; have hfz7_0 := zx BK351.out 0; have hfz7_1 := zx BK351.out 1; have hfz7_2 := zx BK351.out 2; have hfz7_3 := zx BK351.out 3) | (go_at_call 62; (with_reducible refine (psalteryref03_Clamp.calls (wrap64 (IntKind.u64.wrap (Int.tdiv a0_0 (IntKind.u64.wrap (Int.tdiv a0_1 (IntKind.u64.wrap (a1))))))) 0 (wrap64 (a1 - 1)) t352 _ A5.out).mono ?_); rintro e w' ⟨rfl, ⟨nd, rfl⟩⟩; (try first | exact ⟨rfl, _, World.drewN_drewN _ _ _⟩ | exact ⟨rfl, _, Eq.trans (World.drewN_drewN _ _ _) (congrArg (World.drewN _) (Nat.add_assoc _ _ _))⟩))))
   go_ret
   exact ⟨by first | rfl | (simp [errW_none, errW_some] <;> rfl) | (simp [*, errW_none, errW_some] <;> rfl), by repeat (first | (with_reducible first | exact HB.out | apply ze | apply zd | apply zf | refine zk ?_ GE351.out) | exact HB.out)⟩

end Go.Proofs.Ytkaoiblgfpphoaa.Prt

namespace Go.Proofs.Ytkaoiblgfpphoaa.Prt
open Go.RowKit Go.Proofs.YtkaoiblgfpphoaaW.PrintWords Go.Proofs.YtkaoiblgfpphoaaW.PrintLast Go.Proofs.YtkaoiblgfpphoaaW.PrintMore
attribute [local go_sem] max2_int min2_int max_two min_two max_three min_three max_four min_four   -- for this text's walks alone
set_option linter.unusedVariables false
set_option linter.unusedSimpArgs false

/-! ### psalteryref05_part: function 55 -/
def psalteryref05_part.f (a0 : Int) (a1 : Int) (a2 : Int) (a3 : Int) : Option (Int × Int) := if (IntKind.u64.wrap (a3)) = 0 then (none) else (if a2 = a3 then (some (IntKind.u64.wrap (a0 - (IntKind.u64.wrap ((IntKind.u64.wrap (Int.tdiv a0 (IntKind.u64.wrap (a3)))) * (IntKind.u64.wrap (a1))))), IntKind.u64.wrap ((IntKind.u64.wrap (Int.tdiv a0 (IntKind.u64.wrap (a3)))) * (IntKind.u64.wrap (a1))))) else (some (IntKind.u64.wrap ((IntKind.u64.wrap (Int.tdiv a0 (IntKind.u64.wrap (a3)))) * (IntKind.u64.wrap (wrap64 (a2 - a1)))), IntKind.u64.wrap ((IntKind.u64.wrap (Int.tdiv a0 (IntKind.u64.wrap (a3)))) * (IntKind.u64.wrap (a1))))))
set_option maxHeartbeats 8000000 in
set_option maxRecDepth 100000 in
theorem psalteryref05_part.calls (a0 : Int) (a1 : Int) (a2 : Int) (a3 : Int) (r1 : Int) (r2 : Int) (w : World) (h : psalteryref05_part.f a0 a1 a2 a3 = some (r1, r2)) :
  Calls Try.prog 55 #[.int .u64 a0, .int .i64 a1, .int .i64 a2, .int .i64 a3] w fun e w' => e = .returned (.tuple #[.int .u64 r1, .int .u64 r2]) ∧ Drawn0 w w' := by
 have H : (if (IntKind.u64.wrap (a3)) = 0 then (none) else (if a2 = a3 then (some (IntKind.u64.wrap (a0 - (IntKind.u64.wrap ((IntKind.u64.wrap (Int.tdiv a0 (IntKind.u64.wrap (a3)))) * (IntKind.u64.wrap (a1))))), IntKind.u64.wrap ((IntKind.u64.wrap (Int.tdiv a0 (IntKind.u64.wrap (a3)))) * (IntKind.u64.wrap (a1))))) else (some (IntKind.u64.wrap ((IntKind.u64.wrap (Int.tdiv a0 (IntKind.u64.wrap (a3)))) * (IntKind.u64.wrap (wrap64 (a2 - a1)))), IntKind.u64.wrap ((IntKind.u64.wrap (Int.tdiv a0 (IntKind.u64.wrap (a3)))) * (IntKind.u64.wrap (a1))))))) = some (r1, r2) := h
 clear h
 by_cases c5 : (IntKind.u64.wrap (a3)) = 0
 ·
  rw [if_pos c5] at H
  exact absurd H (by simp)
 ·
  rw [if_neg c5] at H
  have c5b0 : ((IntKind.u64.wrap (a3)) == 0) = false := beq_eq_false_iff_ne.mpr c5
  have c5b1 : ((IntKind.u64.wrap (a3)) != 0) = true := bne_iff_ne.mpr c5
  by_cases c6 : a2 = a3
  ·
   rw [if_pos c6] at H
   have c6b0 : (a2 == a3) = true := beq_iff_eq.mpr c6
   have c6b1 : (a2 != a3) = false := bne_eq_false_iff_eq.mpr c6
   clear c6
   simp only [Option.some.injEq, Prod.mk.injEq] at H
   obtain ⟨rfl, rfl⟩ := H
   go_enter Try.func55, Try.ntmps55
   go_wp2
   go_ret2
   exact ⟨by first | rfl | (simp; done) | (simp [*]; done), by repeat (first | exact Drawn0.refl _ | apply Drawn0.step)⟩
  ·
   rw [if_neg c6] at H
   have c6b0 : (a2 == a3) = false := beq_eq_false_iff_ne.mpr c6
   have c6b1 : (a2 != a3) = true := bne_iff_ne.mpr c6
   simp only [Option.some.injEq, Prod.mk.injEq] at H
   obtain ⟨rfl, rfl⟩ := H
   go_enter Try.func55, Try.ntmps55
   go_wp2
   go_ret2
   exact ⟨by first | rfl | (simp; done) | (simp [*]; done), by repeat (first | exact Drawn0.refl _ | apply Drawn0.step)⟩

end Go.Proofs.Ytkaoiblgfpphoaa.Prt
