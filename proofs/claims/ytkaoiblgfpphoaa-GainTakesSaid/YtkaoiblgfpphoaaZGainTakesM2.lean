-- Functions of the program and of the document as plain Lean, each with the proof that the code comes to it. Written by a program of this session (wip/tools/myprint.py, pack.py) over the kit's printer; Lean checks it.
import Derived.Test.YtkaoiblgfpphoaaZGainTakesPrt0
import Derived.Test.YtkaoiblgfpphoaaZGainTakesM1
namespace Go.Proofs.Ytkaoiblgfpphoaa.Prt
open Go.RowKit Go.Proofs.YtkaoiblgfpphoaaW.PrintWords Go.Proofs.YtkaoiblgfpphoaaW.PrintLast Go.Proofs.YtkaoiblgfpphoaaW.PrintMore
attribute [local go_sem] max2_int min2_int max_two min_two max_three min_three max_four min_four   -- for this text's walks alone
set_option linter.unusedVariables false
set_option linter.unusedSimpArgs false

/-! ### gain_take: function 65 -/
def gain_take.f (k : Nat) (a0_0 : Int) (a0_1 : Int) (l0_2 : List Int) (a0_3 : Int) (a1 : Int) (a2 : Bool) : Option (Int × Int × List Int × Int × Int) := if a2 = true then ((coder_TakeNum.f k a0_0 a0_1 l0_2 a0_3 45).bind fun bt712 => (some (bt712.1, bt712.2.1, bt712.2.2.1, bt712.2.2.2.1, wrap64 (bt712.2.2.2.2.1)))) else ((coder_Get.f a0_0 a0_1 l0_2 a0_3 8).bind fun bt721 => ((coder_Take.f k a0_0 a0_1 l0_2 a0_3 bt721.1 (wrap64 (bt721.1 + 1)) 8).bind fun bt723 => (if bt721.1 = 7 then ((coder_TakeNum.f k bt723.1 bt723.2.1 bt723.2.2.1 bt723.2.2.2.1 45).bind fun bt730 => (some (bt730.1, bt730.2.1, bt730.2.2.1, bt730.2.2.2.1, wrap64 (bt730.2.2.2.2.1)))) else (some (bt723.1, bt723.2.1, bt723.2.2.1, bt723.2.2.2.1, mx 0 (mn (wrap64 ((wrap64 (a1 + bt721.1)) - 3)) 44))))))
theorem gain_take.mono : ∀ a0 a1 a2 a3 a4 a5 k, LeO (gain_take.f k a0 a1 a2 a3 a4 a5) (gain_take.f (k + 1) a0 a1 a2 a3 a4 a5) := by
 intro a0 a1 a2 a3 a4 a5 k
 unfold gain_take.f
 repeat' first
   | (with_reducible exact coder_Take.mono _ _ _ _ _ _ _ _)
   | (with_reducible exact coder_TakeNum.mono _ _ _ _ _ _)
   | (with_reducible exact LeO.refl _)
   | (with_reducible exact LeO.none _)
   | (with_reducible refine LeO.ite ?_ ?_)
   | (with_reducible refine LeO.bind ?_ (fun _ => ?_))
   | exact coder_Take.mono _ _ _ _ _ _ _ _
   | exact coder_TakeNum.mono _ _ _ _ _ _
   | exact LeO.none _
   | refine LeO.ite ?_ ?_
   | refine LeO.bind ?_ (fun _ => ?_)
set_option maxHeartbeats 8000000 in
set_option maxRecDepth 100000 in
theorem gain_take.calls (k : Nat) (a0_0 : Int) (a0_1 : Int) (P0_2_ : Nat → Prop) (A0_2 : Option Addr) (c0_2 : Nat) (l0_2 : List Int) (a0_3 : Int) (a1 : Int) (a2 : Bool) (r1 : Int) (r2 : Int) (r3 : List Int) (r4 : Int) (r5 : Int) (w : World) (hs0_2 : Kd.V (Kd.int .u8) 5 w w.heap.size (fun k_ => P0_2_ k_) (.slice A0_2 l0_2.length c0_2) l0_2) (h : gain_take.f k a0_0 a0_1 l0_2 a0_3 a1 a2 = some (r1, r2, r3, r4, r5)) :
  Calls Try.prog 65 #[.agg #[.int .u64 a0_0, .int .u32 a0_1, .slice A0_2 l0_2.length c0_2, .int .i64 a0_3], .int .i64 a1, .bool a2] w fun e w' => ∃ v2_ : Value, e = .returned (.tuple #[.agg #[.int .u64 r1, .int .u32 r2, v2_, .int .i64 r4], .int .i64 r5]) ∧ Kd.V (Kd.int .u8) 5 w' w.heap.size (fun k_ => (P0_2_ k_ ∨ w.heap.size ≤ k_)) v2_ r3 ∧ Below w.heap.size w w' := by
 have hu43 := Try.underlying43
 have HO0_2 := zm (show Kd.V (Kd.int .u8) 5 w w.heap.size (fun k_ => (P0_2_ k_ ∨ w.heap.size ≤ k_)) (.slice A0_2 l0_2.length c0_2) l0_2 from zy hs0_2 (fun k_ hk => .inl hk))
 have HB := zm (Below.refl w.heap.size w)
 have H : (if a2 = true then ((coder_TakeNum.f k a0_0 a0_1 l0_2 a0_3 45).bind fun bt712 => (some (bt712.1, bt712.2.1, bt712.2.2.1, bt712.2.2.2.1, wrap64 (bt712.2.2.2.2.1)))) else ((coder_Get.f a0_0 a0_1 l0_2 a0_3 8).bind fun bt721 => ((coder_Take.f k a0_0 a0_1 l0_2 a0_3 bt721.1 (wrap64 (bt721.1 + 1)) 8).bind fun bt723 => (if bt721.1 = 7 then ((coder_TakeNum.f k bt723.1 bt723.2.1 bt723.2.2.1 bt723.2.2.2.1 45).bind fun bt730 => (some (bt730.1, bt730.2.1, bt730.2.2.1, bt730.2.2.2.1, wrap64 (bt730.2.2.2.2.1)))) else (some (bt723.1, bt723.2.1, bt723.2.2.1, bt723.2.2.2.1, mx 0 (mn (wrap64 ((wrap64 (a1 + bt721.1)) - 3)) 44))))))) = some (r1, r2, r3, r4, r5) := h
 clear h
 by_cases c4 : a2 = true
 ·
  subst c4
  have H1 : ((coder_TakeNum.f k a0_0 a0_1 l0_2 a0_3 45).bind fun bt712 => (some (bt712.1, bt712.2.1, bt712.2.2.1, bt712.2.2.2.1, wrap64 (bt712.2.2.2.2.1)))) = some (r1, r2, r3, r4, r5) := by rw [if_pos rfl] at H; exact H
  clear H
  have H := H1
  clear H1
  replace H := Option.bind_eq_some_iff.mp H
  obtain ⟨⟨t712, t713, t714, t717, t718, t719⟩, A50, H⟩ := H
  replace H : (some (t712, t713, t714, t717, wrap64 (t718))) = some (r1, r2, r3, r4, r5) := H
  have A5 := zm A50
  clear A50
  simp only [Option.some.injEq, Prod.mk.injEq] at H
  obtain ⟨rfl, rfl, rfl, rfl, rfl⟩ := H
  go_enter Try.func65, Try.ntmps65
  go_wp2_with (first | ((with_reducible refine gate_dst (N := 3) rfl ?_); refine box_event ?hg (N := 3) ?hd (cs := #[.int .u64 a0_0, .int .u32 a0_1, .slice A0_2 l0_2.length c0_2, .int .i64 a0_3]) (t := 43) ?hr ?_; (case hd => rfl); (case hg => rfl); (case hr => first | (go_simp; done) | (go_simp; rfl)); intro gb710 hg w6 hbox hb; have n0_ := zm (Kd.V_below (Kd.V_elderB (by (with_reducible repeat (first | apply zA | apply zB | apply zC)); exact HO0_2.out) gb710 (Nat.le_of_eq hg.symm)) hb); have n1_ := zm (zJ (by repeat (first | (with_reducible first | exact HB.out | apply ze | apply zd | apply zf) | exact HB.out)) hb); have n2_ := zm (hbox); have n3_ := zm ((by rw [hg]; exact (zE (by repeat (first | (with_reducible first | exact HB.out | apply ze | apply zd | apply zf) | exact HB.out))) : w.heap.size ≤ gb710)); have n4_ := zm ((by rw [hg]; exact (zE (by repeat (first | (with_reducible first | exact HB.out | apply ze | apply zd | apply zf) | exact HB.out))) : w.heap.size ≤ gb710)); clear HO0_2; clear HB; have HO0_2 := n0_; have HB := n1_; have BK710 := n2_; have GW710 := n3_; have GE710 := n4_; clear n0_ n1_ n2_ n3_ n4_; clear hb hbox hg) | ((with_reducible refine gate_dst (N := 6) rfl ?_); refine box_event ?hg (N := 6) ?hd (cs := #[.int .u64 0, .int .u32 0, .slice none 0 0, .int .i64 0]) (t := 43) ?hr ?_; (case hd => rfl); (case hg => rfl); (case hr => first | (go_simp; done) | (go_simp; rfl)); intro gb711 hg w7 hbox hb; have n0_ := zm (Kd.V_below (Kd.V_elderB (by (with_reducible repeat (first | apply zA | apply zB | apply zC)); exact HO0_2.out) gb711 (Nat.le_of_eq hg.symm)) hb); have n1_ := zm (zF (g := gb710) (o := .cells #[.int .u64 a0_0, .int .u32 a0_1, .slice A0_2 l0_2.length c0_2, .int .i64 a0_3] 43 (0, 0)) (by (with_reducible repeat (first | refine zh ?_ _ | refine zj ?_ | refine zi ?_ _)); exact BK710.out) hb); have n2_ := zm (zJ (by repeat (first | (with_reducible first | exact HB.out | apply ze | apply zd | apply zf | refine zk ?_ GE710.out) | exact HB.out)) hb); have n3_ := zm (hbox); have n4_ := zm ((by rw [hg]; exact (zE (by repeat (first | (with_reducible first | exact HB.out | apply ze | apply zd | apply zf | refine zk ?_ GE710.out) | exact HB.out))) : w.heap.size ≤ gb711)); have n5_ := zm ((by rw [hg]; exact (zE (by repeat (first | (with_reducible first | exact HB.out | apply ze | apply zd | apply zf | refine zk ?_ GE710.out) | exact HB.out))) : w.heap.size ≤ gb711)); have n6_ := zm ((by rw [hg]; exact zn (zD (g := gb710) (o := .cells #[.int .u64 a0_0, .int .u32 a0_1, .slice A0_2 l0_2.length c0_2, .int .i64 a0_3] 43 (0, 0)) (by (with_reducible repeat (first | refine zh ?_ _ | refine zj ?_ | refine zi ?_ _)); exact BK710.out)) : gb710 ≠ gb711)); have n7_ := zm ((by rw [hg]; exact zg (zD (g := gb710) (o := .cells #[.int .u64 a0_0, .int .u32 a0_1, .slice A0_2 l0_2.length c0_2, .int .i64 a0_3] 43 (0, 0)) (by (with_reducible repeat (first | refine zh ?_ _ | refine zj ?_ | refine zi ?_ _)); exact BK710.out)) : gb711 ≠ gb710)); clear HO0_2; clear BK710; clear HB; have HO0_2 := n0_; have BK710 := n1_; have HB := n2_; have BK711 := n3_; have GW711 := n4_; have GE711 := n5_; have NB710_711 := n6_; have NB711_710 := n7_; clear n0_ n1_ n2_ n3_ n4_ n5_ n6_ n7_; clear hb hbox hg; have hnb8 := NB710_711.out; have hnc8 := NB711_710.out; have hcz9_0 : w7.cell? ⟨gb710, 0, none⟩ = some (.int .u64 a0_0) := (zs BK710.out 0).trans rfl; have hcz9_1 : w7.cell? ⟨gb710, 1, none⟩ = some (.int .u32 a0_1) := (zs BK710.out 1).trans rfl; have hcz9_2 : w7.cell? ⟨gb710, 2, none⟩ = some (.slice A0_2 l0_2.length c0_2) := (zs BK710.out 2).trans rfl; have hcz9_3 : w7.cell? ⟨gb710, 3, none⟩ = some (.int .i64 a0_3) := (zs BK710.out 3).trans rfl; have hfz9_0 := zx BK710.out 0; have hfz9_1 := zx BK710.out 1; have hfz9_2 := zx BK710.out 2; have hfz9_3 := zx BK710.out 3) | ((with_reducible refine gate_callee (f := 39) rfl ?_); refine goesL_ (some 39) rfl rfl Try.func39 (by kernel_rfl) rfl #[.agg #[.int .u64 a0_0, .int .u32 a0_1, .slice A0_2 l0_2.length c0_2, .int .i64 a0_3], .int .u64 45] rfl (by (try simp only [List.map_toArray, List.map_cons, List.map_nil]); first | done | rfl | (simp only [List.length_drop, List.length_take]; rfl)) ?_; (with_reducible refine (coder_TakeNum.calls k a0_0 a0_1 (fun k_ => (((P0_2_ k_ ∨ w.heap.size ≤ k_) ∧ k_ ≠ gb710) ∧ k_ ≠ gb711)) _ _ l0_2 a0_3 45 t712 t713 t714 t717 t718 t719 _ ?side1 A5.out).mono ?_); (case side1 => exact HO0_2.out); rintro e w10 ⟨v715, rfl, ho0, hb⟩; refine ⟨_, rfl, ?_⟩; have n0_ := zm (Kd.V_below (by (with_reducible repeat (first | apply zA | apply zB | apply zC)); exact HO0_2.out) hb); have n1_ := zm (Kd.V_lower (zy (ok' := fun k_ => (P0_2_ k_ ∨ w.heap.size ≤ k_) ∧ k_ ≠ gb710 ∧ k_ ≠ gb711) ho0 (fun k_ hk_ => ⟨Or.elim hk_ (fun hs_ => hs_.1.1) (fun hn_ => (.inr (Nat.le_trans (zE (by repeat (first | (with_reducible first | exact HB.out | apply ze | apply zd | apply zf | refine zk ?_ GE710.out | refine zk ?_ GE711.out) | exact HB.out))) hn_))), Or.elim hk_ (fun hs_ => hs_.1.2) (fun hn_ => (Kd.freshB (g := gb710) (o := .cells #[.int .u64 a0_0, .int .u32 a0_1, .slice A0_2 l0_2.length c0_2, .int .i64 a0_3] 43 (0, 0)) (by (with_reducible repeat (first | refine zh ?_ _ | refine zj ?_ | refine zi ?_ _)); exact BK710.out) k_ hn_)), Or.elim hk_ (fun hs_ => hs_.2) (fun hn_ => (Kd.freshB (g := gb711) (o := .cells #[.int .u64 0, .int .u32 0, .slice none 0 0, .int .i64 0] 43 (0, 0)) (by (with_reducible repeat (first | refine zh ?_ _ | refine zj ?_ | refine zi ?_ _)); exact BK711.out) k_ hn_))⟩)) (zE (by repeat (first | (with_reducible first | exact HB.out | apply ze | apply zd | apply zf | refine zk ?_ GE710.out | refine zk ?_ GE711.out) | exact HB.out)))); have n2_ := zm (zF (g := gb710) (o := .cells #[.int .u64 a0_0, .int .u32 a0_1, .slice A0_2 l0_2.length c0_2, .int .i64 a0_3] 43 (0, 0)) (by (with_reducible repeat (first | refine zh ?_ _ | refine zj ?_ | refine zi ?_ _)); exact BK710.out) hb); have n3_ := zm (zF (g := gb711) (o := .cells #[.int .u64 0, .int .u32 0, .slice none 0 0, .int .i64 0] 43 (0, 0)) (by (with_reducible repeat (first | refine zh ?_ _ | refine zj ?_ | refine zi ?_ _)); exact BK711.out) hb); have n4_ := zm (zJ (by repeat (first | (with_reducible first | exact HB.out | apply ze | apply zd | apply zf | refine zk ?_ GE710.out | refine zk ?_ GE711.out) | exact HB.out)) hb); clear HO0_2; clear BK710; clear BK711; clear HB; have HO0_2 := n0_; have HO716 := n1_; have BK710 := n2_; have BK711 := n3_; have HB := n4_; clear n0_ n1_ n2_ n3_ n4_; (try clear hb); (try clear hb2); (try clear hk); (try clear hi); (try clear ho0)) | ((with_reducible refine gate_dst (N := 10) rfl ?_); refine box_event ?hg (N := 10) ?hd (cs := #[.int .u64 0, .int .u32 0, .slice none 0 0, .int .i64 0]) (t := 43) ?hr ?_; (case hd => rfl); (case hg => rfl); (case hr => first | (go_simp; done) | (go_simp; rfl)); intro gb720 hg w11 hbox hb; have n0_ := zm (Kd.V_below (Kd.V_elderB (by (with_reducible repeat (first | apply zA | apply zB | apply zC)); exact HO0_2.out) gb720 (Nat.le_of_eq hg.symm)) hb); have n1_ := zm (Kd.V_below (Kd.V_elderB (by (with_reducible repeat (first | apply zA | apply zB | apply zC)); exact HO716.out) gb720 (Nat.le_of_eq hg.symm)) hb); have n2_ := zm (zF (g := gb710) (o := .cells #[.int .u64 a0_0, .int .u32 a0_1, .slice A0_2 l0_2.length c0_2, .int .i64 a0_3] 43 (0, 0)) (by (with_reducible repeat (first | refine zh ?_ _ | refine zj ?_ | refine zi ?_ _)); exact BK710.out) hb); have n3_ := zm (zF (g := gb711) (o := .cells #[.int .u64 0, .int .u32 0, .slice none 0 0, .int .i64 0] 43 (0, 0)) (by (with_reducible repeat (first | refine zh ?_ _ | refine zj ?_ | refine zi ?_ _)); exact BK711.out) hb); have n4_ := zm (zJ (by repeat (first | (with_reducible first | exact HB.out | apply ze | apply zd | apply zf | refine zk ?_ GE710.out | refine zk ?_ GE711.out) | exact HB.out)) hb); have n5_ := zm (hbox); have n6_ := zm ((by rw [hg]; exact (zE (by repeat (first | (with_reducible first | exact HB.out | apply ze | apply zd | apply zf | refine zk ?_ GE710.out | refine zk ?_ GE711.out) | exact HB.out))) : w.heap.size ≤ gb720)); have n7_ := zm ((by rw [hg]; exact (zE (by repeat (first | (with_reducible first | exact HB.out | apply ze | apply zd | apply zf | refine zk ?_ GE710.out | refine zk ?_ GE711.out) | exact HB.out))) : w.heap.size ≤ gb720)); have n8_ := zm ((by rw [hg]; exact zn (zD (g := gb710) (o := .cells #[.int .u64 a0_0, .int .u32 a0_1, .slice A0_2 l0_2.length c0_2, .int .i64 a0_3] 43 (0, 0)) (by (with_reducible repeat (first | refine zh ?_ _ | refine zj ?_ | refine zi ?_ _)); exact BK710.out)) : gb710 ≠ gb720)); have n9_ := zm ((by rw [hg]; exact zg (zD (g := gb710) (o := .cells #[.int .u64 a0_0, .int .u32 a0_1, .slice A0_2 l0_2.length c0_2, .int .i64 a0_3] 43 (0, 0)) (by (with_reducible repeat (first | refine zh ?_ _ | refine zj ?_ | refine zi ?_ _)); exact BK710.out)) : gb720 ≠ gb710)); have n10_ := zm ((by rw [hg]; exact zn (zD (g := gb711) (o := .cells #[.int .u64 0, .int .u32 0, .slice none 0 0, .int .i64 0] 43 (0, 0)) (by (with_reducible repeat (first | refine zh ?_ _ | refine zj ?_ | refine zi ?_ _)); exact BK711.out)) : gb711 ≠ gb720)); have n11_ := zm ((by rw [hg]; exact zg (zD (g := gb711) (o := .cells #[.int .u64 0, .int .u32 0, .slice none 0 0, .int .i64 0] 43 (0, 0)) (by (with_reducible repeat (first | refine zh ?_ _ | refine zj ?_ | refine zi ?_ _)); exact BK711.out)) : gb720 ≠ gb711)); clear HO0_2; clear HO716; clear BK710; clear BK711; clear HB; have HO0_2 := n0_; have HO716 := n1_; have BK710 := n2_; have BK711 := n3_; have HB := n4_; have BK720 := n5_; have GW720 := n6_; have GE720 := n7_; have NB710_720 := n8_; have NB720_710 := n9_; have NB711_720 := n10_; have NB720_711 := n11_; clear n0_ n1_ n2_ n3_ n4_ n5_ n6_ n7_ n8_ n9_ n10_ n11_; clear hb hbox hg; have hnb12 := NB720_710.out; have hnc12 := NB710_720.out; have hnb13 := NB720_711.out; have hnc13 := NB711_720.out; have hcz14_0 : w11.cell? ⟨gb720, 0, none⟩ = some (.int .u64 0) := (zs BK720.out 0).trans rfl; have hcz14_1 : w11.cell? ⟨gb720, 1, none⟩ = some (.int .u32 0) := (zs BK720.out 1).trans rfl; have hcz14_2 : w11.cell? ⟨gb720, 2, none⟩ = some (.slice none 0 0) := (zs BK720.out 2).trans rfl; have hcz14_3 : w11.cell? ⟨gb720, 3, none⟩ = some (.int .i64 0) := (zs BK720.out 3).trans rfl; have hfz14_0 := zx BK720.out 0; have hfz14_1 := zx BK720.out 1; have hfz14_2 := zx BK720.out 2; have hfz14_3 := zx BK720.out 3; obtain ⟨Ao15, co15, eo15⟩ := Kd.V_slice HO716.out; subst eo15; have hcz16_0 : w11.cell? ⟨gb711, 0, none⟩ = some (.int .u64 0) := (zs BK711.out 0).trans rfl; have hcz16_1 : w11.cell? ⟨gb711, 1, none⟩ = some (.int .u32 0) := (zs BK711.out 1).trans rfl; have hcz16_2 : w11.cell? ⟨gb711, 2, none⟩ = some (.slice none 0 0) := (zs BK711.out 2).trans rfl; have hcz16_3 : w11.cell? ⟨gb711, 3, none⟩ = some (.int .i64 0) := (zs BK711.out 3).trans rfl; have hfz16_0 := zx BK711.out 0; have hfz16_1 := zx BK711.out 1; have hfz16_2 := zx BK711.out 2; have hfz16_3 := zx BK711.out 3))
  refine bodyPost_ret (results_ct rfl _ _ gb711 43 #[.int .u64 t712, .int .u32 t713, .slice Ao15 t714.length co15, .int .i64 t717] (0, 0) _ rfl (by (with_reducible repeat (first | refine zh ?_ _ | refine zj ?_ | refine zi ?_ _)); refine zw (cs := #[.int .u64 t712, .int .u32 t713, .slice Ao15 t714.length co15, .int .i64 0]) ?_ 3 _ rfl; (with_reducible repeat (first | refine zh ?_ _ | refine zj ?_ | refine zi ?_ _)); refine zw (cs := #[.int .u64 t712, .int .u32 t713, .slice none 0 0, .int .i64 0]) ?_ 2 _ rfl; (with_reducible repeat (first | refine zh ?_ _ | refine zj ?_ | refine zi ?_ _)); refine zw (cs := #[.int .u64 t712, .int .u32 0, .slice none 0 0, .int .i64 0]) ?_ 1 _ rfl; (with_reducible repeat (first | refine zh ?_ _ | refine zj ?_ | refine zi ?_ _)); refine zw (cs := #[.int .u64 0, .int .u32 0, .slice none 0 0, .int .i64 0]) ?_ 0 _ rfl; (with_reducible repeat (first | refine zh ?_ _ | refine zj ?_ | refine zi ?_ _)); refine zv ?_ NB711_720.out _; (with_reducible repeat (first | refine zh ?_ _ | refine zj ?_ | refine zi ?_ _)); refine zv ?_ NB711_720.out _; (with_reducible repeat (first | refine zh ?_ _ | refine zj ?_ | refine zi ?_ _)); refine zv ?_ NB711_720.out _; (with_reducible repeat (first | refine zh ?_ _ | refine zj ?_ | refine zi ?_ _)); refine zv ?_ NB711_720.out _; (with_reducible repeat (first | refine zh ?_ _ | refine zj ?_ | refine zi ?_ _)); exact BK711.out) Try.underlying43 rfl (by kernel_rfl)) rfl ?_
  exact ⟨_, by first | rfl | (simp [errW_none, errW_some] <;> rfl) | (simp [*, errW_none, errW_some] <;> rfl), by (with_reducible repeat (first | apply zA | apply zB | apply zC)); exact zy (zI (p := ⟨gb711, 3, none⟩) (zI (p := ⟨gb711, 2, none⟩) (zI (p := ⟨gb711, 1, none⟩) (zI (p := ⟨gb711, 0, none⟩) (zI (p := ⟨gb720, 3, none⟩) (zI (p := ⟨gb720, 2, none⟩) (zI (p := ⟨gb720, 1, none⟩) (zI (p := ⟨gb720, 0, none⟩) (zy (zy HO716.out (fun k_ hk => (⟨hk, hk.2⟩ : _ ∧ k_ ≠ gb720))) (fun k_ hk => (⟨hk, hk.1.1.2.2⟩ : _ ∧ k_ ≠ gb711))) (fun _ hk => hk.1.2) (.int .u64 t712)) (fun _ hk => hk.1.2) (.int .u32 t713)) (fun _ hk => hk.1.2) (.slice Ao15 t714.length co15)) (fun _ hk => hk.1.2) (.int .i64 t717)) (fun _ hk => hk.2) (.int .u64 t712)) (fun _ hk => hk.2) (.int .u32 t713)) (fun _ hk => hk.2) (.slice Ao15 t714.length co15)) (fun _ hk => hk.2) (.int .i64 t717)) (fun _ hk => hk.1.1.1.1), by repeat (first | (with_reducible first | exact HB.out | apply ze | apply zd | apply zf | refine zk ?_ GE710.out | refine zk ?_ GE711.out | refine zk ?_ GE720.out) | exact HB.out)⟩
 ·
  replace c4 := Bool.eq_false_iff.mpr c4
  subst c4
  have H1 : ((coder_Get.f a0_0 a0_1 l0_2 a0_3 8).bind fun bt721 => ((coder_Take.f k a0_0 a0_1 l0_2 a0_3 bt721.1 (wrap64 (bt721.1 + 1)) 8).bind fun bt723 => (if bt721.1 = 7 then ((coder_TakeNum.f k bt723.1 bt723.2.1 bt723.2.2.1 bt723.2.2.2.1 45).bind fun bt730 => (some (bt730.1, bt730.2.1, bt730.2.2.1, bt730.2.2.2.1, wrap64 (bt730.2.2.2.2.1)))) else (some (bt723.1, bt723.2.1, bt723.2.2.1, bt723.2.2.2.1, mx 0 (mn (wrap64 ((wrap64 (a1 + bt721.1)) - 3)) 44)))))) = some (r1, r2, r3, r4, r5) := by rw [if_neg (show ¬ (false = true) by decide)] at H; exact H
  clear H
  have H := H1
  clear H1
  replace H := Option.bind_eq_some_iff.mp H
  obtain ⟨⟨t721, t722⟩, A170, H⟩ := H
  replace H : ((coder_Take.f k a0_0 a0_1 l0_2 a0_3 t721 (wrap64 (t721 + 1)) 8).bind fun bt723 => (if t721 = 7 then ((coder_TakeNum.f k bt723.1 bt723.2.1 bt723.2.2.1 bt723.2.2.2.1 45).bind fun bt730 => (some (bt730.1, bt730.2.1, bt730.2.2.1, bt730.2.2.2.1, wrap64 (bt730.2.2.2.2.1)))) else (some (bt723.1, bt723.2.1, bt723.2.2.1, bt723.2.2.2.1, mx 0 (mn (wrap64 ((wrap64 (a1 + t721)) - 3)) 44))))) = some (r1, r2, r3, r4, r5) := H
  have A17 := zm A170
  clear A170
  replace H := Option.bind_eq_some_iff.mp H
  obtain ⟨⟨t723, t724, t725, t728, t729⟩, A180, H⟩ := H
  replace H : (if t721 = 7 then ((coder_TakeNum.f k t723 t724 t725 t728 45).bind fun bt730 => (some (bt730.1, bt730.2.1, bt730.2.2.1, bt730.2.2.2.1, wrap64 (bt730.2.2.2.2.1)))) else (some (t723, t724, t725, t728, mx 0 (mn (wrap64 ((wrap64 (a1 + t721)) - 3)) 44)))) = some (r1, r2, r3, r4, r5) := H
  have A18 := zm A180
  clear A180
  by_cases c19 : t721 = 7
  ·
   rw [if_pos c19] at H
   have c19b0 : (t721 == 7) = true := beq_iff_eq.mpr c19
   have c19b1 : (t721 != 7) = false := bne_eq_false_iff_eq.mpr c19
   clear c19
   replace H := Option.bind_eq_some_iff.mp H
   obtain ⟨⟨t730, t731, t732, t735, t736, t737⟩, A200, H⟩ := H
   replace H : (some (t730, t731, t732, t735, wrap64 (t736))) = some (r1, r2, r3, r4, r5) := H
   have A20 := zm A200
   clear A200
   simp only [Option.some.injEq, Prod.mk.injEq] at H
   obtain ⟨rfl, rfl, rfl, rfl, rfl⟩ := H
   go_enter Try.func65, Try.ntmps65
   go_wp2_with (first | ((with_reducible refine gate_dst (N := 3) rfl ?_); refine box_event ?hg (N := 3) ?hd (cs := #[.int .u64 a0_0, .int .u32 a0_1, .slice A0_2 l0_2.length c0_2, .int .i64 a0_3]) (t := 43) ?hr ?_; (case hd => rfl); (case hg => rfl); (case hr => first | (go_simp; done) | (go_simp; rfl)); intro gb710 hg w21 hbox hb; have n0_ := zm (Kd.V_below (Kd.V_elderB (by (with_reducible repeat (first | apply zA | apply zB | apply zC)); exact HO0_2.out) gb710 (Nat.le_of_eq hg.symm)) hb); have n1_ := zm (zJ (by repeat (first | (with_reducible first | exact HB.out | apply ze | apply zd | apply zf) | exact HB.out)) hb); have n2_ := zm (hbox); have n3_ := zm ((by rw [hg]; exact (zE (by repeat (first | (with_reducible first | exact HB.out | apply ze | apply zd | apply zf) | exact HB.out))) : w.heap.size ≤ gb710)); have n4_ := zm ((by rw [hg]; exact (zE (by repeat (first | (with_reducible first | exact HB.out | apply ze | apply zd | apply zf) | exact HB.out))) : w.heap.size ≤ gb710)); clear HO0_2; clear HB; have HO0_2 := n0_; have HB := n1_; have BK710 := n2_; have GW710 := n3_; have GE710 := n4_; clear n0_ n1_ n2_ n3_ n4_; clear hb hbox hg) | ((with_reducible refine gate_dst (N := 6) rfl ?_); refine box_event ?hg (N := 6) ?hd (cs := #[.int .u64 0, .int .u32 0, .slice none 0 0, .int .i64 0]) (t := 43) ?hr ?_; (case hd => rfl); (case hg => rfl); (case hr => first | (go_simp; done) | (go_simp; rfl)); intro gb711 hg w22 hbox hb; have n0_ := zm (Kd.V_below (Kd.V_elderB (by (with_reducible repeat (first | apply zA | apply zB | apply zC)); exact HO0_2.out) gb711 (Nat.le_of_eq hg.symm)) hb); have n1_ := zm (zF (g := gb710) (o := .cells #[.int .u64 a0_0, .int .u32 a0_1, .slice A0_2 l0_2.length c0_2, .int .i64 a0_3] 43 (0, 0)) (by (with_reducible repeat (first | refine zh ?_ _ | refine zj ?_ | refine zi ?_ _)); exact BK710.out) hb); have n2_ := zm (zJ (by repeat (first | (with_reducible first | exact HB.out | apply ze | apply zd | apply zf | refine zk ?_ GE710.out) | exact HB.out)) hb); have n3_ := zm (hbox); have n4_ := zm ((by rw [hg]; exact (zE (by repeat (first | (with_reducible first | exact HB.out | apply ze | apply zd | apply zf | refine zk ?_ GE710.out) | exact HB.out))) : w.heap.size ≤ gb711)); have n5_ := zm ((by rw [hg]; exact (zE (by repeat (first | (with_reducible first | exact HB.out | apply ze | apply zd | apply zf | refine zk ?_ GE710.out) | exact HB.out))) : w.heap.size ≤ gb711)); have n6_ := zm ((by rw [hg]; exact zn (zD (g := gb710) (o := .cells #[.int .u64 a0_0, .int .u32 a0_1, .slice A0_2 l0_2.length c0_2, .int .i64 a0_3] 43 (0, 0)) (by (with_reducible repeat (first | refine zh ?_ _ | refine zj ?_ | refine zi ?_ _)); exact BK710.out)) : gb710 ≠ gb711)); have n7_ := zm ((by rw [hg]; exact zg (zD (g := gb710) (o := .cells #[.int .u64 a0_0, .int .u32 a0_1, .slice A0_2 l0_2.length c0_2, .int .i64 a0_3] 43 (0, 0)) (by (with_reducible repeat (first | refine zh ?_ _ | refine zj ?_ | refine zi ?_ _)); exact BK710.out)) : gb711 ≠ gb710)); clear HO0_2; clear BK710; clear HB; have HO0_2 := n0_; have BK710 := n1_; have HB := n2_; have BK711 := n3_; have GW711 := n4_; have GE711 := n5_; have NB710_711 := n6_; have NB711_710 := n7_; clear n0_ n1_ n2_ n3_ n4_ n5_ n6_ n7_; clear hb hbox hg; have hnb23 := NB710_711.out; have hnc23 := NB711_710.out; have hcz24_0 : w22.cell? ⟨gb710, 0, none⟩ = some (.int .u64 a0_0) := (zs BK710.out 0).trans rfl; have hcz24_1 : w22.cell? ⟨gb710, 1, none⟩ = some (.int .u32 a0_1) := (zs BK710.out 1).trans rfl; have hcz24_2 : w22.cell? ⟨gb710, 2, none⟩ = some (.slice A0_2 l0_2.length c0_2) := (zs BK710.out 2).trans rfl; have hcz24_3 : w22.cell? ⟨gb710, 3, none⟩ = some (.int .i64 a0_3) := (zs BK710.out 3).trans rfl; have hfz24_0 := zx BK710.out 0; have hfz24_1 := zx BK710.out 1; have hfz24_2 := zx BK710.out 2; have hfz24_3 := zx BK710.out 3) | ((with_reducible refine gate_callee (f := 32) rfl ?_); refine goesL_ (some 17) rfl rfl Try.func32 (by kernel_rfl) rfl #[.agg #[.int .u64 a0_0, .int .u32 a0_1, .slice A0_2 l0_2.length c0_2, .int .i64 a0_3], .int .i64 8] rfl (by (try simp only [List.map_toArray, List.map_cons, List.map_nil]); first | done | rfl | (simp only [List.length_drop, List.length_take]; rfl)) ?_; (with_reducible refine (coder_Get.calls a0_0 a0_1 _ _ l0_2 a0_3 8 t721 t722 _ ?side1 ?side2 A17.out).mono ?_); (case side1 => repeat (first | exact (Kd.V_reads' HO0_2.out).2.2 | (with_reducible refine Kd.C_alloc ?_ _) | (with_reducible refine Kd.C_drewN ?_ _) | (with_reducible refine Kd.C_drew ?_))); (case side2 => exact (Kd.V_reads' HO0_2.out).2.1); rintro e w25 ⟨rfl, hb⟩; refine ⟨_, rfl, ?_⟩; have n0_ := zm (Kd.V_below (by (with_reducible repeat (first | apply zA | apply zB | apply zC)); exact HO0_2.out) hb); have n1_ := zm (zF (g := gb710) (o := .cells #[.int .u64 a0_0, .int .u32 a0_1, .slice A0_2 l0_2.length c0_2, .int .i64 a0_3] 43 (0, 0)) (by (with_reducible repeat (first | refine zh ?_ _ | refine zj ?_ | refine zi ?_ _)); exact BK710.out) hb); have n2_ := zm (zF (g := gb711) (o := .cells #[.int .u64 0, .int .u32 0, .slice none 0 0, .int .i64 0] 43 (0, 0)) (by (with_reducible repeat (first | refine zh ?_ _ | refine zj ?_ | refine zi ?_ _)); exact BK711.out) hb); have n3_ := zm (zJ (by repeat (first | (with_reducible first | exact HB.out | apply ze | apply zd | apply zf | refine zk ?_ GE710.out | refine zk ?_ GE711.out) | exact HB.out)) hb); clear HO0_2; clear BK710; clear BK711; clear HB; have HO0_2 := n0_; have BK710 := n1_; have BK711 := n2_; have HB := n3_; clear n0_ n1_ n2_ n3_; (try clear hb); (try clear hb2); (try clear hk); (try clear hi); have hcz26_0 : w25.cell? ⟨gb710, 0, none⟩ = some (.int .u64 a0_0) := (zs BK710.out 0).trans rfl; have hcz26_1 : w25.cell? ⟨gb710, 1, none⟩ = some (.int .u32 a0_1) := (zs BK710.out 1).trans rfl; have hcz26_2 : w25.cell? ⟨gb710, 2, none⟩ = some (.slice A0_2 l0_2.length c0_2) := (zs BK710.out 2).trans rfl; have hcz26_3 : w25.cell? ⟨gb710, 3, none⟩ = some (.int .i64 a0_3) := (zs BK710.out 3).trans rfl; have hfz26_0 := zx BK710.out 0; have hfz26_1 := zx BK710.out 1; have hfz26_2 := zx BK710.out 2; have hfz26_3 := zx BK710.out 3) | ((with_reducible refine gate_callee (f := 34) rfl ?_); refine goesL_ (some 25) rfl rfl Try.func34 (by kernel_rfl) rfl #[.agg #[.int .u64 a0_0, .int .u32 a0_1, .slice A0_2 l0_2.length c0_2, .int .i64 a0_3], .int .i64 t721, .int .i64 (wrap64 (t721 + 1)), .int .i64 8] rfl (by (try simp only [List.map_toArray, List.map_cons, List.map_nil]); first | done | rfl | (simp only [List.length_drop, List.length_take]; rfl)) ?_; (with_reducible refine (coder_Take.calls k a0_0 a0_1 (fun k_ => (((P0_2_ k_ ∨ w.heap.size ≤ k_) ∧ k_ ≠ gb710) ∧ k_ ≠ gb711)) _ _ l0_2 a0_3 t721 (wrap64 (t721 + 1)) 8 t723 t724 t725 t728 t729 _ ?side1 A18.out).mono ?_); (case side1 => exact HO0_2.out); rintro e w27 ⟨v726, rfl, ho0, hb⟩; refine ⟨_, rfl, ?_⟩; have n0_ := zm (Kd.V_below (by (with_reducible repeat (first | apply zA | apply zB | apply zC)); exact HO0_2.out) hb); have n1_ := zm (Kd.V_lower (zy (ok' := fun k_ => (P0_2_ k_ ∨ w.heap.size ≤ k_) ∧ k_ ≠ gb710 ∧ k_ ≠ gb711) ho0 (fun k_ hk_ => ⟨Or.elim hk_ (fun hs_ => hs_.1.1) (fun hn_ => (.inr (Nat.le_trans (zE (by repeat (first | (with_reducible first | exact HB.out | apply ze | apply zd | apply zf | refine zk ?_ GE710.out | refine zk ?_ GE711.out) | exact HB.out))) hn_))), Or.elim hk_ (fun hs_ => hs_.1.2) (fun hn_ => (Kd.freshB (g := gb710) (o := .cells #[.int .u64 a0_0, .int .u32 a0_1, .slice A0_2 l0_2.length c0_2, .int .i64 a0_3] 43 (0, 0)) (by (with_reducible repeat (first | refine zh ?_ _ | refine zj ?_ | refine zi ?_ _)); exact BK710.out) k_ hn_)), Or.elim hk_ (fun hs_ => hs_.2) (fun hn_ => (Kd.freshB (g := gb711) (o := .cells #[.int .u64 0, .int .u32 0, .slice none 0 0, .int .i64 0] 43 (0, 0)) (by (with_reducible repeat (first | refine zh ?_ _ | refine zj ?_ | refine zi ?_ _)); exact BK711.out) k_ hn_))⟩)) (zE (by repeat (first | (with_reducible first | exact HB.out | apply ze | apply zd | apply zf | refine zk ?_ GE710.out | refine zk ?_ GE711.out) | exact HB.out)))); have n2_ := zm (zF (g := gb710) (o := .cells #[.int .u64 a0_0, .int .u32 a0_1, .slice A0_2 l0_2.length c0_2, .int .i64 a0_3] 43 (0, 0)) (by (with_reducible repeat (first | refine zh ?_ _ | refine zj ?_ | refine zi ?_ _)); exact BK710.out) hb); have n3_ := zm (zF (g := gb711) (o := .cells #[.int .u64 0, .int .u32 0, .slice none 0 0, .int .i64 0] 43 (0, 0)) (by (with_reducible repeat (first | refine zh ?_ _ | refine zj ?_ | refine zi ?_ _)); exact BK711.out) hb); have n4_ := zm (zJ (by repeat (first | (with_reducible first | exact HB.out | apply ze | apply zd | apply zf | refine zk ?_ GE710.out | refine zk ?_ GE711.out) | exact HB.out)) hb); clear HO0_2; clear BK710; clear BK711; clear HB; have HO0_2 := n0_; have HO727 := n1_; have BK710 := n2_; have BK711 := n3_; have HB := n4_; clear n0_ n1_ n2_ n3_ n4_; (try clear hb); (try clear hb2); (try clear hk); (try clear hi); (try clear ho0); have hcz28_0 : w27.cell? ⟨gb710, 0, none⟩ = some (.int .u64 a0_0) := (zs BK710.out 0).trans rfl; have hcz28_1 : w27.cell? ⟨gb710, 1, none⟩ = some (.int .u32 a0_1) := (zs BK710.out 1).trans rfl; have hcz28_2 : w27.cell? ⟨gb710, 2, none⟩ = some (.slice A0_2 l0_2.length c0_2) := (zs BK710.out 2).trans rfl; have hcz28_3 : w27.cell? ⟨gb710, 3, none⟩ = some (.int .i64 a0_3) := (zs BK710.out 3).trans rfl; have hfz28_0 := zx BK710.out 0; have hfz28_1 := zx BK710.out 1; have hfz28_2 := zx BK710.out 2; have hfz28_3 := zx BK710.out 3; obtain ⟨Ao29, co29, eo29⟩ := Kd.V_slice HO727.out; subst eo29) | ((with_reducible refine gate_store (t := 43) (p := 3) rfl ?_); refine store_event (t := 43) (p := 3) (v := ?vo_w30) (w1 := ((((w27.setCell ⟨gb710, 0, none⟩ (.int .u64 t723)).setCell ⟨gb710, 1, none⟩ (.int .u32 t724)).setCell ⟨gb710, 2, none⟩ (.slice Ao29 t725.length co29)).setCell ⟨gb710, 3, none⟩ (.int .i64 t728))) ?hg ?ho ?hn ?hr ?_; (case ho => rfl); (case hg => rfl); (case hn => rfl); (case hr => first | (go_simp; done) | (go_simp; rfl)); intro w30 hw; have n0_ : Aside0 (Kd.V (Kd.int .u8) 5 w30 w.heap.size (fun k_ => (P0_2_ k_ ∨ w.heap.size ≤ k_) ∧ k_ ≠ gb710 ∧ k_ ≠ gb711) (.slice A0_2 l0_2.length c0_2) l0_2) := ⟨(by rw [hw]; exact (by (with_reducible repeat (first | apply zA | apply zB | apply zC)); exact zy (zI (p := ⟨gb710, 3, none⟩) (zI (p := ⟨gb710, 2, none⟩) (zI (p := ⟨gb710, 1, none⟩) (zI (p := ⟨gb710, 0, none⟩) (zy HO0_2.out (fun k_ hk => (⟨hk, hk.1.2⟩ : _ ∧ k_ ≠ gb710))) (fun _ hk => hk.2) (.int .u64 t723)) (fun _ hk => hk.2) (.int .u32 t724)) (fun _ hk => hk.2) (.slice Ao29 t725.length co29)) (fun _ hk => hk.2) (.int .i64 t728)) (fun _ hk => ⟨hk.1.1.1, ⟨hk.1.1.2, hk.1.2⟩⟩)))⟩; have n1_ : Aside0 (Kd.V (Kd.int .u8) 5 w30 w.heap.size (fun k_ => (P0_2_ k_ ∨ w.heap.size ≤ k_) ∧ k_ ≠ gb710 ∧ k_ ≠ gb711) (.slice Ao29 t725.length co29) t725) := ⟨(by rw [hw]; exact (by (with_reducible repeat (first | apply zA | apply zB | apply zC)); exact zy (zI (p := ⟨gb710, 3, none⟩) (zI (p := ⟨gb710, 2, none⟩) (zI (p := ⟨gb710, 1, none⟩) (zI (p := ⟨gb710, 0, none⟩) (zy HO727.out (fun k_ hk => (⟨hk, hk.2.1⟩ : _ ∧ k_ ≠ gb710))) (fun _ hk => hk.2) (.int .u64 t723)) (fun _ hk => hk.2) (.int .u32 t724)) (fun _ hk => hk.2) (.slice Ao29 t725.length co29)) (fun _ hk => hk.2) (.int .i64 t728)) (fun _ hk => ⟨hk.1.1, ⟨hk.1.2.1, hk.1.2.2⟩⟩)))⟩; have n2_ : Aside0 (w30.heap[gb710]? = some (.cells #[.int .u64 t723, .int .u32 t724, .slice Ao29 t725.length co29, .int .i64 t728] 43 (0, 0))) := ⟨(by rw [hw]; exact (by (with_reducible repeat (first | refine zh ?_ _ | refine zj ?_ | refine zi ?_ _)); refine zw (cs := #[.int .u64 t723, .int .u32 t724, .slice Ao29 t725.length co29, .int .i64 a0_3]) ?_ 3 _ rfl; (with_reducible repeat (first | refine zh ?_ _ | refine zj ?_ | refine zi ?_ _)); refine zw (cs := #[.int .u64 t723, .int .u32 t724, .slice A0_2 l0_2.length c0_2, .int .i64 a0_3]) ?_ 2 _ rfl; (with_reducible repeat (first | refine zh ?_ _ | refine zj ?_ | refine zi ?_ _)); refine zw (cs := #[.int .u64 t723, .int .u32 a0_1, .slice A0_2 l0_2.length c0_2, .int .i64 a0_3]) ?_ 1 _ rfl; (with_reducible repeat (first | refine zh ?_ _ | refine zj ?_ | refine zi ?_ _)); refine zw (cs := #[.int .u64 a0_0, .int .u32 a0_1, .slice A0_2 l0_2.length c0_2, .int .i64 a0_3]) ?_ 0 _ rfl; (with_reducible repeat (first | refine zh ?_ _ | refine zj ?_ | refine zi ?_ _)); exact BK710.out))⟩; have n3_ : Aside0 (w30.heap[gb711]? = some (.cells #[.int .u64 0, .int .u32 0, .slice none 0 0, .int .i64 0] 43 (0, 0))) := ⟨(by rw [hw]; exact (by (with_reducible repeat (first | refine zh ?_ _ | refine zj ?_ | refine zi ?_ _)); refine zv ?_ NB711_710.out _; (with_reducible repeat (first | refine zh ?_ _ | refine zj ?_ | refine zi ?_ _)); refine zv ?_ NB711_710.out _; (with_reducible repeat (first | refine zh ?_ _ | refine zj ?_ | refine zi ?_ _)); refine zv ?_ NB711_710.out _; (with_reducible repeat (first | refine zh ?_ _ | refine zj ?_ | refine zi ?_ _)); refine zv ?_ NB711_710.out _; (with_reducible repeat (first | refine zh ?_ _ | refine zj ?_ | refine zi ?_ _)); exact BK711.out))⟩; have n4_ : Aside0 (Below w.heap.size w w30) := ⟨(by rw [hw]; exact (by repeat (first | (with_reducible first | exact HB.out | apply ze | apply zd | apply zf | refine zk ?_ GE710.out | refine zk ?_ GE711.out) | exact HB.out)))⟩; clear hw; clear HO0_2; clear HO727; clear BK710; clear BK711; clear HB; have HO0_2 := n0_; have HO727 := n1_; have BK710 := n2_; have BK711 := n3_; have HB := n4_; clear n0_ n1_ n2_ n3_ n4_; have hcz31_0 : w30.cell? ⟨gb710, 0, none⟩ = some (.int .u64 t723) := (zs BK710.out 0).trans rfl; have hcz31_1 : w30.cell? ⟨gb710, 1, none⟩ = some (.int .u32 t724) := (zs BK710.out 1).trans rfl; have hcz31_2 : w30.cell? ⟨gb710, 2, none⟩ = some (.slice Ao29 t725.length co29) := (zs BK710.out 2).trans rfl; have hcz31_3 : w30.cell? ⟨gb710, 3, none⟩ = some (.int .i64 t728) := (zs BK710.out 3).trans rfl; have hfz31_0 := zx BK710.out 0; have hfz31_1 := zx BK710.out 1; have hfz31_2 := zx BK710.out 2; have hfz31_3 := zx BK710.out 3) | ((with_reducible refine gate_callee (f := 39) rfl ?_); refine goesL_ (some 39) rfl rfl Try.func39 (by kernel_rfl) rfl #[.agg #[.int .u64 t723, .int .u32 t724, .slice Ao29 t725.length co29, .int .i64 t728], .int .u64 45] rfl (by (try simp only [List.map_toArray, List.map_cons, List.map_nil]); first | done | rfl | (simp only [List.length_drop, List.length_take]; rfl)) ?_; (with_reducible refine (coder_TakeNum.calls k t723 t724 (fun k_ => ((P0_2_ k_ ∨ w.heap.size ≤ k_) ∧ (k_ ≠ gb710 ∧ k_ ≠ gb711))) _ _ t725 t728 45 t730 t731 t732 t735 t736 t737 _ ?side1 A20.out).mono ?_); (case side1 => exact HO727.out); rintro e w32 ⟨v733, rfl, ho0, hb⟩; refine ⟨_, rfl, ?_⟩; have n0_ := zm (Kd.V_below (by (with_reducible repeat (first | apply zA | apply zB | apply zC)); exact HO0_2.out) hb); have n1_ := zm (Kd.V_below (by (with_reducible repeat (first | apply zA | apply zB | apply zC)); exact HO727.out) hb); have n2_ := zm (Kd.V_lower (zy (ok' := fun k_ => (P0_2_ k_ ∨ w.heap.size ≤ k_) ∧ k_ ≠ gb710 ∧ k_ ≠ gb711) ho0 (fun k_ hk_ => ⟨Or.elim hk_ (fun hs_ => hs_.1) (fun hn_ => (.inr (Nat.le_trans (zE (by repeat (first | (with_reducible first | exact HB.out | apply ze | apply zd | apply zf | refine zk ?_ GE710.out | refine zk ?_ GE711.out) | exact HB.out))) hn_))), Or.elim hk_ (fun hs_ => hs_.2.1) (fun hn_ => (Kd.freshB (g := gb710) (o := .cells #[.int .u64 t723, .int .u32 t724, .slice Ao29 t725.length co29, .int .i64 t728] 43 (0, 0)) (by (with_reducible repeat (first | refine zh ?_ _ | refine zj ?_ | refine zi ?_ _)); exact BK710.out) k_ hn_)), Or.elim hk_ (fun hs_ => hs_.2.2) (fun hn_ => (Kd.freshB (g := gb711) (o := .cells #[.int .u64 0, .int .u32 0, .slice none 0 0, .int .i64 0] 43 (0, 0)) (by (with_reducible repeat (first | refine zh ?_ _ | refine zj ?_ | refine zi ?_ _)); exact BK711.out) k_ hn_))⟩)) (zE (by repeat (first | (with_reducible first | exact HB.out | apply ze | apply zd | apply zf | refine zk ?_ GE710.out | refine zk ?_ GE711.out) | exact HB.out)))); have n3_ := zm (zF (g := gb710) (o := .cells #[.int .u64 t723, .int .u32 t724, .slice Ao29 t725.length co29, .int .i64 t728] 43 (0, 0)) (by (with_reducible repeat (first | refine zh ?_ _ | refine zj ?_ | refine zi ?_ _)); exact BK710.out) hb); have n4_ := zm (zF (g := gb711) (o := .cells #[.int .u64 0, .int .u32 0, .slice none 0 0, .int .i64 0] 43 (0, 0)) (by (with_reducible repeat (first | refine zh ?_ _ | refine zj ?_ | refine zi ?_ _)); exact BK711.out) hb); have n5_ := zm (zJ (by repeat (first | (with_reducible first | exact HB.out | apply ze | apply zd | apply zf | refine zk ?_ GE710.out | refine zk ?_ GE711.out) | exact HB.out)) hb); clear HO0_2; clear HO727; clear BK710; clear BK711; clear HB; have HO0_2 := n0_; have HO727 := n1_; have HO734 := n2_; have BK710 := n3_; have BK711 := n4_; have HB := n5_; clear n0_ n1_ n2_ n3_ n4_ n5_; (try clear hb); (try clear hb2); (try clear hk); (try clear hi); (try clear ho0)) | ((with_reducible refine gate_dst (N := 10) rfl ?_); refine box_event ?hg (N := 10) ?hd (cs := #[.int .u64 0, .int .u32 0, .slice none 0 0, .int .i64 0]) (t := 43) ?hr ?_; (case hd => rfl); (case hg => rfl); (case hr => first | (go_simp; done) | (go_simp; rfl)); intro gb738 hg w33 hbox hb; have n0_ := zm (Kd.V_below (Kd.V_elderB (by (with_reducible repeat (first | apply zA | apply zB | apply zC)); exact HO0_2.out) gb738 (Nat.le_of_eq hg.symm)) hb); have n1_ := zm (Kd.V_below (Kd.V_elderB (by (with_reducible repeat (first | apply zA | apply zB | apply zC)); exact HO727.out) gb738 (Nat.le_of_eq hg.symm)) hb); have n2_ := zm (Kd.V_below (Kd.V_elderB (by (with_reducible repeat (first | apply zA | apply zB | apply zC)); exact HO734.out) gb738 (Nat.le_of_eq hg.symm)) hb); have n3_ := zm (zF (g := gb710) (o := .cells #[.int .u64 t723, .int .u32 t724, .slice Ao29 t725.length co29, .int .i64 t728] 43 (0, 0)) (by (with_reducible repeat (first | refine zh ?_ _ | refine zj ?_ | refine zi ?_ _)); exact BK710.out) hb); have n4_ := zm (zF (g := gb711) (o := .cells #[.int .u64 0, .int .u32 0, .slice none 0 0, .int .i64 0] 43 (0, 0)) (by (with_reducible repeat (first | refine zh ?_ _ | refine zj ?_ | refine zi ?_ _)); exact BK711.out) hb); have n5_ := zm (zJ (by repeat (first | (with_reducible first | exact HB.out | apply ze | apply zd | apply zf | refine zk ?_ GE710.out | refine zk ?_ GE711.out) | exact HB.out)) hb); have n6_ := zm (hbox); have n7_ := zm ((by rw [hg]; exact (zE (by repeat (first | (with_reducible first | exact HB.out | apply ze | apply zd | apply zf | refine zk ?_ GE710.out | refine zk ?_ GE711.out) | exact HB.out))) : w.heap.size ≤ gb738)); have n8_ := zm ((by rw [hg]; exact (zE (by repeat (first | (with_reducible first | exact HB.out | apply ze | apply zd | apply zf | refine zk ?_ GE710.out | refine zk ?_ GE711.out) | exact HB.out))) : w.heap.size ≤ gb738)); have n9_ := zm ((by rw [hg]; exact zn (zD (g := gb710) (o := .cells #[.int .u64 t723, .int .u32 t724, .slice Ao29 t725.length co29, .int .i64 t728] 43 (0, 0)) (by (with_reducible repeat (first | refine zh ?_ _ | refine zj ?_ | refine zi ?_ _)); exact BK710.out)) : gb710 ≠ gb738)); have n10_ := zm ((by rw [hg]; exact zg (zD (g := gb710) (o := .cells #[.int .u64 t723, .int .u32 t724, .slice Ao29 t725.length co29, .int .i64 t728] 43 (0, 0)) (by (with_reducible repeat (first | refine zh ?_ _ | refine zj ?_ | refine zi ?_ _)); exact BK710.out)) : gb738 ≠ gb710)); have n11_ := zm ((by rw [hg]; exact zn (zD (g := gb711) (o := .cells #[.int .u64 0, .int .u32 0, .slice none 0 0, .int .i64 0] 43 (0, 0)) (by (with_reducible repeat (first | refine zh ?_ _ | refine zj ?_ | refine zi ?_ _)); exact BK711.out)) : gb711 ≠ gb738)); have n12_ := zm ((by rw [hg]; exact zg (zD (g := gb711) (o := .cells #[.int .u64 0, .int .u32 0, .slice none 0 0, .int .i64 0] 43 (0, 0)) (by (with_reducible repeat (first | refine zh ?_ _ | refine zj ?_ | refine zi ?_ _)); exact BK711.out)) : gb738 ≠ gb711)); clear HO0_2; clear HO727; clear HO734; clear BK710; clear BK711; clear HB; have HO0_2 := n0_; have HO727 := n1_; have HO734 := n2_; have BK710 := n3_; have BK711 := n4_; have HB := n5_; have BK738 := n6_; have GW738 := n7_; have GE738 := n8_; have NB710_738 := n9_; have NB738_710 := n10_; have NB711_738 := n11_; have NB738_711 := n12_; clear n0_ n1_ n2_ n3_ n4_ n5_ n6_ n7_ n8_ n9_ n10_ n11_ n12_; clear hb hbox hg; have hnb34 := NB738_710.out; have hnc34 := NB710_738.out; have hnb35 := NB738_711.out; have hnc35 := NB711_738.out; have hcz36_0 : w33.cell? ⟨gb738, 0, none⟩ = some (.int .u64 0) := (zs BK738.out 0).trans rfl; have hcz36_1 : w33.cell? ⟨gb738, 1, none⟩ = some (.int .u32 0) := (zs BK738.out 1).trans rfl; have hcz36_2 : w33.cell? ⟨gb738, 2, none⟩ = some (.slice none 0 0) := (zs BK738.out 2).trans rfl; have hcz36_3 : w33.cell? ⟨gb738, 3, none⟩ = some (.int .i64 0) := (zs BK738.out 3).trans rfl; have hfz36_0 := zx BK738.out 0; have hfz36_1 := zx BK738.out 1; have hfz36_2 := zx BK738.out 2; have hfz36_3 := zx BK738.out 3; obtain ⟨Ao37, co37, eo37⟩ := Kd.V_slice HO734.out; subst eo37; have hcz38_0 : w33.cell? ⟨gb711, 0, none⟩ = some (.int .u64 0) := (zs BK711.out 0).trans rfl; have hcz38_1 : w33.cell? ⟨gb711, 1, none⟩ = some (.int .u32 0) := (zs BK711.out 1).trans rfl; have hcz38_2 : w33.cell? ⟨gb711, 2, none⟩ = some (.slice none 0 0) := (zs BK711.out 2).trans rfl; have hcz38_3 : w33.cell? ⟨gb711, 3, none⟩ = some (.int .i64 0) := (zs BK711.out 3).trans rfl; have hfz38_0 := zx BK711.out 0; have hfz38_1 := zx BK711.out 1; have hfz38_2 := zx BK711.out 2; have hfz38_3 := zx BK711.out 3))
   refine bodyPost_ret (results_ct rfl _ _ gb711 43 #[.int .u64 t730, .int .u32 t731, .slice Ao37 t732.length co37, .int .i64 t735] (0, 0) _ rfl (by (with_reducible repeat (first | refine zh ?_ _ | refine zj ?_ | refine zi ?_ _)); refine zw (cs := #[.int .u64 t730, .int .u32 t731, .slice Ao37 t732.length co37, .int .i64 0]) ?_ 3 _ rfl; (with_reducible repeat (first | refine zh ?_ _ | refine zj ?_ | refine zi ?_ _)); refine zw (cs := #[.int .u64 t730, .int .u32 t731, .slice none 0 0, .int .i64 0]) ?_ 2 _ rfl; (with_reducible repeat (first | refine zh ?_ _ | refine zj ?_ | refine zi ?_ _)); refine zw (cs := #[.int .u64 t730, .int .u32 0, .slice none 0 0, .int .i64 0]) ?_ 1 _ rfl; (with_reducible repeat (first | refine zh ?_ _ | refine zj ?_ | refine zi ?_ _)); refine zw (cs := #[.int .u64 0, .int .u32 0, .slice none 0 0, .int .i64 0]) ?_ 0 _ rfl; (with_reducible repeat (first | refine zh ?_ _ | refine zj ?_ | refine zi ?_ _)); refine zv ?_ NB711_738.out _; (with_reducible repeat (first | refine zh ?_ _ | refine zj ?_ | refine zi ?_ _)); refine zv ?_ NB711_738.out _; (with_reducible repeat (first | refine zh ?_ _ | refine zj ?_ | refine zi ?_ _)); refine zv ?_ NB711_738.out _; (with_reducible repeat (first | refine zh ?_ _ | refine zj ?_ | refine zi ?_ _)); refine zv ?_ NB711_738.out _; (with_reducible repeat (first | refine zh ?_ _ | refine zj ?_ | refine zi ?_ _)); exact BK711.out) Try.underlying43 rfl (by kernel_rfl)) rfl ?_
   exact ⟨_, by first | rfl | (simp [errW_none, errW_some] <;> rfl) | (simp [*, errW_none, errW_some] <;> rfl), by (with_reducible repeat (first | apply zA | apply zB | apply zC)); exact zy (zI (p := ⟨gb711, 3, none⟩) (zI (p := ⟨gb711, 2, none⟩) (zI (p := ⟨gb711, 1, none⟩) (zI (p := ⟨gb711, 0, none⟩) (zI (p := ⟨gb738, 3, none⟩) (zI (p := ⟨gb738, 2, none⟩) (zI (p := ⟨gb738, 1, none⟩) (zI (p := ⟨gb738, 0, none⟩) (zy (zy HO734.out (fun k_ hk => (⟨hk, hk.2⟩ : _ ∧ k_ ≠ gb738))) (fun k_ hk => (⟨hk, hk.1.1.2.2⟩ : _ ∧ k_ ≠ gb711))) (fun _ hk => hk.1.2) (.int .u64 t730)) (fun _ hk => hk.1.2) (.int .u32 t731)) (fun _ hk => hk.1.2) (.slice Ao37 t732.length co37)) (fun _ hk => hk.1.2) (.int .i64 t735)) (fun _ hk => hk.2) (.int .u64 t730)) (fun _ hk => hk.2) (.int .u32 t731)) (fun _ hk => hk.2) (.slice Ao37 t732.length co37)) (fun _ hk => hk.2) (.int .i64 t735)) (fun _ hk => hk.1.1.1.1), by repeat (first | (with_reducible first | exact HB.out | apply ze | apply zd | apply zf | refine zk ?_ GE710.out | refine zk ?_ GE711.out | refine zk ?_ GE738.out) | exact HB.out)⟩
  ·
   rw [if_neg c19] at H
   have c19b0 : (t721 == 7) = false := beq_eq_false_iff_ne.mpr c19
   have c19b1 : (t721 != 7) = true := bne_iff_ne.mpr c19
   obtain ⟨ji39, hji39⟩ : ∃ j_ : Int, (mn (wrap64 ((wrap64 (a1 + t721)) - 3)) 44) = j_ := ⟨_, rfl⟩
   replace H : (some (t723, t724, t725, t728, mx 0 (ji39))) = some (r1, r2, r3, r4, r5) := by first | (rw [hji39] at H; exact H) | (simp only [hji39] at H ⊢; exact H)
   (try rw [hji39] at A17)
   (try rw [hji39] at A18)
   (try (have hji39h : ji39 ≤ 44 := by (rw [← hji39]; unfold mn; (repeat' split) <;> omega)))
   (try (have hji39g : ji39 ≤ 64 := by omega))
   have hji39_ : (if 44 < (wrap64 ((wrap64 (a1 + t721)) - 3)) then 44 else (wrap64 ((wrap64 (a1 + t721)) - 3))) = ji39 := hji39
   obtain ⟨ji40, hji40⟩ : ∃ j_ : Int, (mx 0 (ji39)) = j_ := ⟨_, rfl⟩
   replace H : (some (t723, t724, t725, t728, ji40)) = some (r1, r2, r3, r4, r5) := by first | (rw [hji40] at H; exact H) | (simp only [hji40] at H ⊢; exact H)
   (try rw [hji40] at A17)
   (try rw [hji40] at A18)
   have hji40_ : (if 0 < (ji39) then (ji39) else 0) = ji40 := hji40
   simp only [Option.some.injEq, Prod.mk.injEq] at H
   obtain ⟨rfl, rfl, rfl, rfl, rfl⟩ := H
   go_enter Try.func65, Try.ntmps65
   go_wp2_with (first | ((with_reducible refine gate_dst (N := 3) rfl ?_); refine box_event ?hg (N := 3) ?hd (cs := #[.int .u64 a0_0, .int .u32 a0_1, .slice A0_2 l0_2.length c0_2, .int .i64 a0_3]) (t := 43) ?hr ?_; (case hd => rfl); (case hg => rfl); (case hr => first | (go_simp; done) | (go_simp; rfl)); intro gb710 hg w41 hbox hb; have n0_ := zm (Kd.V_below (Kd.V_elderB (by (with_reducible repeat (first | apply zA | apply zB | apply zC)); exact HO0_2.out) gb710 (Nat.le_of_eq hg.symm)) hb); have n1_ := zm (zJ (by repeat (first | (with_reducible first | exact HB.out | apply ze | apply zd | apply zf) | exact HB.out)) hb); have n2_ := zm (hbox); have n3_ := zm ((by rw [hg]; exact (zE (by repeat (first | (with_reducible first | exact HB.out | apply ze | apply zd | apply zf) | exact HB.out))) : w.heap.size ≤ gb710)); have n4_ := zm ((by rw [hg]; exact (zE (by repeat (first | (with_reducible first | exact HB.out | apply ze | apply zd | apply zf) | exact HB.out))) : w.heap.size ≤ gb710)); clear HO0_2; clear HB; have HO0_2 := n0_; have HB := n1_; have BK710 := n2_; have GW710 := n3_; have GE710 := n4_; clear n0_ n1_ n2_ n3_ n4_; clear hb hbox hg) | ((with_reducible refine gate_dst (N := 6) rfl ?_); refine box_event ?hg (N := 6) ?hd (cs := #[.int .u64 0, .int .u32 0, .slice none 0 0, .int .i64 0]) (t := 43) ?hr ?_; (case hd => rfl); (case hg => rfl); (case hr => first | (go_simp; done) | (go_simp; rfl)); intro gb711 hg w42 hbox hb; have n0_ := zm (Kd.V_below (Kd.V_elderB (by (with_reducible repeat (first | apply zA | apply zB | apply zC)); exact HO0_2.out) gb711 (Nat.le_of_eq hg.symm)) hb); have n1_ := zm (zF (g := gb710) (o := .cells #[.int .u64 a0_0, .int .u32 a0_1, .slice A0_2 l0_2.length c0_2, .int .i64 a0_3] 43 (0, 0)) (by (with_reducible repeat (first | refine zh ?_ _ | refine zj ?_ | refine zi ?_ _)); exact BK710.out) hb); have n2_ := zm (zJ (by repeat (first | (with_reducible first | exact HB.out | apply ze | apply zd | apply zf | refine zk ?_ GE710.out) | exact HB.out)) hb); have n3_ := zm (hbox); have n4_ := zm ((by rw [hg]; exact (zE (by repeat (first | (with_reducible first | exact HB.out | apply ze | apply zd | apply zf | refine zk ?_ GE710.out) | exact HB.out))) : w.heap.size ≤ gb711)); have n5_ := zm ((by rw [hg]; exact (zE (by repeat (first | (with_reducible first | exact HB.out | apply ze | apply zd | apply zf | refine zk ?_ GE710.out) | exact HB.out))) : w.heap.size ≤ gb711)); have n6_ := zm ((by rw [hg]; exact zn (zD (g := gb710) (o := .cells #[.int .u64 a0_0, .int .u32 a0_1, .slice A0_2 l0_2.length c0_2, .int .i64 a0_3] 43 (0, 0)) (by (with_reducible repeat (first | refine zh ?_ _ | refine zj ?_ | refine zi ?_ _)); exact BK710.out)) : gb710 ≠ gb711)); have n7_ := zm ((by rw [hg]; exact zg (zD (g := gb710) (o := .cells #[.int .u64 a0_0, .int .u32 a0_1, .slice A0_2 l0_2.length c0_2, .int .i64 a0_3] 43 (0, 0)) (by (with_reducible repeat (first | refine zh ?_ _ | refine zj ?_ | refine zi ?_ _)); exact BK710.out)) : gb711 ≠ gb710)); clear HO0_2; clear BK710; clear HB; have HO0_2 := n0_; have BK710 := n1_; have HB := n2_; have BK711 := n3_; have GW711 := n4_; have GE711 := n5_; have NB710_711 := n6_; have NB711_710 := n7_; clear n0_ n1_ n2_ n3_ n4_ n5_ n6_ n7_; clear hb hbox hg; have hnb43 := NB710_711.out; have hnc43 := NB711_710.out; have hcz44_0 : w42.cell? ⟨gb710, 0, none⟩ = some (.int .u64 a0_0) := (zs BK710.out 0).trans rfl; have hcz44_1 : w42.cell? ⟨gb710, 1, none⟩ = some (.int .u32 a0_1) := (zs BK710.out 1).trans rfl; have hcz44_2 : w42.cell? ⟨gb710, 2, none⟩ = some (.slice A0_2 l0_2.length c0_2) := (zs BK710.out 2).trans rfl; have hcz44_3 : w42.cell? ⟨gb710, 3, none⟩ = some (.int .i64 a0_3) := (zs BK710.out 3).trans rfl; have hfz44_0 := zx BK710.out 0; have hfz44_1 := zx BK710.out 1; have hfz44_2 := zx BK710.out 2; have hfz44_3 := zx BK710.out 3) | ((with_reducible refine gate_callee (f := 32) rfl ?_); refine goesL_ (some 17) rfl rfl Try.func32 (by kernel_rfl) rfl #[.agg #[.int .u64 a0_0, .int .u32 a0_1, .slice A0_2 l0_2.length c0_2, .int .i64 a0_3], .int .i64 8] rfl (by (try simp only [List.map_toArray, List.map_cons, List.map_nil]); first | done | rfl | (simp only [List.length_drop, List.length_take]; rfl)) ?_; (with_reducible refine (coder_Get.calls a0_0 a0_1 _ _ l0_2 a0_3 8 t721 t722 _ ?side1 ?side2 A17.out).mono ?_); (case side1 => repeat (first | exact (Kd.V_reads' HO0_2.out).2.2 | (with_reducible refine Kd.C_alloc ?_ _) | (with_reducible refine Kd.C_drewN ?_ _) | (with_reducible refine Kd.C_drew ?_))); (case side2 => exact (Kd.V_reads' HO0_2.out).2.1); rintro e w45 ⟨rfl, hb⟩; refine ⟨_, rfl, ?_⟩; have n0_ := zm (Kd.V_below (by (with_reducible repeat (first | apply zA | apply zB | apply zC)); exact HO0_2.out) hb); have n1_ := zm (zF (g := gb710) (o := .cells #[.int .u64 a0_0, .int .u32 a0_1, .slice A0_2 l0_2.length c0_2, .int .i64 a0_3] 43 (0, 0)) (by (with_reducible repeat (first | refine zh ?_ _ | refine zj ?_ | refine zi ?_ _)); exact BK710.out) hb); have n2_ := zm (zF (g := gb711) (o := .cells #[.int .u64 0, .int .u32 0, .slice none 0 0, .int .i64 0] 43 (0, 0)) (by (with_reducible repeat (first | refine zh ?_ _ | refine zj ?_ | refine zi ?_ _)); exact BK711.out) hb); have n3_ := zm (zJ (by repeat (first | (with_reducible first | exact HB.out | apply ze | apply zd | apply zf | refine zk ?_ GE710.out | refine zk ?_ GE711.out) | exact HB.out)) hb); clear HO0_2; clear BK710; clear BK711; clear HB; have HO0_2 := n0_; have BK710 := n1_; have BK711 := n2_; have HB := n3_; clear n0_ n1_ n2_ n3_; (try clear hb); (try clear hb2); (try clear hk); (try clear hi); have hcz46_0 : w45.cell? ⟨gb710, 0, none⟩ = some (.int .u64 a0_0) := (zs BK710.out 0).trans rfl; have hcz46_1 : w45.cell? ⟨gb710, 1, none⟩ = some (.int .u32 a0_1) := (zs BK710.out 1).trans rfl; have hcz46_2 : w45.cell? ⟨gb710, 2, none⟩ = some (.slice A0_2 l0_2.length c0_2) := (zs BK710.out 2).trans rfl; have hcz46_3 : w45.cell? ⟨gb710, 3, none⟩ = some (.int .i64 a0_3) := (zs BK710.out 3).trans rfl; have hfz46_0 := zx BK710.out 0; have hfz46_1 := zx BK710.out 1; have hfz46_2 := zx BK710.out 2; have hfz46_3 := zx BK710.out 3) | ((with_reducible refine gate_callee (f := 34) rfl ?_); refine goesL_ (some 25) rfl rfl Try.func34 (by kernel_rfl) rfl #[.agg #[.int .u64 a0_0, .int .u32 a0_1, .slice A0_2 l0_2.length c0_2, .int .i64 a0_3], .int .i64 t721, .int .i64 (wrap64 (t721 + 1)), .int .i64 8] rfl (by (try simp only [List.map_toArray, List.map_cons, List.map_nil]); first | done | rfl | (simp only [List.length_drop, List.length_take]; rfl)) ?_; (with_reducible refine (coder_Take.calls k a0_0 a0_1 (fun k_ => (((P0_2_ k_ ∨ w.heap.size ≤ k_) ∧ k_ ≠ gb710) ∧ k_ ≠ gb711)) _ _ l0_2 a0_3 t721 (wrap64 (t721 + 1)) 8 t723 t724 t725 t728 t729 _ ?side1 A18.out).mono ?_); (case side1 => exact HO0_2.out); rintro e w47 ⟨v726, rfl, ho0, hb⟩; refine ⟨_, rfl, ?_⟩; have n0_ := zm (Kd.V_below (by (with_reducible repeat (first | apply zA | apply zB | apply zC)); exact HO0_2.out) hb); have n1_ := zm (Kd.V_lower (zy (ok' := fun k_ => (P0_2_ k_ ∨ w.heap.size ≤ k_) ∧ k_ ≠ gb710 ∧ k_ ≠ gb711) ho0 (fun k_ hk_ => ⟨Or.elim hk_ (fun hs_ => hs_.1.1) (fun hn_ => (.inr (Nat.le_trans (zE (by repeat (first | (with_reducible first | exact HB.out | apply ze | apply zd | apply zf | refine zk ?_ GE710.out | refine zk ?_ GE711.out) | exact HB.out))) hn_))), Or.elim hk_ (fun hs_ => hs_.1.2) (fun hn_ => (Kd.freshB (g := gb710) (o := .cells #[.int .u64 a0_0, .int .u32 a0_1, .slice A0_2 l0_2.length c0_2, .int .i64 a0_3] 43 (0, 0)) (by (with_reducible repeat (first | refine zh ?_ _ | refine zj ?_ | refine zi ?_ _)); exact BK710.out) k_ hn_)), Or.elim hk_ (fun hs_ => hs_.2) (fun hn_ => (Kd.freshB (g := gb711) (o := .cells #[.int .u64 0, .int .u32 0, .slice none 0 0, .int .i64 0] 43 (0, 0)) (by (with_reducible repeat (first | refine zh ?_ _ | refine zj ?_ | refine zi ?_ _)); exact BK711.out) k_ hn_))⟩)) (zE (by repeat (first | (with_reducible first | exact HB.out | apply ze | apply zd | apply zf | refine zk ?_ GE710.out | refine zk ?_ GE711.out) | exact HB.out)))); have n2_ := zm (zF (g := gb710) (o := .cells #[.int .u64 a0_0, .int .u32 a0_1, .slice A0_2 l0_2.length c0_2, .int .i64 a0_3] 43 (0, 0)) (by (with_reducible repeat (first | refine zh ?_ _ | refine zj ?_ | refine zi ?_ _)); exact BK710.out) hb); have n3_ := zm (zF (g := gb711) (o := .cells #[.int .u64 0, .int .u32 0, .slice none 0 0, .int .i64 0] 43 (0, 0)) (by (with_reducible repeat (first | refine zh ?_ _ | refine zj ?_ | refine zi ?_ _)); exact BK711.out) hb); have n4_ := zm (zJ (by repeat (first | (with_reducible first | exact HB.out | apply ze | apply zd | apply zf | refine zk ?_ GE710.out | refine zk ?_ GE711.out) | exact HB.out)) hb); clear HO0_2; clear BK710; clear BK711; clear HB; have HO0_2 := n0_; have HO727 := n1_; have BK710 := n2_; have BK711 := n3_; have HB := n4_; clear n0_ n1_ n2_ n3_ n4_; (try clear hb); (try clear hb2); (try clear hk); (try clear hi); (try clear ho0); have hcz48_0 : w47.cell? ⟨gb710, 0, none⟩ = some (.int .u64 a0_0) := (zs BK710.out 0).trans rfl; have hcz48_1 : w47.cell? ⟨gb710, 1, none⟩ = some (.int .u32 a0_1) := (zs BK710.out 1).trans rfl; have hcz48_2 : w47.cell? ⟨gb710, 2, none⟩ = some (.slice A0_2 l0_2.length c0_2) := (zs BK710.out 2).trans rfl; have hcz48_3 : w47.cell? ⟨gb710, 3, none⟩ = some (.int .i64 a0_3) := (zs BK710.out 3).trans rfl; have hfz48_0 := zx BK710.out 0; have hfz48_1 := zx BK710.out 1; have hfz48_2 := zx BK710.out 2; have hfz48_3 := zx BK710.out 3; obtain ⟨Ao49, co49, eo49⟩ := Kd.V_slice HO727.out; subst eo49; have hcz50_0 : w47.cell? ⟨gb711, 0, none⟩ = some (.int .u64 0) := (zs BK711.out 0).trans rfl; have hcz50_1 : w47.cell? ⟨gb711, 1, none⟩ = some (.int .u32 0) := (zs BK711.out 1).trans rfl; have hcz50_2 : w47.cell? ⟨gb711, 2, none⟩ = some (.slice none 0 0) := (zs BK711.out 2).trans rfl; have hcz50_3 : w47.cell? ⟨gb711, 3, none⟩ = some (.int .i64 0) := (zs BK711.out 3).trans rfl; have hfz50_0 := zx BK711.out 0; have hfz50_1 := zx BK711.out 1; have hfz50_2 := zx BK711.out 2; have hfz50_3 := zx BK711.out 3))
   refine bodyPost_ret (results_ct rfl _ _ gb711 43 #[.int .u64 t723, .int .u32 t724, .slice Ao49 t725.length co49, .int .i64 t728] (0, 0) _ rfl (by (with_reducible repeat (first | refine zh ?_ _ | refine zj ?_ | refine zi ?_ _)); refine zw (cs := #[.int .u64 t723, .int .u32 t724, .slice Ao49 t725.length co49, .int .i64 0]) ?_ 3 _ rfl; (with_reducible repeat (first | refine zh ?_ _ | refine zj ?_ | refine zi ?_ _)); refine zw (cs := #[.int .u64 t723, .int .u32 t724, .slice none 0 0, .int .i64 0]) ?_ 2 _ rfl; (with_reducible repeat (first | refine zh ?_ _ | refine zj ?_ | refine zi ?_ _)); refine zw (cs := #[.int .u64 t723, .int .u32 0, .slice none 0 0, .int .i64 0]) ?_ 1 _ rfl; (with_reducible repeat (first | refine zh ?_ _ | refine zj ?_ | refine zi ?_ _)); refine zw (cs := #[.int .u64 0, .int .u32 0, .slice none 0 0, .int .i64 0]) ?_ 0 _ rfl; (with_reducible repeat (first | refine zh ?_ _ | refine zj ?_ | refine zi ?_ _)); refine zv ?_ NB711_710.out _; (with_reducible repeat (first | refine zh ?_ _ | refine zj ?_ | refine zi ?_ _)); refine zv ?_ NB711_710.out _; (with_reducible repeat (first | refine zh ?_ _ | refine zj ?_ | refine zi ?_ _)); refine zv ?_ NB711_710.out _; (with_reducible repeat (first | refine zh ?_ _ | refine zj ?_ | refine zi ?_ _)); refine zv ?_ NB711_710.out _; (with_reducible repeat (first | refine zh ?_ _ | refine zj ?_ | refine zi ?_ _)); exact BK711.out) Try.underlying43 rfl (by kernel_rfl)) rfl ?_
   exact ⟨_, by first | rfl | (simp [errW_none, errW_some] <;> rfl) | (simp only [← hji39, ← hji40]; first | rfl | (simp [errW_none, errW_some] <;> rfl)) | (simp [*, errW_none, errW_some] <;> rfl), by (with_reducible repeat (first | apply zA | apply zB | apply zC)); exact zy (zI (p := ⟨gb711, 3, none⟩) (zI (p := ⟨gb711, 2, none⟩) (zI (p := ⟨gb711, 1, none⟩) (zI (p := ⟨gb711, 0, none⟩) (zI (p := ⟨gb710, 3, none⟩) (zI (p := ⟨gb710, 2, none⟩) (zI (p := ⟨gb710, 1, none⟩) (zI (p := ⟨gb710, 0, none⟩) (zy (zy HO727.out (fun k_ hk => (⟨hk, hk.2.1⟩ : _ ∧ k_ ≠ gb710))) (fun k_ hk => (⟨hk, hk.1.2.2⟩ : _ ∧ k_ ≠ gb711))) (fun _ hk => hk.1.2) (.int .u64 t723)) (fun _ hk => hk.1.2) (.int .u32 t724)) (fun _ hk => hk.1.2) (.slice Ao49 t725.length co49)) (fun _ hk => hk.1.2) (.int .i64 t728)) (fun _ hk => hk.2) (.int .u64 t723)) (fun _ hk => hk.2) (.int .u32 t724)) (fun _ hk => hk.2) (.slice Ao49 t725.length co49)) (fun _ hk => hk.2) (.int .i64 t728)) (fun _ hk => hk.1.1.1), by repeat (first | (with_reducible first | exact HB.out | apply ze | apply zd | apply zf | refine zk ?_ GE710.out | refine zk ?_ GE711.out) | exact HB.out)⟩

end Go.Proofs.Ytkaoiblgfpphoaa.Prt

namespace Go.Proofs.Ytkaoiblgfpphoaa.Prt
open Go.RowKit Go.Proofs.YtkaoiblgfpphoaaW.PrintWords Go.Proofs.YtkaoiblgfpphoaaW.PrintLast Go.Proofs.YtkaoiblgfpphoaaW.PrintMore
attribute [local go_sem] max2_int min2_int max_two min_two max_three min_three max_four min_four   -- for this text's walks alone
set_option linter.unusedVariables false
set_option linter.unusedSimpArgs false

/-! ### gain_Take: function 47 -/
mutual
def gain_Take.j0 : Nat → List Int → Bool → Bool → Int → Int → List Int → Int → Option (Int × Int × List Int × Int × List Int × Int)
 | 0, _, _, _, _, _, _, _ => none
 | k + 1, x1, x2, x20, x740000, x740001, x740002, x740003 => if x20 = true then ((coder_Take.f k x740000 x740001 x740002 x740003 0 1 1).bind fun bt742 => (some (bt742.1, bt742.2.1, bt742.2.2.1, bt742.2.2.2.1, ([] : List Int), 1))) else (gain_Take.l0 k x1 x2 ([] : List Int) 0 x740000 x740001 x740002 x740003)
def gain_Take.l0 : Nat → List Int → Bool → List Int → Int → Int → Int → List Int → Int → Option (Int × Int × List Int × Int × List Int × Int)
 | 0, _, _, _, _, _, _, _, _ => none
 | k + 1, x1, x2, x9, x27, x740000, x740001, x740002, x740003 => if x27 < 5 then (if x2 = true then ((gain_take.f k x740000 x740001 x740002 x740003 0 x2).bind fun bt749 => (if x9.length < 17592186044416 then (gain_Take.l0 k x1 x2 (x9 ++ [bt749.2.2.2.2]) (wrap64 (x27 + 1)) bt749.1 bt749.2.1 bt749.2.2.1 bt749.2.2.2.1) else (none))) else (if 0 ≤ x27 then (if x27 < (x1.length : Int) then ((gain_take.f k x740000 x740001 x740002 x740003 (rd x1 x27) x2).bind fun bt761 => (if x9.length < 17592186044416 then (gain_Take.l0 k x1 x2 (x9 ++ [bt761.2.2.2.2]) (wrap64 (x27 + 1)) bt761.1 bt761.2.1 bt761.2.2.1 bt761.2.2.2.1) else (none))) else (none)) else (none))) else (some (x740000, x740001, x740002, x740003, x9, 0))
end
def gain_Take.f (k : Nat) (a0_0 : Int) (a0_1 : Int) (l0_2 : List Int) (a0_3 : Int) (l1 : List Int) (a2 : Bool) : Option (Int × Int × List Int × Int × List Int × Int) := if a2 = true then (gain_Take.j0 k l1 a2 false a0_0 a0_1 l0_2 a0_3) else ((gain_Right.f k l1).bind fun t741 => (gain_Take.j0 k l1 a2 (!t741) a0_0 a0_1 l0_2 a0_3))
theorem gain_Take.mono_l : ∀ k, (∀ y0 y1 y2 y3 y4 y5 y6, LeO (gain_Take.j0 k y0 y1 y2 y3 y4 y5 y6) (gain_Take.j0 (k + 1) y0 y1 y2 y3 y4 y5 y6)) ∧ (∀ y0 y1 y2 y3 y4 y5 y6 y7, LeO (gain_Take.l0 k y0 y1 y2 y3 y4 y5 y6 y7) (gain_Take.l0 (k + 1) y0 y1 y2 y3 y4 y5 y6 y7))
 | 0 => ⟨fun _ _ _ _ _ _ _ r h => by simp [gain_Take.j0] at h, fun _ _ _ _ _ _ _ _ r h => by simp [gain_Take.l0] at h⟩
 | k + 1 => by
  obtain ⟨ih0, ih1⟩ := gain_Take.mono_l k
  refine ⟨?_, ?_⟩
  ·
   intro y0 y1 y2 y3 y4 y5 y6
   unfold gain_Take.j0
   repeat' first
   | (with_reducible exact ih0 _ _ _ _ _ _ _)
   | (with_reducible exact ih1 _ _ _ _ _ _ _ _)
   | (with_reducible exact coder_Take.mono _ _ _ _ _ _ _ _)
   | (with_reducible exact gain_Right.mono _ _)
   | (with_reducible exact gain_take.mono _ _ _ _ _ _ _)
   | (with_reducible exact LeO.refl _)
   | (with_reducible exact LeO.none _)
   | (with_reducible refine LeO.ite ?_ ?_)
   | (with_reducible refine LeO.bind ?_ (fun _ => ?_))
   | exact ih0 _ _ _ _ _ _ _
   | exact ih1 _ _ _ _ _ _ _ _
   | exact coder_Take.mono _ _ _ _ _ _ _ _
   | exact gain_Right.mono _ _
   | exact gain_take.mono _ _ _ _ _ _ _
   | exact LeO.none _
   | refine LeO.ite ?_ ?_
   | refine LeO.bind ?_ (fun _ => ?_)
  ·
   intro y0 y1 y2 y3 y4 y5 y6 y7
   unfold gain_Take.l0
   repeat' first
   | (with_reducible exact ih0 _ _ _ _ _ _ _)
   | (with_reducible exact ih1 _ _ _ _ _ _ _ _)
   | (with_reducible exact coder_Take.mono _ _ _ _ _ _ _ _)
   | (with_reducible exact gain_Right.mono _ _)
   | (with_reducible exact gain_take.mono _ _ _ _ _ _ _)
   | (with_reducible exact LeO.refl _)
   | (with_reducible exact LeO.none _)
   | (with_reducible refine LeO.ite ?_ ?_)
   | (with_reducible refine LeO.bind ?_ (fun _ => ?_))
   | exact ih0 _ _ _ _ _ _ _
   | exact ih1 _ _ _ _ _ _ _ _
   | exact coder_Take.mono _ _ _ _ _ _ _ _
   | exact gain_Right.mono _ _
   | exact gain_take.mono _ _ _ _ _ _ _
   | exact LeO.none _
   | refine LeO.ite ?_ ?_
   | refine LeO.bind ?_ (fun _ => ?_)
theorem gain_Take.mono : ∀ a0 a1 a2 a3 a4 a5 k, LeO (gain_Take.f k a0 a1 a2 a3 a4 a5) (gain_Take.f (k + 1) a0 a1 a2 a3 a4 a5) := by
 intro a0 a1 a2 a3 a4 a5 k
 obtain ⟨ih0, ih1⟩ := gain_Take.mono_l k
 unfold gain_Take.f
 repeat' first
   | (with_reducible exact ih0 _ _ _ _ _ _ _)
   | (with_reducible exact ih1 _ _ _ _ _ _ _ _)
   | (with_reducible exact coder_Take.mono _ _ _ _ _ _ _ _)
   | (with_reducible exact gain_Right.mono _ _)
   | (with_reducible exact gain_take.mono _ _ _ _ _ _ _)
   | (with_reducible exact LeO.refl _)
   | (with_reducible exact LeO.none _)
   | (with_reducible refine LeO.ite ?_ ?_)
   | (with_reducible refine LeO.bind ?_ (fun _ => ?_))
   | exact ih0 _ _ _ _ _ _ _
   | exact ih1 _ _ _ _ _ _ _ _
   | exact coder_Take.mono _ _ _ _ _ _ _ _
   | exact gain_Right.mono _ _
   | exact gain_take.mono _ _ _ _ _ _ _
   | exact LeO.none _
   | refine LeO.ite ?_ ?_
   | refine LeO.bind ?_ (fun _ => ?_)
set_option maxHeartbeats 8000000 in
set_option maxRecDepth 100000 in
theorem gain_Take.calls (k : Nat) (a0_0 : Int) (a0_1 : Int) (P0_2_ : Nat → Prop) (A0_2 : Option Addr) (c0_2 : Nat) (l0_2 : List Int) (a0_3 : Int) (A1 : Option Addr) (c1 : Nat) (l1 : List Int) (a2 : Bool) (r1 : Int) (r2 : Int) (r3 : List Int) (r4 : Int) (r5 : List Int) (r6 : Int) (w : World) (hs0_2 : Kd.V (Kd.int .u8) 5 w w.heap.size (fun k_ => P0_2_ k_) (.slice A0_2 l0_2.length c0_2) l0_2) (hr1 : Kd.C (Kd.int .i64) w A1 l1.length l1) (hc1 : l1.length ≤ c1) (h : gain_Take.f k a0_0 a0_1 l0_2 a0_3 l1 a2 = some (r1, r2, r3, r4, r5, r6)) :
  Calls Try.prog 47 #[.agg #[.int .u64 a0_0, .int .u32 a0_1, .slice A0_2 l0_2.length c0_2, .int .i64 a0_3], .slice A1 l1.length c1, .bool a2] w fun e w' => ∃ v2_ v4_ : Value, e = .returned (.tuple #[.agg #[.int .u64 r1, .int .u32 r2, v2_, .int .i64 r4], v4_, .int .i64 r6]) ∧ Kd.V (Kd.int .u8) 5 w' w.heap.size (fun k_ => (P0_2_ k_ ∨ w.heap.size ≤ k_) ∧ some k_ ≠ (v4_ : Value).ownBlock) v2_ r3 ∧ Kd.R (Kd.int .i64) 3 w' w.heap.size (fun k_ => (w.heap.size ≤ k_)) v4_ r5 ∧ Below w.heap.size w w' := by
 have hu43 := Try.underlying43
 have HO0_2 := zm (show Kd.V (Kd.int .u8) 5 w w.heap.size (fun k_ => (P0_2_ k_ ∨ w.heap.size ≤ k_)) (.slice A0_2 l0_2.length c0_2) l0_2 from zy hs0_2 (fun k_ hk => .inl hk))
 have HR1 := zm hr1
 have HC1 := zm hc1
 clear hr1 hc1
 have HB := zm (Below.refl w.heap.size w)
 have H : (if a2 = true then (gain_Take.j0 k l1 a2 false a0_0 a0_1 l0_2 a0_3) else ((gain_Right.f k l1).bind fun t741 => (gain_Take.j0 k l1 a2 (!t741) a0_0 a0_1 l0_2 a0_3))) = some (r1, r2, r3, r4, r5, r6) := h
 clear h
 have HC4 := zm H
 clear H
 go_enter Try.func47, Try.ntmps47
 go_upto_region 1 with (first | ((with_reducible refine gate_dst (N := 3) rfl ?_); refine box_event ?hg (N := 3) ?hd (cs := #[.int .u64 a0_0, .int .u32 a0_1, .slice A0_2 l0_2.length c0_2, .int .i64 a0_3]) (t := 43) ?hr ?_; (case hd => rfl); (case hg => rfl); (case hr => first | (go_simp; done) | (go_simp; rfl)); intro gb739 hg w5 hbox hb; have n0_ := zm (Kd.V_below (Kd.V_elderB (by (with_reducible repeat (first | apply zA | apply zB | apply zC)); exact HO0_2.out) gb739 (Nat.le_of_eq hg.symm)) hb); have n1_ := zm (zJ (by repeat (first | (with_reducible first | exact HB.out | apply ze | apply zd | apply zf) | exact HB.out)) hb); have n2_ := zm (hbox); have n3_ := zm ((by rw [hg]; exact (zE (by repeat (first | (with_reducible first | exact HB.out | apply ze | apply zd | apply zf) | exact HB.out))) : w.heap.size ≤ gb739)); have n4_ := zm ((by rw [hg]; exact (zE (by repeat (first | (with_reducible first | exact HB.out | apply ze | apply zd | apply zf) | exact HB.out))) : w.heap.size ≤ gb739)); clear HO0_2; clear HB; have HO0_2 := n0_; have HB := n1_; have BK739 := n2_; have GW739 := n3_; have GE739 := n4_; clear n0_ n1_ n2_ n3_ n4_; clear hb hbox hg) | ((with_reducible refine gate_dst (N := 6) rfl ?_); refine box_event ?hg (N := 6) ?hd (cs := #[.int .u64 0, .int .u32 0, .slice none 0 0, .int .i64 0]) (t := 43) ?hr ?_; (case hd => rfl); (case hg => rfl); (case hr => first | (go_simp; done) | (go_simp; rfl)); intro gb740 hg w6 hbox hb; have n0_ := zm (Kd.V_below (Kd.V_elderB (by (with_reducible repeat (first | apply zA | apply zB | apply zC)); exact HO0_2.out) gb740 (Nat.le_of_eq hg.symm)) hb); have n1_ := zm (zF (g := gb739) (o := .cells #[.int .u64 a0_0, .int .u32 a0_1, .slice A0_2 l0_2.length c0_2, .int .i64 a0_3] 43 (0, 0)) (by (with_reducible repeat (first | refine zh ?_ _ | refine zj ?_ | refine zi ?_ _)); exact BK739.out) hb); have n2_ := zm (zJ (by repeat (first | (with_reducible first | exact HB.out | apply ze | apply zd | apply zf | refine zk ?_ GE739.out) | exact HB.out)) hb); have n3_ := zm (hbox); have n4_ := zm ((by rw [hg]; exact (zE (by repeat (first | (with_reducible first | exact HB.out | apply ze | apply zd | apply zf | refine zk ?_ GE739.out) | exact HB.out))) : w.heap.size ≤ gb740)); have n5_ := zm ((by rw [hg]; exact (zE (by repeat (first | (with_reducible first | exact HB.out | apply ze | apply zd | apply zf | refine zk ?_ GE739.out) | exact HB.out))) : w.heap.size ≤ gb740)); have n6_ := zm ((by rw [hg]; exact zn (zD (g := gb739) (o := .cells #[.int .u64 a0_0, .int .u32 a0_1, .slice A0_2 l0_2.length c0_2, .int .i64 a0_3] 43 (0, 0)) (by (with_reducible repeat (first | refine zh ?_ _ | refine zj ?_ | refine zi ?_ _)); exact BK739.out)) : gb739 ≠ gb740)); have n7_ := zm ((by rw [hg]; exact zg (zD (g := gb739) (o := .cells #[.int .u64 a0_0, .int .u32 a0_1, .slice A0_2 l0_2.length c0_2, .int .i64 a0_3] 43 (0, 0)) (by (with_reducible repeat (first | refine zh ?_ _ | refine zj ?_ | refine zi ?_ _)); exact BK739.out)) : gb740 ≠ gb739)); clear HO0_2; clear BK739; clear HB; have HO0_2 := n0_; have BK739 := n1_; have HB := n2_; have BK740 := n3_; have GW740 := n4_; have GE740 := n5_; have NB739_740 := n6_; have NB740_739 := n7_; clear n0_ n1_ n2_ n3_ n4_ n5_ n6_ n7_; clear hb hbox hg))
 (try simp only [Act.put, List.setIfInBounds_toArray, List.set_cons_zero, List.set_cons_succ])
 go_cut [20] (fun v20 wc => ∃ (kq : Nat) (x20_3 : Bool), v20 = .bool x20_3 ∧ Aside0 (gain_Take.j0 kq l1 a2 x20_3 a0_0 a0_1 l0_2 a0_3 = some (r1, r2, r3, r4, r5, r6)) ∧ Aside0 (kq ≤ k) ∧ Aside0 (Kd.V (Kd.int .u8) 5 wc w.heap.size (fun k_ => (P0_2_ k_ ∨ w.heap.size ≤ k_) ∧ k_ ≠ gb739 ∧ k_ ≠ gb740) (.slice A0_2 l0_2.length c0_2) l0_2) ∧ Aside0 (wc.heap[gb739]? = some (.cells #[.int .u64 a0_0, .int .u32 a0_1, (.slice A0_2 l0_2.length c0_2), .int .i64 a0_3] 43 (0, 0))) ∧ Aside0 (wc.heap[gb740]? = some (.cells #[.int .u64 0, .int .u32 0, (.slice none 0 0), .int .i64 0] 43 (0, 0))) ∧ Aside0 (Below w.heap.size w wc))
 case first =>
  have H := HC4.out
  clear HC4
  by_cases c7 : a2 = true
  ·
   subst c7
   have H1 : (gain_Take.j0 k l1 true false a0_0 a0_1 l0_2 a0_3) = some (r1, r2, r3, r4, r5, r6) := by rw [if_pos rfl] at H; exact H
   clear H
   have H := H1
   clear H1
   have H' := zm H
   clear H
   go_wp2
   go_meet
   case rel => exact ⟨_, (false), (by first | rfl | (simp; done) | (simp [*]; done)), H', ⟨by first | omega | exact Nat.le_refl _⟩, ⟨by (with_reducible repeat (first | apply zA | apply zB | apply zC)); exact zy HO0_2.out (fun _ hk => ⟨hk.1.1, ⟨hk.1.2, hk.2⟩⟩)⟩, ⟨by (with_reducible repeat (first | refine zh ?_ _ | refine zj ?_ | refine zi ?_ _)); exact BK739.out⟩, ⟨by (with_reducible repeat (first | refine zh ?_ _ | refine zj ?_ | refine zi ?_ _)); exact BK740.out⟩, ⟨by repeat (first | (with_reducible first | exact HB.out | apply ze | apply zd | apply zf | refine zk ?_ GE739.out | refine zk ?_ GE740.out) | exact HB.out)⟩⟩
  ·
   replace c7 := Bool.eq_false_iff.mpr c7
   subst c7
   have H1 : ((gain_Right.f k l1).bind fun t741 => (gain_Take.j0 k l1 false (!t741) a0_0 a0_1 l0_2 a0_3)) = some (r1, r2, r3, r4, r5, r6) := by rw [if_neg (show ¬ (false = true) by decide)] at H; exact H
   clear H
   have H := H1
   clear H1
   replace H := Option.bind_eq_some_iff.mp H
   obtain ⟨t741, A80, H⟩ := H
   replace H : (gain_Take.j0 k l1 false (!t741) a0_0 a0_1 l0_2 a0_3) = some (r1, r2, r3, r4, r5, r6) := H
   have A8 := zm A80
   clear A80
   have H' := zm H
   clear H
   go_wp2_with (first | (go_at_call 45; (with_reducible refine (gain_Right.calls k _ _ l1 t741 _ ?side1 ?side2 A8.out).mono ?_); (case side1 => repeat (first | exact (Kd.C_below HR1.out HB.out) | (with_reducible refine Kd.C_alloc ?_ _) | (with_reducible refine Kd.C_drewN ?_ _) | (with_reducible refine Kd.C_drew ?_))); (case side2 => exact HC1.out); rintro e w' ⟨rfl, ⟨nd, rfl⟩⟩))
   go_meet
   case rel => exact ⟨_, (!t741), (by first | rfl | (simp; done) | (simp [*]; done)), H', ⟨by first | omega | exact Nat.le_refl _⟩, ⟨by (with_reducible repeat (first | apply zA | apply zB | apply zC)); exact zy HO0_2.out (fun _ hk => ⟨hk.1.1, ⟨hk.1.2, hk.2⟩⟩)⟩, ⟨by (with_reducible repeat (first | refine zh ?_ _ | refine zj ?_ | refine zi ?_ _)); exact BK739.out⟩, ⟨by (with_reducible repeat (first | refine zh ?_ _ | refine zj ?_ | refine zi ?_ _)); exact BK740.out⟩, ⟨by repeat (first | (with_reducible first | exact HB.out | apply ze | apply zd | apply zf | refine zk ?_ GE739.out | refine zk ?_ GE740.out) | exact HB.out)⟩⟩
 case rest =>
  clear HC4
  try clear c1
  try clear p2
  try clear c4
  try clear c7
  obtain ⟨kq, x20_3, rfl, HA, HJ3, HO_740002, BK739, BK740, HB⟩ := hcut
  cases kq with
  | zero => exact absurd HA.out (by simp [gain_Take.j0])
  | succ kj3 =>
   have H := HA.out
   clear HA
   simp only [gain_Take.j0] at H
   by_cases c9 : x20_3 = true
   ·
    subst c9
    have H1 : ((coder_Take.f kj3 a0_0 a0_1 l0_2 a0_3 0 1 1).bind fun bt742 => (some (bt742.1, bt742.2.1, bt742.2.2.1, bt742.2.2.2.1, ([] : List Int), 1))) = some (r1, r2, r3, r4, r5, r6) := by rw [if_pos rfl] at H; exact H
    clear H
    have H := H1
    clear H1
    replace H := Option.bind_eq_some_iff.mp H
    obtain ⟨⟨t742, t743, t744, t747, t748⟩, A100, H⟩ := H
    replace H : (some (t742, t743, t744, t747, ([] : List Int), 1)) = some (r1, r2, r3, r4, r5, r6) := H
    have A10 := zm A100
    clear A100
    simp only [Option.some.injEq, Prod.mk.injEq] at H
    obtain ⟨rfl, rfl, rfl, rfl, rfl, rfl⟩ := H
    have hnb11 := NB739_740.out
    have hnc11 := NB740_739.out
    have hcz12_0 : wc.cell? ⟨gb739, 0, none⟩ = some (.int .u64 a0_0) := (zs BK739.out 0).trans rfl
    have hcz12_1 : wc.cell? ⟨gb739, 1, none⟩ = some (.int .u32 a0_1) := (zs BK739.out 1).trans rfl
    have hcz12_2 : wc.cell? ⟨gb739, 2, none⟩ = some (.slice A0_2 l0_2.length c0_2) := (zs BK739.out 2).trans rfl
    have hcz12_3 : wc.cell? ⟨gb739, 3, none⟩ = some (.int .i64 a0_3) := (zs BK739.out 3).trans rfl
    have hfz12_0 := zx BK739.out 0
    have hfz12_1 := zx BK739.out 1
    have hfz12_2 := zx BK739.out 2
    have hfz12_3 := zx BK739.out 3
    go_wp2_with (first | ((with_reducible refine gate_callee (f := 34) rfl ?_); refine goesL_ (some 23) rfl rfl Try.func34 (by kernel_rfl) rfl #[.agg #[.int .u64 a0_0, .int .u32 a0_1, .slice A0_2 l0_2.length c0_2, .int .i64 a0_3], .int .i64 0, .int .i64 1, .int .i64 1] rfl (by (try simp only [List.map_toArray, List.map_cons, List.map_nil]); first | done | rfl | (simp only [List.length_drop, List.length_take]; rfl)) ?_; (with_reducible refine (coder_Take.calls kj3 a0_0 a0_1 (fun k_ => ((P0_2_ k_ ∨ w.heap.size ≤ k_) ∧ (k_ ≠ gb739 ∧ k_ ≠ gb740))) _ _ l0_2 a0_3 0 1 1 t742 t743 t744 t747 t748 _ ?side1 A10.out).mono ?_); (case side1 => exact HO_740002.out); rintro e w13 ⟨v745, rfl, ho0, hb⟩; refine ⟨_, rfl, ?_⟩; have n0_ := zm (Kd.V_below (by (with_reducible repeat (first | apply zA | apply zB | apply zC)); exact HO_740002.out) hb); have n1_ := zm (Kd.V_lower (zy (ok' := fun k_ => (P0_2_ k_ ∨ w.heap.size ≤ k_) ∧ k_ ≠ gb739 ∧ k_ ≠ gb740) ho0 (fun k_ hk_ => ⟨Or.elim hk_ (fun hs_ => hs_.1) (fun hn_ => (.inr (Nat.le_trans (zE (by repeat (first | (with_reducible first | exact HB.out | apply ze | apply zd | apply zf | refine zk ?_ GE739.out | refine zk ?_ GE740.out) | exact HB.out))) hn_))), Or.elim hk_ (fun hs_ => hs_.2.1) (fun hn_ => (Kd.freshB (g := gb739) (o := .cells #[.int .u64 a0_0, .int .u32 a0_1, .slice A0_2 l0_2.length c0_2, .int .i64 a0_3] 43 (0, 0)) (by (with_reducible repeat (first | refine zh ?_ _ | refine zj ?_ | refine zi ?_ _)); exact BK739.out) k_ hn_)), Or.elim hk_ (fun hs_ => hs_.2.2) (fun hn_ => (Kd.freshB (g := gb740) (o := .cells #[.int .u64 0, .int .u32 0, .slice none 0 0, .int .i64 0] 43 (0, 0)) (by (with_reducible repeat (first | refine zh ?_ _ | refine zj ?_ | refine zi ?_ _)); exact BK740.out) k_ hn_))⟩)) (zE (by repeat (first | (with_reducible first | exact HB.out | apply ze | apply zd | apply zf | refine zk ?_ GE739.out | refine zk ?_ GE740.out) | exact HB.out)))); have n2_ := zm (zF (g := gb739) (o := .cells #[.int .u64 a0_0, .int .u32 a0_1, .slice A0_2 l0_2.length c0_2, .int .i64 a0_3] 43 (0, 0)) (by (with_reducible repeat (first | refine zh ?_ _ | refine zj ?_ | refine zi ?_ _)); exact BK739.out) hb); have n3_ := zm (zF (g := gb740) (o := .cells #[.int .u64 0, .int .u32 0, .slice none 0 0, .int .i64 0] 43 (0, 0)) (by (with_reducible repeat (first | refine zh ?_ _ | refine zj ?_ | refine zi ?_ _)); exact BK740.out) hb); have n4_ := zm (zJ (by repeat (first | (with_reducible first | exact HB.out | apply ze | apply zd | apply zf | refine zk ?_ GE739.out | refine zk ?_ GE740.out) | exact HB.out)) hb); clear HO_740002; clear BK739; clear BK740; clear HB; have HO_740002 := n0_; have HO746 := n1_; have BK739 := n2_; have BK740 := n3_; have HB := n4_; clear n0_ n1_ n2_ n3_ n4_; (try clear hb); (try clear hb2); (try clear hk); (try clear hi); (try clear ho0); have hcz14_0 : w13.cell? ⟨gb739, 0, none⟩ = some (.int .u64 a0_0) := (zs BK739.out 0).trans rfl; have hcz14_1 : w13.cell? ⟨gb739, 1, none⟩ = some (.int .u32 a0_1) := (zs BK739.out 1).trans rfl; have hcz14_2 : w13.cell? ⟨gb739, 2, none⟩ = some (.slice A0_2 l0_2.length c0_2) := (zs BK739.out 2).trans rfl; have hcz14_3 : w13.cell? ⟨gb739, 3, none⟩ = some (.int .i64 a0_3) := (zs BK739.out 3).trans rfl; have hfz14_0 := zx BK739.out 0; have hfz14_1 := zx BK739.out 1; have hfz14_2 := zx BK739.out 2; have hfz14_3 := zx BK739.out 3; obtain ⟨Ao15, co15, eo15⟩ := Kd.V_slice HO746.out; subst eo15; have hcz16_0 : w13.cell? ⟨gb740, 0, none⟩ = some (.int .u64 0) := (zs BK740.out 0).trans rfl; have hcz16_1 : w13.cell? ⟨gb740, 1, none⟩ = some (.int .u32 0) := (zs BK740.out 1).trans rfl; have hcz16_2 : w13.cell? ⟨gb740, 2, none⟩ = some (.slice none 0 0) := (zs BK740.out 2).trans rfl; have hcz16_3 : w13.cell? ⟨gb740, 3, none⟩ = some (.int .i64 0) := (zs BK740.out 3).trans rfl; have hfz16_0 := zx BK740.out 0; have hfz16_1 := zx BK740.out 1; have hfz16_2 := zx BK740.out 2; have hfz16_3 := zx BK740.out 3))
    refine bodyPost_ret (results_ctt rfl _ _ gb740 43 #[.int .u64 t742, .int .u32 t743, .slice Ao15 t744.length co15, .int .i64 t747] (0, 0) _ rfl (by (with_reducible repeat (first | refine zh ?_ _ | refine zj ?_ | refine zi ?_ _)); refine zw (cs := #[.int .u64 t742, .int .u32 t743, .slice Ao15 t744.length co15, .int .i64 0]) ?_ 3 _ rfl; (with_reducible repeat (first | refine zh ?_ _ | refine zj ?_ | refine zi ?_ _)); refine zw (cs := #[.int .u64 t742, .int .u32 t743, .slice none 0 0, .int .i64 0]) ?_ 2 _ rfl; (with_reducible repeat (first | refine zh ?_ _ | refine zj ?_ | refine zi ?_ _)); refine zw (cs := #[.int .u64 t742, .int .u32 0, .slice none 0 0, .int .i64 0]) ?_ 1 _ rfl; (with_reducible repeat (first | refine zh ?_ _ | refine zj ?_ | refine zi ?_ _)); refine zw (cs := #[.int .u64 0, .int .u32 0, .slice none 0 0, .int .i64 0]) ?_ 0 _ rfl; (with_reducible repeat (first | refine zh ?_ _ | refine zj ?_ | refine zi ?_ _)); refine zv ?_ NB740_739.out _; (with_reducible repeat (first | refine zh ?_ _ | refine zj ?_ | refine zi ?_ _)); refine zv ?_ NB740_739.out _; (with_reducible repeat (first | refine zh ?_ _ | refine zj ?_ | refine zi ?_ _)); refine zv ?_ NB740_739.out _; (with_reducible repeat (first | refine zh ?_ _ | refine zj ?_ | refine zi ?_ _)); refine zv ?_ NB740_739.out _; (with_reducible repeat (first | refine zh ?_ _ | refine zj ?_ | refine zi ?_ _)); exact BK740.out) Try.underlying43 rfl (by kernel_rfl)) rfl ?_
    exact ⟨_, _, by first | rfl | (simp [errW_none, errW_some] <;> rfl) | (simp [*, errW_none, errW_some] <;> rfl), by (with_reducible repeat (first | apply zA | apply zB | apply zC)); exact zy (zI (p := ⟨gb740, 3, none⟩) (zI (p := ⟨gb740, 2, none⟩) (zI (p := ⟨gb740, 1, none⟩) (zI (p := ⟨gb740, 0, none⟩) (zI (p := ⟨gb739, 3, none⟩) (zI (p := ⟨gb739, 2, none⟩) (zI (p := ⟨gb739, 1, none⟩) (zI (p := ⟨gb739, 0, none⟩) (zy (zy HO746.out (fun k_ hk => (⟨hk, hk.2.1⟩ : _ ∧ k_ ≠ gb739))) (fun k_ hk => (⟨hk, hk.1.2.2⟩ : _ ∧ k_ ≠ gb740))) (fun _ hk => hk.1.2) (.int .u64 t742)) (fun _ hk => hk.1.2) (.int .u32 t743)) (fun _ hk => hk.1.2) (.slice Ao15 t744.length co15)) (fun _ hk => hk.1.2) (.int .i64 t747)) (fun _ hk => hk.2) (.int .u64 t742)) (fun _ hk => hk.2) (.int .u32 t743)) (fun _ hk => hk.2) (.slice Ao15 t744.length co15)) (fun _ hk => hk.2) (.int .i64 t747)) (fun _ hk => ⟨hk.1.1.1, (by simp [Value.ownBlock])⟩), by first | exact Kd.R_nil _ _ _ _ _ | exact Kd.N_nil _ _ _ _ _ | exact Kd.V_nil _ _ _ _ _ | exact Kd.Q_nil _ _ _ _ _ | exact Kd.S_nil _ _ _ _ _, by repeat (first | (with_reducible first | exact HB.out | apply ze | apply zd | apply zf | refine zk ?_ GE739.out | refine zk ?_ GE740.out) | exact HB.out)⟩
   ·
    replace c9 := Bool.eq_false_iff.mpr c9
    subst c9
    have H1 : (gain_Take.l0 kj3 l1 a2 ([] : List Int) 0 a0_0 a0_1 l0_2 a0_3) = some (r1, r2, r3, r4, r5, r6) := by rw [if_neg (show ¬ (false = true) by decide)] at H; exact H
    clear H
    have H := H1
    clear H1
    have H' := zm H
    clear H
    go_wp2
    go_loopg [9, 27] kj3 (fun kq v9 v27 w' => ∃ (x9_2 : List Int) (x27_2 : Int) (x740000_2 : Int) (x740001_2 : Int) (x740002_2 : List Int) (x740003_2 : Int) (u740002 : Value), v27 = .int .i64 x27_2 ∧ Aside0 (gain_Take.l0 kq l1 a2 x9_2 x27_2 x740000_2 x740001_2 x740002_2 x740003_2 = some (r1, r2, r3, r4, r5, r6)) ∧ Aside0 (kq ≤ kj3) ∧ Aside0 (Kd.R (Kd.int .i64) 3 w' w.heap.size (fun k_ => (w.heap.size ≤ k_)) v9 x9_2) ∧ Aside0 (Kd.V (Kd.int .u8) 5 w' w.heap.size (fun k_ => (P0_2_ k_ ∨ w.heap.size ≤ k_) ∧ some k_ ≠ (v9 : Value).ownBlock ∧ k_ ≠ gb739 ∧ k_ ≠ gb740) u740002 x740002_2) ∧ Aside0 (w'.heap[gb739]? = some (.cells #[.int .u64 x740000_2, .int .u32 x740001_2, u740002, .int .i64 x740003_2] 43 (0, 0))) ∧ Aside0 (w'.heap[gb740]? = some (.cells #[.int .u64 0, .int .u32 0, (.slice none 0 0), .int .i64 0] 43 (0, 0))) ∧ Aside0 (Below w.heap.size w w'))
    case atStart => exact ⟨(([] : List Int)), (0), (a0_0), (a0_1), (l0_2), (a0_3), (.slice A0_2 l0_2.length c0_2), (by first | rfl | (simp; done) | (simp [*]; done)), H', ⟨Nat.le_refl _⟩, ⟨by first | exact Kd.R_nil _ _ _ _ _ | exact Kd.N_nil _ _ _ _ _ | exact Kd.V_nil _ _ _ _ _ | exact Kd.Q_nil _ _ _ _ _ | exact Kd.S_nil _ _ _ _ _⟩, ⟨by (with_reducible repeat (first | apply zA | apply zB | apply zC)); exact zy HO_740002.out (fun _ hk => ⟨hk.1, ⟨(by simp [Value.ownBlock]), ⟨hk.2.1, hk.2.2⟩⟩⟩)⟩, ⟨by (with_reducible repeat (first | refine zh ?_ _ | refine zj ?_ | refine zi ?_ _)); exact BK739.out⟩, ⟨by (with_reducible repeat (first | refine zh ?_ _ | refine zj ?_ | refine zi ?_ _)); exact BK740.out⟩, ⟨by repeat (first | (with_reducible first | exact HB.out | apply ze | apply zd | apply zf | refine zk ?_ GE739.out | refine zk ?_ GE740.out) | exact HB.out)⟩⟩
    case round =>
     clear H'
     try clear c1
     try clear p2
     try clear c3
     try clear c4
     try clear c7
     try clear c9
     try clear c11
     try clear hcz12_0
     try clear hcz12_1
     try clear hcz12_2
     try clear hcz12_3
     try clear hcz14_0
     try clear hcz14_1
     try clear hcz14_2
     try clear hcz14_3
     try clear hcz16_0
     try clear hcz16_1
     try clear hcz16_2
     try clear hcz16_3
     try clear hfz12_0
     try clear hfz12_1
     try clear hfz12_2
     try clear hfz12_3
     try clear hfz14_0
     try clear hfz14_1
     try clear hfz14_2
     try clear hfz14_3
     try clear hfz16_0
     try clear hfz16_1
     try clear hfz16_2
     try clear hfz16_3
     try clear p2
     obtain ⟨x9_2, x27_2, x740000_2, x740001_2, x740002_2, x740003_2, u740002, rfl, HA, HK2, HO_9, HO_740002, BK739, BK740, HB⟩ := hrel
     cases gk with
     | zero => exact absurd HA.out (by simp [gain_Take.l0])
     | succ k2 =>
      have H := HA.out
      clear HA
      simp only [gain_Take.l0] at H
      by_cases c17 : x27_2 < 5
      ·
       rw [if_pos c17] at H
       have c17b0 : decide (x27_2 < 5) = true := decide_eq_true c17
       clear c17
       by_cases c18 : a2 = true
       ·
        subst c18
        have H1 : ((gain_take.f k2 x740000_2 x740001_2 x740002_2 x740003_2 0 true).bind fun bt749 => (if x9_2.length < 17592186044416 then (gain_Take.l0 k2 l1 true (x9_2 ++ [bt749.2.2.2.2]) (wrap64 (x27_2 + 1)) bt749.1 bt749.2.1 bt749.2.2.1 bt749.2.2.2.1) else (none))) = some (r1, r2, r3, r4, r5, r6) := by rw [if_pos rfl] at H; exact H
        clear H
        have H := H1
        clear H1
        replace H := Option.bind_eq_some_iff.mp H
        obtain ⟨⟨t749, t750, t751, t754, t755⟩, A190, H⟩ := H
        replace H : (if x9_2.length < 17592186044416 then (gain_Take.l0 k2 l1 true (x9_2 ++ [t755]) (wrap64 (x27_2 + 1)) t749 t750 t751 t754) else (none)) = some (r1, r2, r3, r4, r5, r6) := H
        have A19 := zm A190
        clear A190
        by_cases c20 : x9_2.length < 17592186044416
        ·
         rw [if_pos c20] at H
         have LMc20 := zm c20
         clear c20
         obtain ⟨y757, hy757⟩ : ∃ y_ : List Int, y_ = (x9_2 ++ [t755]) := ⟨_, rfl⟩
         replace H : (gain_Take.l0 k2 l1 true y757 (wrap64 (x27_2 + 1)) t749 t750 t751 t754) = some (r1, r2, r3, r4, r5, r6) := by first | (rw [hy757]; with_reducible exact H) | (have H2_ := (Option.bind_some _ _).symm.trans H; rw [hy757]; with_reducible exact H2_) | (have H2_ := (Option.bind_some _ _).symm.trans H; with_reducible exact H2_) | with_reducible exact H | (rw [hy757]; exact H) | exact H
         have Ny757 := zm hy757
         clear hy757
         have H' := zm H
         clear H
         have hnb21 := NB739_740.out
         have hnc21 := NB740_739.out
         have hcz22_0 : wr.cell? ⟨gb739, 0, none⟩ = some (.int .u64 x740000_2) := (zs BK739.out 0).trans rfl
         have hcz22_1 : wr.cell? ⟨gb739, 1, none⟩ = some (.int .u32 x740001_2) := (zs BK739.out 1).trans rfl
         have hcz22_2 : wr.cell? ⟨gb739, 2, none⟩ = some (u740002) := (zs BK739.out 2).trans rfl
         have hcz22_3 : wr.cell? ⟨gb739, 3, none⟩ = some (.int .i64 x740003_2) := (zs BK739.out 3).trans rfl
         have hfz22_0 := zx BK739.out 0
         have hfz22_1 := zx BK739.out 1
         have hfz22_2 := zx BK739.out 2
         have hfz22_3 := zx BK739.out 3
         obtain ⟨Ao23, co23, eo23⟩ := Kd.V_slice HO_740002.out
         subst eo23
         try go_wp2_with (first | ((with_reducible refine gate_callee (f := 65) rfl ?_); refine goesL_ (some 40) rfl rfl Try.func65 (by kernel_rfl) rfl #[.agg #[.int .u64 x740000_2, .int .u32 x740001_2, .slice Ao23 x740002_2.length co23, .int .i64 x740003_2], .int .i64 0, .bool true] rfl (by (try simp only [List.map_toArray, List.map_cons, List.map_nil]); first | done | rfl | (simp only [List.length_drop, List.length_take]; rfl)) ?_; (with_reducible refine (gain_take.calls k2 x740000_2 x740001_2 (fun k_ => ((P0_2_ k_ ∨ w.heap.size ≤ k_) ∧ (some k_ ≠ (u9 : Value).ownBlock ∧ (k_ ≠ gb739 ∧ k_ ≠ gb740)))) _ _ x740002_2 x740003_2 0 true t749 t750 t751 t754 t755 _ ?side1 A19.out).mono ?_); (case side1 => exact HO_740002.out); rintro e w24 ⟨v752, rfl, ho0, hb⟩; refine ⟨_, rfl, ?_⟩; have n0_ := zm (Kd.R_below (by (with_reducible repeat (first | apply zo | apply zp | apply zq)); exact HO_9.out) hb); have n1_ := zm (Kd.V_below (by (with_reducible repeat (first | apply zA | apply zB | apply zC)); exact HO_740002.out) hb); have n2_ := zm (Kd.V_lower (zy (ok' := fun k_ => (P0_2_ k_ ∨ w.heap.size ≤ k_) ∧ some k_ ≠ (u9 : Value).ownBlock ∧ k_ ≠ gb739 ∧ k_ ≠ gb740) ho0 (fun k_ hk_ => ⟨Or.elim hk_ (fun hs_ => hs_.1) (fun hn_ => (.inr (Nat.le_trans (zE (by repeat (first | (with_reducible first | exact HB.out | apply ze | apply zd | apply zf | refine zk ?_ GE739.out | refine zk ?_ GE740.out) | exact HB.out))) hn_))), Or.elim hk_ (fun hs_ => hs_.2.1) (fun hn_ => (Kd.fresh' (Kd.R_lt (by (with_reducible repeat (first | apply zo | apply zp | apply zq)); exact HO_9.out)) k_ hn_)), Or.elim hk_ (fun hs_ => hs_.2.2.1) (fun hn_ => (Kd.freshB (g := gb739) (o := .cells #[.int .u64 x740000_2, .int .u32 x740001_2, .slice Ao23 x740002_2.length co23, .int .i64 x740003_2] 43 (0, 0)) (by (with_reducible repeat (first | refine zh ?_ _ | refine zj ?_ | refine zi ?_ _)); exact BK739.out) k_ hn_)), Or.elim hk_ (fun hs_ => hs_.2.2.2) (fun hn_ => (Kd.freshB (g := gb740) (o := .cells #[.int .u64 0, .int .u32 0, .slice none 0 0, .int .i64 0] 43 (0, 0)) (by (with_reducible repeat (first | refine zh ?_ _ | refine zj ?_ | refine zi ?_ _)); exact BK740.out) k_ hn_))⟩)) (zE (by repeat (first | (with_reducible first | exact HB.out | apply ze | apply zd | apply zf | refine zk ?_ GE739.out | refine zk ?_ GE740.out) | exact HB.out)))); have n3_ := zm (zF (g := gb739) (o := .cells #[.int .u64 x740000_2, .int .u32 x740001_2, .slice Ao23 x740002_2.length co23, .int .i64 x740003_2] 43 (0, 0)) (by (with_reducible repeat (first | refine zh ?_ _ | refine zj ?_ | refine zi ?_ _)); exact BK739.out) hb); have n4_ := zm (zF (g := gb740) (o := .cells #[.int .u64 0, .int .u32 0, .slice none 0 0, .int .i64 0] 43 (0, 0)) (by (with_reducible repeat (first | refine zh ?_ _ | refine zj ?_ | refine zi ?_ _)); exact BK740.out) hb); have n5_ := zm (zJ (by repeat (first | (with_reducible first | exact HB.out | apply ze | apply zd | apply zf | refine zk ?_ GE739.out | refine zk ?_ GE740.out) | exact HB.out)) hb); clear HO_9; clear HO_740002; clear BK739; clear BK740; clear HB; have HO_9 := n0_; have HO_740002 := n1_; have HO753 := n2_; have BK739 := n3_; have BK740 := n4_; have HB := n5_; clear n0_ n1_ n2_ n3_ n4_ n5_; (try clear hb); (try clear hb2); (try clear hk); (try clear hi); (try clear ho0)) | ((with_reducible refine gate_dst (N := 12) rfl ?_); refine box_event ?hg (N := 12) ?hd (cs := #[.int .u64 0, .int .u32 0, .slice none 0 0, .int .i64 0]) (t := 43) ?hr ?_; (case hd => rfl); (case hg => rfl); (case hr => first | (go_simp; done) | (go_simp; rfl)); intro gb756 hg w25 hbox hb; have n0_ := zm (Kd.R_below (by (with_reducible repeat (first | apply zo | apply zp | apply zq)); exact HO_9.out) hb); have n1_ := zm (Kd.V_below (Kd.V_elderB (by (with_reducible repeat (first | apply zA | apply zB | apply zC)); exact HO_740002.out) gb756 (Nat.le_of_eq hg.symm)) hb); have n2_ := zm (Kd.V_below (Kd.V_elderB (by (with_reducible repeat (first | apply zA | apply zB | apply zC)); exact HO753.out) gb756 (Nat.le_of_eq hg.symm)) hb); have n3_ := zm (zF (g := gb739) (o := .cells #[.int .u64 x740000_2, .int .u32 x740001_2, .slice Ao23 x740002_2.length co23, .int .i64 x740003_2] 43 (0, 0)) (by (with_reducible repeat (first | refine zh ?_ _ | refine zj ?_ | refine zi ?_ _)); exact BK739.out) hb); have n4_ := zm (zF (g := gb740) (o := .cells #[.int .u64 0, .int .u32 0, .slice none 0 0, .int .i64 0] 43 (0, 0)) (by (with_reducible repeat (first | refine zh ?_ _ | refine zj ?_ | refine zi ?_ _)); exact BK740.out) hb); have n5_ := zm (zJ (by repeat (first | (with_reducible first | exact HB.out | apply ze | apply zd | apply zf | refine zk ?_ GE739.out | refine zk ?_ GE740.out) | exact HB.out)) hb); have n6_ := zm (hbox); have n7_ := zm ((by rw [hg]; exact (zE (by repeat (first | (with_reducible first | exact HB.out | apply ze | apply zd | apply zf | refine zk ?_ GE739.out | refine zk ?_ GE740.out) | exact HB.out))) : w.heap.size ≤ gb756)); have n8_ := zm ((by rw [hg]; exact (zE (by repeat (first | (with_reducible first | exact HB.out | apply ze | apply zd | apply zf | refine zk ?_ GE739.out | refine zk ?_ GE740.out) | exact HB.out))) : w.heap.size ≤ gb756)); have n9_ := zm ((by rw [hg]; exact zn (zD (g := gb739) (o := .cells #[.int .u64 x740000_2, .int .u32 x740001_2, .slice Ao23 x740002_2.length co23, .int .i64 x740003_2] 43 (0, 0)) (by (with_reducible repeat (first | refine zh ?_ _ | refine zj ?_ | refine zi ?_ _)); exact BK739.out)) : gb739 ≠ gb756)); have n10_ := zm ((by rw [hg]; exact zg (zD (g := gb739) (o := .cells #[.int .u64 x740000_2, .int .u32 x740001_2, .slice Ao23 x740002_2.length co23, .int .i64 x740003_2] 43 (0, 0)) (by (with_reducible repeat (first | refine zh ?_ _ | refine zj ?_ | refine zi ?_ _)); exact BK739.out)) : gb756 ≠ gb739)); have n11_ := zm ((by rw [hg]; exact zn (zD (g := gb740) (o := .cells #[.int .u64 0, .int .u32 0, .slice none 0 0, .int .i64 0] 43 (0, 0)) (by (with_reducible repeat (first | refine zh ?_ _ | refine zj ?_ | refine zi ?_ _)); exact BK740.out)) : gb740 ≠ gb756)); have n12_ := zm ((by rw [hg]; exact zg (zD (g := gb740) (o := .cells #[.int .u64 0, .int .u32 0, .slice none 0 0, .int .i64 0] 43 (0, 0)) (by (with_reducible repeat (first | refine zh ?_ _ | refine zj ?_ | refine zi ?_ _)); exact BK740.out)) : gb756 ≠ gb740)); clear HO_9; clear HO_740002; clear HO753; clear BK739; clear BK740; clear HB; have HO_9 := n0_; have HO_740002 := n1_; have HO753 := n2_; have BK739 := n3_; have BK740 := n4_; have HB := n5_; have BK756 := n6_; have GW756 := n7_; have GE756 := n8_; have NB739_756 := n9_; have NB756_739 := n10_; have NB740_756 := n11_; have NB756_740 := n12_; clear n0_ n1_ n2_ n3_ n4_ n5_ n6_ n7_ n8_ n9_ n10_ n11_ n12_; clear hb hbox hg; have hnb26 := NB756_739.out; have hnc26 := NB739_756.out; have hnb27 := NB756_740.out; have hnc27 := NB740_756.out; have hcz28_0 : w25.cell? ⟨gb756, 0, none⟩ = some (.int .u64 0) := (zs BK756.out 0).trans rfl; have hcz28_1 : w25.cell? ⟨gb756, 1, none⟩ = some (.int .u32 0) := (zs BK756.out 1).trans rfl; have hcz28_2 : w25.cell? ⟨gb756, 2, none⟩ = some (.slice none 0 0) := (zs BK756.out 2).trans rfl; have hcz28_3 : w25.cell? ⟨gb756, 3, none⟩ = some (.int .i64 0) := (zs BK756.out 3).trans rfl; have hfz28_0 := zx BK756.out 0; have hfz28_1 := zx BK756.out 1; have hfz28_2 := zx BK756.out 2; have hfz28_3 := zx BK756.out 3; obtain ⟨Ao29, co29, eo29⟩ := Kd.V_slice HO753.out; subst eo29))
         have n0_ : Aside0 (Kd.R (Kd.int .i64) 3 ((((w25.setCell ⟨gb756, 0, none⟩ (.int .u64 t749)).setCell ⟨gb756, 1, none⟩ (.int .u32 t750)).setCell ⟨gb756, 2, none⟩ (.slice Ao29 t751.length co29)).setCell ⟨gb756, 3, none⟩ (.int .i64 t754)) w.heap.size (fun k_ => (w.heap.size ≤ k_)) u9 x9_2) := ⟨by (with_reducible repeat (first | apply zo | apply zp | apply zq)); exact zG (zH (p := ⟨gb756, 3, none⟩) (zH (p := ⟨gb756, 2, none⟩) (zH (p := ⟨gb756, 1, none⟩) (zH (p := ⟨gb756, 0, none⟩) (Kd.R_types HO_9.out BK756.out (by decide)) (fun _ hk => hk.2) (.int .u64 t749)) (fun _ hk => hk.2) (.int .u32 t750)) (fun _ hk => hk.2) (.slice Ao29 t751.length co29)) (fun _ hk => hk.2) (.int .i64 t754)) (fun _ hk => hk.1)⟩
         have n1_ : Aside0 (Kd.V (Kd.int .u8) 5 ((((w25.setCell ⟨gb756, 0, none⟩ (.int .u64 t749)).setCell ⟨gb756, 1, none⟩ (.int .u32 t750)).setCell ⟨gb756, 2, none⟩ (.slice Ao29 t751.length co29)).setCell ⟨gb756, 3, none⟩ (.int .i64 t754)) w.heap.size (fun k_ => (P0_2_ k_ ∨ w.heap.size ≤ k_) ∧ some k_ ≠ (u9 : Value).ownBlock ∧ k_ ≠ gb739 ∧ k_ ≠ gb740 ∧ k_ ≠ gb756) (.slice Ao23 x740002_2.length co23) x740002_2) := ⟨by (with_reducible repeat (first | apply zA | apply zB | apply zC)); exact zy (zI (p := ⟨gb756, 3, none⟩) (zI (p := ⟨gb756, 2, none⟩) (zI (p := ⟨gb756, 1, none⟩) (zI (p := ⟨gb756, 0, none⟩) (zy HO_740002.out (fun k_ hk => (⟨hk, hk.2⟩ : _ ∧ k_ ≠ gb756))) (fun _ hk => hk.2) (.int .u64 t749)) (fun _ hk => hk.2) (.int .u32 t750)) (fun _ hk => hk.2) (.slice Ao29 t751.length co29)) (fun _ hk => hk.2) (.int .i64 t754)) (fun _ hk => ⟨hk.1.1.1, ⟨hk.1.1.2.1, ⟨hk.1.1.2.2.1, ⟨hk.1.1.2.2.2, hk.1.2⟩⟩⟩⟩)⟩
         have n2_ : Aside0 (Kd.V (Kd.int .u8) 5 ((((w25.setCell ⟨gb756, 0, none⟩ (.int .u64 t749)).setCell ⟨gb756, 1, none⟩ (.int .u32 t750)).setCell ⟨gb756, 2, none⟩ (.slice Ao29 t751.length co29)).setCell ⟨gb756, 3, none⟩ (.int .i64 t754)) w.heap.size (fun k_ => (P0_2_ k_ ∨ w.heap.size ≤ k_) ∧ some k_ ≠ (u9 : Value).ownBlock ∧ k_ ≠ gb739 ∧ k_ ≠ gb740 ∧ k_ ≠ gb756) (.slice Ao29 t751.length co29) t751) := ⟨by (with_reducible repeat (first | apply zA | apply zB | apply zC)); exact zy (zI (p := ⟨gb756, 3, none⟩) (zI (p := ⟨gb756, 2, none⟩) (zI (p := ⟨gb756, 1, none⟩) (zI (p := ⟨gb756, 0, none⟩) (zy HO753.out (fun k_ hk => (⟨hk, hk.2⟩ : _ ∧ k_ ≠ gb756))) (fun _ hk => hk.2) (.int .u64 t749)) (fun _ hk => hk.2) (.int .u32 t750)) (fun _ hk => hk.2) (.slice Ao29 t751.length co29)) (fun _ hk => hk.2) (.int .i64 t754)) (fun _ hk => ⟨hk.1.1.1, ⟨hk.1.1.2.1, ⟨hk.1.1.2.2.1, ⟨hk.1.1.2.2.2, hk.1.2⟩⟩⟩⟩)⟩
         have n3_ : Aside0 (((((w25.setCell ⟨gb756, 0, none⟩ (.int .u64 t749)).setCell ⟨gb756, 1, none⟩ (.int .u32 t750)).setCell ⟨gb756, 2, none⟩ (.slice Ao29 t751.length co29)).setCell ⟨gb756, 3, none⟩ (.int .i64 t754)).heap[gb739]? = some (.cells #[.int .u64 x740000_2, .int .u32 x740001_2, .slice Ao23 x740002_2.length co23, .int .i64 x740003_2] 43 (0, 0))) := ⟨by (with_reducible repeat (first | refine zh ?_ _ | refine zj ?_ | refine zi ?_ _)); refine zv ?_ NB739_756.out _; (with_reducible repeat (first | refine zh ?_ _ | refine zj ?_ | refine zi ?_ _)); refine zv ?_ NB739_756.out _; (with_reducible repeat (first | refine zh ?_ _ | refine zj ?_ | refine zi ?_ _)); refine zv ?_ NB739_756.out _; (with_reducible repeat (first | refine zh ?_ _ | refine zj ?_ | refine zi ?_ _)); refine zv ?_ NB739_756.out _; (with_reducible repeat (first | refine zh ?_ _ | refine zj ?_ | refine zi ?_ _)); exact BK739.out⟩
         have n4_ : Aside0 (((((w25.setCell ⟨gb756, 0, none⟩ (.int .u64 t749)).setCell ⟨gb756, 1, none⟩ (.int .u32 t750)).setCell ⟨gb756, 2, none⟩ (.slice Ao29 t751.length co29)).setCell ⟨gb756, 3, none⟩ (.int .i64 t754)).heap[gb740]? = some (.cells #[.int .u64 0, .int .u32 0, .slice none 0 0, .int .i64 0] 43 (0, 0))) := ⟨by (with_reducible repeat (first | refine zh ?_ _ | refine zj ?_ | refine zi ?_ _)); refine zv ?_ NB740_756.out _; (with_reducible repeat (first | refine zh ?_ _ | refine zj ?_ | refine zi ?_ _)); refine zv ?_ NB740_756.out _; (with_reducible repeat (first | refine zh ?_ _ | refine zj ?_ | refine zi ?_ _)); refine zv ?_ NB740_756.out _; (with_reducible repeat (first | refine zh ?_ _ | refine zj ?_ | refine zi ?_ _)); refine zv ?_ NB740_756.out _; (with_reducible repeat (first | refine zh ?_ _ | refine zj ?_ | refine zi ?_ _)); exact BK740.out⟩
         have n5_ : Aside0 (((((w25.setCell ⟨gb756, 0, none⟩ (.int .u64 t749)).setCell ⟨gb756, 1, none⟩ (.int .u32 t750)).setCell ⟨gb756, 2, none⟩ (.slice Ao29 t751.length co29)).setCell ⟨gb756, 3, none⟩ (.int .i64 t754)).heap[gb756]? = some (.cells #[.int .u64 t749, .int .u32 t750, .slice Ao29 t751.length co29, .int .i64 t754] 43 (0, 0))) := ⟨by (with_reducible repeat (first | refine zh ?_ _ | refine zj ?_ | refine zi ?_ _)); refine zw (cs := #[.int .u64 t749, .int .u32 t750, .slice Ao29 t751.length co29, .int .i64 0]) ?_ 3 _ rfl; (with_reducible repeat (first | refine zh ?_ _ | refine zj ?_ | refine zi ?_ _)); refine zw (cs := #[.int .u64 t749, .int .u32 t750, .slice none 0 0, .int .i64 0]) ?_ 2 _ rfl; (with_reducible repeat (first | refine zh ?_ _ | refine zj ?_ | refine zi ?_ _)); refine zw (cs := #[.int .u64 t749, .int .u32 0, .slice none 0 0, .int .i64 0]) ?_ 1 _ rfl; (with_reducible repeat (first | refine zh ?_ _ | refine zj ?_ | refine zi ?_ _)); refine zw (cs := #[.int .u64 0, .int .u32 0, .slice none 0 0, .int .i64 0]) ?_ 0 _ rfl; (with_reducible repeat (first | refine zh ?_ _ | refine zj ?_ | refine zi ?_ _)); exact BK756.out⟩
         have n6_ : Aside0 (Below w.heap.size w ((((w25.setCell ⟨gb756, 0, none⟩ (.int .u64 t749)).setCell ⟨gb756, 1, none⟩ (.int .u32 t750)).setCell ⟨gb756, 2, none⟩ (.slice Ao29 t751.length co29)).setCell ⟨gb756, 3, none⟩ (.int .i64 t754))) := ⟨by repeat (first | (with_reducible first | exact HB.out | apply ze | apply zd | apply zf | refine zk ?_ GE739.out | refine zk ?_ GE740.out | refine zk ?_ GE756.out) | exact HB.out)⟩
         (try clear HO_9)
         (try clear HO_740002)
         (try clear HO753)
         (try clear BK739)
         (try clear BK740)
         (try clear BK756)
         (try clear HB)
         generalize ((((w25.setCell ⟨gb756, 0, none⟩ (.int .u64 t749)).setCell ⟨gb756, 1, none⟩ (.int .u32 t750)).setCell ⟨gb756, 2, none⟩ (.slice Ao29 t751.length co29)).setCell ⟨gb756, 3, none⟩ (.int .i64 t754)) = w30 at n0_ n1_ n2_ n3_ n4_ n5_ n6_ ⊢
         have HO_9 := n0_
         have HO_740002 := n1_
         have HO753 := n2_
         have BK739 := n3_
         have BK740 := n4_
         have BK756 := n5_
         have HB := n6_
         clear n0_ n1_ n2_ n3_ n4_ n5_ n6_
         have n0_ := zm (zq HO_9.out)
         have n1_ := zm (zC HO_740002.out)
         have n2_ := zm (zC HO753.out)
         have n3_ := zm (zj BK739.out)
         have n4_ := zm (zj BK740.out)
         have n5_ := zm (zj BK756.out)
         have n6_ := zm (zf HB.out)
         clear HO_9
         clear HO_740002
         clear HO753
         clear BK739
         clear BK740
         clear BK756
         clear HB
         have HO_9 := n0_
         have HO_740002 := n1_
         have HO753 := n2_
         have BK739 := n3_
         have BK740 := n4_
         have BK756 := n5_
         have HB := n6_
         clear n0_ n1_ n2_ n3_ n4_ n5_ n6_
         refine start_ (n := 7) (S := fun w' => w'.cell? ⟨gb756, 0, none⟩ = some (.int .u64 t749) ∧ w'.cell? ⟨gb756, 1, none⟩ = some (.int .u32 t750) ∧ w'.cell? ⟨gb756, 2, none⟩ = some (.slice Ao29 t751.length co29) ∧ w'.cell? ⟨gb756, 3, none⟩ = some (.int .i64 t754)) (ds := []) #[false, false, false, false, false, false, false] (by kernel_rfl) rfl rfl ⟨(zs BK756.out 0).trans rfl, (zs BK756.out 1).trans rfl, (zs BK756.out 2).trans rfl, (zs BK756.out 3).trans rfl⟩ (fun hHeld => ?_)
         generalize w30.drew = w31 at HO_9 HO_740002 HO753 BK739 BK740 BK756 HB hHeld ⊢
         refine pure_ (i := 1) (N := some 44) (v := ?_) (a' := ?_) #[false, true, false, false, false, false, false] rfl rfl (by kernel_rfl) (fun _ _ _ h => h) (Or.inl ⟨by rfl, ?_⟩) ?_ ?_
         rotate_left
         ·
          intro w'
          go_simp
          with_reducible rfl
         rotate_left
         ·
          simp only [Act.put, List.setIfInBounds_toArray, List.set_cons_zero, List.set_cons_succ, i64_w, i32_w]
          rfl
         refine pure_ (i := 2) (N := some 45) (v := ?_) (a' := ?_) #[false, true, true, false, false, false, false] rfl rfl (by kernel_rfl) (fun _ _ _ h => h) (Or.inl ⟨by rfl, ?_⟩) ?_ ?_
         rotate_left
         ·
          intro w'
          go_simp
          with_reducible rfl
         rotate_left
         ·
          simp only [Act.put, List.setIfInBounds_toArray, List.set_cons_zero, List.set_cons_succ, i64_w, i32_w]
          rfl
         refine take_ (i := 0) (N := some 43) (v := ?_) (a' := ?_) #[true, true, true, false, false, false, false] rfl rfl (by kernel_rfl) (fun _ _ _ h => h) (Or.inl ⟨by rfl, ?_⟩) hHeld ?_ ?_
         rotate_left
         ·
          rintro w' ⟨s0, s1, s2, s3⟩
          go_simp
          with_reducible rfl
         rotate_left
         ·
          simp only [Act.put, List.setIfInBounds_toArray, List.set_cons_zero, List.set_cons_succ, i64_w, i32_w]
          rfl
         refine one_ (i := 3) (N := some 46) #[true, true, true, true, false, false, false] rfl rfl (by kernel_rfl) (by decide) (fun K hK => ?_)
         refine value_ (w1 := ?_) (v := ?_) (by rfl) rfl ?_ ?_
         rotate_left 2
         ·
          go_simp
          constructor
          ·
           rfl
          ·
           rfl
         refine hK.out _ _ ⟨(zs (zi BK756.out _) 0).trans rfl, (zs (zi BK756.out _) 1).trans rfl, (zs (zi BK756.out _) 2).trans rfl, (zs (zi BK756.out _) 3).trans rfl⟩ (fun hHeld => ?_)
         clear hK K
         refine norm_ (a' := ?_) ?_ ?_
         rotate_left
         ·
          show Act.put _ (some 46) _ = _
          simp only [Act.put, List.setIfInBounds_toArray, List.set_cons_zero, List.set_cons_succ, i64_w, i32_w]
          rfl
         refine one_ (i := 4) (N := some 47) #[true, true, true, true, true, false, false] rfl rfl (by kernel_rfl) (by decide) (fun K hK => ?_)
         refine Kd.R_append_step (Kd.int .i64) (w0 := w) w.heap.size (by rfl) (.tmp 44) (.tmp 46) 31 3 (.int .i64 0) 8 rfl Try.underlying31 info3 rfl (by decide) (by omega) u9 x9_2 t755 [.int .i64 t755] (fun k_ => (w.heap.size ≤ k_)) (fun _ => False) rfl rfl ?aP (fun _ hk => hk.elim) ?aF ?aO ?aB ?aS ?aL ?_
         (case aP => exact rfl)
         (case aB => exact (by repeat (first | (with_reducible first | exact HB.out | apply ze | apply zd | apply zf | refine zk ?_ GE739.out | refine zk ?_ GE740.out | refine zk ?_ GE756.out) | exact HB.out)))
         (case aF => exact (fun k_ hk => (Nat.le_trans (zE (by repeat (first | (with_reducible first | exact HB.out | apply ze | apply zd | apply zf | refine zk ?_ GE739.out | refine zk ?_ GE740.out | refine zk ?_ GE756.out) | exact HB.out))) hk)))
         (case aO => exact (by (with_reducible repeat (first | apply zo | apply zp | apply zq)); exact HO_9.out))
         (case aS => exact (zE (by repeat (first | (with_reducible first | exact HB.out | apply ze | apply zd | apply zf | refine zk ?_ GE739.out | refine zk ?_ GE740.out | refine zk ?_ GE756.out) | exact HB.out))))
         (case aL => have := LMc20.out; omega)
         intro v758 w32 ho hb hg hat
         rw [← Ny757.out] at ho
         have n0_ := zm (Kd.V_afterv (ok := (fun k_ => (P0_2_ k_ ∨ w.heap.size ≤ k_) ∧ k_ ≠ gb739 ∧ k_ ≠ gb740 ∧ k_ ≠ gb756)) (by (with_reducible repeat (first | apply zA | apply zB | apply zC)); exact zy HO_740002.out (fun _ hk => ⟨⟨hk.1, ⟨hk.2.2.1, ⟨hk.2.2.2.1, hk.2.2.2.2⟩⟩⟩, hk.2.1⟩)) hg hat)
         have n1_ := zm (blk_grown (g := gb739) (o := .cells #[.int .u64 x740000_2, .int .u32 x740001_2, .slice Ao23 x740002_2.length co23, .int .i64 x740003_2] 43 (0, 0)) (by (with_reducible repeat (first | refine zh ?_ _ | refine zj ?_ | refine zi ?_ _)); exact BK739.out) hg (zu HO_9.out BK739.out (by decide)))
         have n2_ := zm (blk_grown (g := gb740) (o := .cells #[.int .u64 0, .int .u32 0, .slice none 0 0, .int .i64 0] 43 (0, 0)) (by (with_reducible repeat (first | refine zh ?_ _ | refine zj ?_ | refine zi ?_ _)); exact BK740.out) hg (zu HO_9.out BK740.out (by decide)))
         have n3_ := zm (Kd.V_afterv (ok := (fun k_ => (P0_2_ k_ ∨ w.heap.size ≤ k_) ∧ k_ ≠ gb739 ∧ k_ ≠ gb740 ∧ k_ ≠ gb756)) (by (with_reducible repeat (first | apply zA | apply zB | apply zC)); exact zy HO753.out (fun _ hk => ⟨⟨hk.1, ⟨hk.2.2.1, ⟨hk.2.2.2.1, hk.2.2.2.2⟩⟩⟩, hk.2.1⟩)) hg hat)
         have n4_ := zm (blk_grown (g := gb756) (o := .cells #[.int .u64 t749, .int .u32 t750, .slice Ao29 t751.length co29, .int .i64 t754] 43 (0, 0)) (by (with_reducible repeat (first | refine zh ?_ _ | refine zj ?_ | refine zi ?_ _)); exact BK756.out) hg (zu HO_9.out BK756.out (by decide)))
         have n5_ := zm (hb)
         have n6_ := zm (ho)
         clear HO_740002
         clear BK739
         clear BK740
         clear HO753
         clear BK756
         clear HB
         clear HO_9
         have HO_740002 := n0_
         have BK739 := n1_
         have BK740 := n2_
         have HO753 := n3_
         have BK756 := n4_
         have HB := n5_
         have HO759 := n6_
         clear n0_ n1_ n2_ n3_ n4_ n5_ n6_
         clear ho hb hg hat
         refine hK.out _ _ ⟨(zs BK756.out 0).trans rfl, (zs BK756.out 1).trans rfl, (zs BK756.out 2).trans rfl, (zs BK756.out 3).trans rfl⟩ (fun hHeld => ?_)
         clear hK K
         refine norm_ (a' := ?_) ?_ ?_
         rotate_left
         ·
          show Act.put _ (some 47) _ = _
          simp only [Act.put, List.setIfInBounds_toArray, List.set_cons_zero, List.set_cons_succ, i64_w, i32_w]
          rfl
         refine one_ (i := 5) (N := none) #[true, true, true, true, true, true, false] rfl rfl (by kernel_rfl) (by decide) (fun K hK => ?_)
         have hs33 : w32.cell? ⟨gb739, 0, none⟩ = some (.int .u64 x740000_2) := (zs BK739.out 0).trans rfl
         have hfs33 := zx BK739.out 0
         have hns33_1 := NB740_739.out
         have hns33_2 := NB756_739.out
         have hms33_1 := NB739_740.out
         have hms33_2 := NB739_756.out
         have hs34 : w32.cell? ⟨gb739, 1, none⟩ = some (.int .u32 x740001_2) := (zs BK739.out 1).trans rfl
         have hfs34 := zx BK739.out 1
         have hns34_1 := NB740_739.out
         have hns34_2 := NB756_739.out
         have hms34_1 := NB739_740.out
         have hms34_2 := NB739_756.out
         have hs35 : w32.cell? ⟨gb739, 2, none⟩ = some (.slice Ao23 x740002_2.length co23) := (zs BK739.out 2).trans rfl
         have hfs35 := zx BK739.out 2
         have hns35_1 := NB740_739.out
         have hns35_2 := NB756_739.out
         have hms35_1 := NB739_740.out
         have hms35_2 := NB739_756.out
         have hs36 : w32.cell? ⟨gb739, 3, none⟩ = some (.int .i64 x740003_2) := (zs BK739.out 3).trans rfl
         have hfs36 := zx BK739.out 3
         have hns36_1 := NB740_739.out
         have hns36_2 := NB756_739.out
         have hms36_1 := NB739_740.out
         have hms36_2 := NB739_756.out
         refine skip_ (w1 := ?_) (by rfl) rfl ?_ ?_
         rotate_left
         ·
          go_simp
          rfl
         refine hK.out _ _ ⟨((zr (p := ⟨gb739, _, none⟩) NB756_739.out _).trans (((zr (p := ⟨gb739, _, none⟩) NB756_739.out _).trans (((zr (p := ⟨gb739, _, none⟩) NB756_739.out _).trans (((zr (p := ⟨gb739, _, none⟩) NB756_739.out _).trans (hHeld.1)))))))), ((zr (p := ⟨gb739, _, none⟩) NB756_739.out _).trans (((zr (p := ⟨gb739, _, none⟩) NB756_739.out _).trans (((zr (p := ⟨gb739, _, none⟩) NB756_739.out _).trans (((zr (p := ⟨gb739, _, none⟩) NB756_739.out _).trans (hHeld.2.1)))))))), ((zr (p := ⟨gb739, _, none⟩) NB756_739.out _).trans (((zr (p := ⟨gb739, _, none⟩) NB756_739.out _).trans (((zr (p := ⟨gb739, _, none⟩) NB756_739.out _).trans (((zr (p := ⟨gb739, _, none⟩) NB756_739.out _).trans (hHeld.2.2.1)))))))), ((zr (p := ⟨gb739, _, none⟩) NB756_739.out _).trans (((zr (p := ⟨gb739, _, none⟩) NB756_739.out _).trans (((zr (p := ⟨gb739, _, none⟩) NB756_739.out _).trans (((zr (p := ⟨gb739, _, none⟩) NB756_739.out _).trans (hHeld.2.2.2))))))))⟩ (fun hHeld => ?_)
         clear hK K
         refine pure_ (i := 6) (N := some 9) (v := ?_) (a' := ?_) #[true, true, true, true, true, true, true] rfl rfl (by kernel_rfl) (fun _ _ _ h => h) (Or.inl ⟨by rfl, ?_⟩) ?_ ?_
         rotate_left
         ·
          intro w'
          go_simp
          with_reducible rfl
         rotate_left
         ·
          simp only [Act.put, List.setIfInBounds_toArray, List.set_cons_zero, List.set_cons_succ, i64_w, i32_w]
          rfl
         refine done_ (by kernel_rfl) ?_
         try go_wp2
         go_roundg k2
         case measure => have := HJ3.out; have := HK2.out; omega
         case rel => exact ⟨(y757), (wrap64 (x27_2 + 1)), (t749), (t750), (t751), (t754), (.slice Ao29 t751.length co29), (by first | rfl | (simp; done) | (simp [*]; done)), H', ⟨by have := HJ3.out; have := HK2.out; omega⟩, ⟨by (with_reducible repeat (first | apply zo | apply zp | apply zq)); exact zG (zH (p := ⟨gb739, 3, none⟩) (zH (p := ⟨gb739, 2, none⟩) (zH (p := ⟨gb739, 1, none⟩) (zH (p := ⟨gb739, 0, none⟩) (Kd.R_types HO759.out BK739.out (by decide)) (fun _ hk => hk.2) (.int .u64 t749)) (fun _ hk => hk.2) (.int .u32 t750)) (fun _ hk => hk.2) (.slice Ao29 t751.length co29)) (fun _ hk => hk.2) (.int .i64 t754)) (fun _ hk => hk.1)⟩, ⟨by (with_reducible repeat (first | apply zA | apply zB | apply zC)); exact zy (zI (p := ⟨gb739, 3, none⟩) (zI (p := ⟨gb739, 2, none⟩) (zI (p := ⟨gb739, 1, none⟩) (zI (p := ⟨gb739, 0, none⟩) (zy HO753.out (fun k_ hk => (⟨hk, hk.1.2.1⟩ : _ ∧ k_ ≠ gb739))) (fun _ hk => hk.2) (.int .u64 t749)) (fun _ hk => hk.2) (.int .u32 t750)) (fun _ hk => hk.2) (.slice Ao29 t751.length co29)) (fun _ hk => hk.2) (.int .i64 t754)) (fun _ hk => ⟨hk.1.1.1, ⟨hk.1.2, ⟨hk.1.1.2.1, hk.1.1.2.2.1⟩⟩⟩)⟩, ⟨by (with_reducible repeat (first | refine zh ?_ _ | refine zj ?_ | refine zi ?_ _)); refine zw (cs := #[.int .u64 t749, .int .u32 t750, .slice Ao29 t751.length co29, .int .i64 x740003_2]) ?_ 3 _ rfl; (with_reducible repeat (first | refine zh ?_ _ | refine zj ?_ | refine zi ?_ _)); refine zw (cs := #[.int .u64 t749, .int .u32 t750, .slice Ao23 x740002_2.length co23, .int .i64 x740003_2]) ?_ 2 _ rfl; (with_reducible repeat (first | refine zh ?_ _ | refine zj ?_ | refine zi ?_ _)); refine zw (cs := #[.int .u64 t749, .int .u32 x740001_2, .slice Ao23 x740002_2.length co23, .int .i64 x740003_2]) ?_ 1 _ rfl; (with_reducible repeat (first | refine zh ?_ _ | refine zj ?_ | refine zi ?_ _)); refine zw (cs := #[.int .u64 x740000_2, .int .u32 x740001_2, .slice Ao23 x740002_2.length co23, .int .i64 x740003_2]) ?_ 0 _ rfl; (with_reducible repeat (first | refine zh ?_ _ | refine zj ?_ | refine zi ?_ _)); exact BK739.out⟩, ⟨by (with_reducible repeat (first | refine zh ?_ _ | refine zj ?_ | refine zi ?_ _)); refine zv ?_ NB740_739.out _; (with_reducible repeat (first | refine zh ?_ _ | refine zj ?_ | refine zi ?_ _)); refine zv ?_ NB740_739.out _; (with_reducible repeat (first | refine zh ?_ _ | refine zj ?_ | refine zi ?_ _)); refine zv ?_ NB740_739.out _; (with_reducible repeat (first | refine zh ?_ _ | refine zj ?_ | refine zi ?_ _)); refine zv ?_ NB740_739.out _; (with_reducible repeat (first | refine zh ?_ _ | refine zj ?_ | refine zi ?_ _)); exact BK740.out⟩, ⟨by repeat (first | (with_reducible first | exact HB.out | apply ze | apply zd | apply zf | refine zk ?_ GE739.out | refine zk ?_ GE740.out | refine zk ?_ GE756.out) | exact HB.out)⟩⟩
        ·
         rw [if_neg c20] at H
         exact absurd H (by simp)
       ·
        replace c18 := Bool.eq_false_iff.mpr c18
        subst c18
        have H1 : (if 0 ≤ x27_2 then (if x27_2 < (l1.length : Int) then ((gain_take.f k2 x740000_2 x740001_2 x740002_2 x740003_2 (rd l1 x27_2) false).bind fun bt761 => (if x9_2.length < 17592186044416 then (gain_Take.l0 k2 l1 false (x9_2 ++ [bt761.2.2.2.2]) (wrap64 (x27_2 + 1)) bt761.1 bt761.2.1 bt761.2.2.1 bt761.2.2.2.1) else (none))) else (none)) else (none)) = some (r1, r2, r3, r4, r5, r6) := by rw [if_neg (show ¬ (false = true) by decide)] at H; exact H
        clear H
        have H := H1
        clear H1
        by_cases c37 : 0 ≤ x27_2
        ·
         rw [if_pos c37] at H
         have c37b0 : decide (0 ≤ x27_2) = true := decide_eq_true c37
         clear c37
         by_cases c38 : x27_2 < (l1.length : Int)
         ·
          rw [if_pos c38] at H
          have c38b0 : decide (x27_2 < (l1.length : Int)) = true := decide_eq_true c38
          clear c38
          replace H := Option.bind_eq_some_iff.mp H
          obtain ⟨⟨t761, t762, t763, t766, t767⟩, A390, H⟩ := H
          replace H : (if x9_2.length < 17592186044416 then (gain_Take.l0 k2 l1 false (x9_2 ++ [t767]) (wrap64 (x27_2 + 1)) t761 t762 t763 t766) else (none)) = some (r1, r2, r3, r4, r5, r6) := H
          have A39 := zm A390
          clear A390
          by_cases c40 : x9_2.length < 17592186044416
          ·
           rw [if_pos c40] at H
           have LMc40 := zm c40
           clear c40
           obtain ⟨y769, hy769⟩ : ∃ y_ : List Int, y_ = (x9_2 ++ [t767]) := ⟨_, rfl⟩
           replace H : (gain_Take.l0 k2 l1 false y769 (wrap64 (x27_2 + 1)) t761 t762 t763 t766) = some (r1, r2, r3, r4, r5, r6) := by first | (rw [hy769]; with_reducible exact H) | (have H2_ := (Option.bind_some _ _).symm.trans H; rw [hy769]; with_reducible exact H2_) | (have H2_ := (Option.bind_some _ _).symm.trans H; with_reducible exact H2_) | with_reducible exact H | (rw [hy769]; exact H) | exact H
           have Ny769 := zm hy769
           clear hy769
           have H' := zm H
           clear H
           have p760 : 0 ≤ (x27_2 : Int) := of_decide_eq_true (by first | (with_reducible assumption) | assumption)
           have q760 : x27_2 < (l1.length : Int) := of_decide_eq_true (by first | (with_reducible assumption) | assumption)
           obtain ⟨ad760, e760, hx760_0⟩ := Kd.at_int HR1.out x27_2 p760 q760
           cases e760
           replace hx760_0 := (HB.out.cell (zb w _ hx760_0)).trans hx760_0
           replace p760 := eq_true p760
           replace q760 := eq_true q760
           have hnb41 := NB739_740.out
           have hnc41 := NB740_739.out
           have hcz42_0 : wr.cell? ⟨gb739, 0, none⟩ = some (.int .u64 x740000_2) := (zs BK739.out 0).trans rfl
           have hcz42_1 : wr.cell? ⟨gb739, 1, none⟩ = some (.int .u32 x740001_2) := (zs BK739.out 1).trans rfl
           have hcz42_2 : wr.cell? ⟨gb739, 2, none⟩ = some (u740002) := (zs BK739.out 2).trans rfl
           have hcz42_3 : wr.cell? ⟨gb739, 3, none⟩ = some (.int .i64 x740003_2) := (zs BK739.out 3).trans rfl
           have hfz42_0 := zx BK739.out 0
           have hfz42_1 := zx BK739.out 1
           have hfz42_2 := zx BK739.out 2
           have hfz42_3 := zx BK739.out 3
           obtain ⟨Ao43, co43, eo43⟩ := Kd.V_slice HO_740002.out
           subst eo43
           try go_wp2_with (first | ((with_reducible refine gate_callee (f := 65) rfl ?_); refine goesL_ (some 40) rfl rfl Try.func65 (by kernel_rfl) rfl #[.agg #[.int .u64 x740000_2, .int .u32 x740001_2, .slice Ao43 x740002_2.length co43, .int .i64 x740003_2], .int .i64 (rd l1 x27_2), .bool false] rfl (by (try simp only [List.map_toArray, List.map_cons, List.map_nil]); first | done | rfl | (simp only [List.length_drop, List.length_take]; rfl)) ?_; (with_reducible refine (gain_take.calls k2 x740000_2 x740001_2 (fun k_ => ((P0_2_ k_ ∨ w.heap.size ≤ k_) ∧ (some k_ ≠ (u9 : Value).ownBlock ∧ (k_ ≠ gb739 ∧ k_ ≠ gb740)))) _ _ x740002_2 x740003_2 (rd l1 x27_2) false t761 t762 t763 t766 t767 _ ?side1 A39.out).mono ?_); (case side1 => exact HO_740002.out); rintro e w44 ⟨v764, rfl, ho0, hb⟩; refine ⟨_, rfl, ?_⟩; have n0_ := zm (Kd.R_below (by (with_reducible repeat (first | apply zo | apply zp | apply zq)); exact HO_9.out) hb); have n1_ := zm (Kd.V_below (by (with_reducible repeat (first | apply zA | apply zB | apply zC)); exact HO_740002.out) hb); have n2_ := zm (Kd.V_lower (zy (ok' := fun k_ => (P0_2_ k_ ∨ w.heap.size ≤ k_) ∧ some k_ ≠ (u9 : Value).ownBlock ∧ k_ ≠ gb739 ∧ k_ ≠ gb740) ho0 (fun k_ hk_ => ⟨Or.elim hk_ (fun hs_ => hs_.1) (fun hn_ => (.inr (Nat.le_trans (zE (by repeat (first | (with_reducible first | exact HB.out | apply ze | apply zd | apply zf | refine zk ?_ GE739.out | refine zk ?_ GE740.out) | exact HB.out))) hn_))), Or.elim hk_ (fun hs_ => hs_.2.1) (fun hn_ => (Kd.fresh' (Kd.R_lt (by (with_reducible repeat (first | apply zo | apply zp | apply zq)); exact HO_9.out)) k_ hn_)), Or.elim hk_ (fun hs_ => hs_.2.2.1) (fun hn_ => (Kd.freshB (g := gb739) (o := .cells #[.int .u64 x740000_2, .int .u32 x740001_2, .slice Ao43 x740002_2.length co43, .int .i64 x740003_2] 43 (0, 0)) (by (with_reducible repeat (first | refine zh ?_ _ | refine zj ?_ | refine zi ?_ _)); exact BK739.out) k_ hn_)), Or.elim hk_ (fun hs_ => hs_.2.2.2) (fun hn_ => (Kd.freshB (g := gb740) (o := .cells #[.int .u64 0, .int .u32 0, .slice none 0 0, .int .i64 0] 43 (0, 0)) (by (with_reducible repeat (first | refine zh ?_ _ | refine zj ?_ | refine zi ?_ _)); exact BK740.out) k_ hn_))⟩)) (zE (by repeat (first | (with_reducible first | exact HB.out | apply ze | apply zd | apply zf | refine zk ?_ GE739.out | refine zk ?_ GE740.out) | exact HB.out)))); have n3_ := zm (zF (g := gb739) (o := .cells #[.int .u64 x740000_2, .int .u32 x740001_2, .slice Ao43 x740002_2.length co43, .int .i64 x740003_2] 43 (0, 0)) (by (with_reducible repeat (first | refine zh ?_ _ | refine zj ?_ | refine zi ?_ _)); exact BK739.out) hb); have n4_ := zm (zF (g := gb740) (o := .cells #[.int .u64 0, .int .u32 0, .slice none 0 0, .int .i64 0] 43 (0, 0)) (by (with_reducible repeat (first | refine zh ?_ _ | refine zj ?_ | refine zi ?_ _)); exact BK740.out) hb); have n5_ := zm (zJ (by repeat (first | (with_reducible first | exact HB.out | apply ze | apply zd | apply zf | refine zk ?_ GE739.out | refine zk ?_ GE740.out) | exact HB.out)) hb); clear HO_9; clear HO_740002; clear BK739; clear BK740; clear HB; have HO_9 := n0_; have HO_740002 := n1_; have HO765 := n2_; have BK739 := n3_; have BK740 := n4_; have HB := n5_; clear n0_ n1_ n2_ n3_ n4_ n5_; (try clear hb); (try clear hb2); (try clear hk); (try clear hi); (try clear ho0)) | ((with_reducible refine gate_dst (N := 12) rfl ?_); refine box_event ?hg (N := 12) ?hd (cs := #[.int .u64 0, .int .u32 0, .slice none 0 0, .int .i64 0]) (t := 43) ?hr ?_; (case hd => rfl); (case hg => rfl); (case hr => first | (go_simp; done) | (go_simp; rfl)); intro gb768 hg w45 hbox hb; have n0_ := zm (Kd.R_below (by (with_reducible repeat (first | apply zo | apply zp | apply zq)); exact HO_9.out) hb); have n1_ := zm (Kd.V_below (Kd.V_elderB (by (with_reducible repeat (first | apply zA | apply zB | apply zC)); exact HO_740002.out) gb768 (Nat.le_of_eq hg.symm)) hb); have n2_ := zm (Kd.V_below (Kd.V_elderB (by (with_reducible repeat (first | apply zA | apply zB | apply zC)); exact HO765.out) gb768 (Nat.le_of_eq hg.symm)) hb); have n3_ := zm (zF (g := gb739) (o := .cells #[.int .u64 x740000_2, .int .u32 x740001_2, .slice Ao43 x740002_2.length co43, .int .i64 x740003_2] 43 (0, 0)) (by (with_reducible repeat (first | refine zh ?_ _ | refine zj ?_ | refine zi ?_ _)); exact BK739.out) hb); have n4_ := zm (zF (g := gb740) (o := .cells #[.int .u64 0, .int .u32 0, .slice none 0 0, .int .i64 0] 43 (0, 0)) (by (with_reducible repeat (first | refine zh ?_ _ | refine zj ?_ | refine zi ?_ _)); exact BK740.out) hb); have n5_ := zm (zJ (by repeat (first | (with_reducible first | exact HB.out | apply ze | apply zd | apply zf | refine zk ?_ GE739.out | refine zk ?_ GE740.out) | exact HB.out)) hb); have n6_ := zm (hbox); have n7_ := zm ((by rw [hg]; exact (zE (by repeat (first | (with_reducible first | exact HB.out | apply ze | apply zd | apply zf | refine zk ?_ GE739.out | refine zk ?_ GE740.out) | exact HB.out))) : w.heap.size ≤ gb768)); have n8_ := zm ((by rw [hg]; exact (zE (by repeat (first | (with_reducible first | exact HB.out | apply ze | apply zd | apply zf | refine zk ?_ GE739.out | refine zk ?_ GE740.out) | exact HB.out))) : w.heap.size ≤ gb768)); have n9_ := zm ((by rw [hg]; exact zn (zD (g := gb739) (o := .cells #[.int .u64 x740000_2, .int .u32 x740001_2, .slice Ao43 x740002_2.length co43, .int .i64 x740003_2] 43 (0, 0)) (by (with_reducible repeat (first | refine zh ?_ _ | refine zj ?_ | refine zi ?_ _)); exact BK739.out)) : gb739 ≠ gb768)); have n10_ := zm ((by rw [hg]; exact zg (zD (g := gb739) (o := .cells #[.int .u64 x740000_2, .int .u32 x740001_2, .slice Ao43 x740002_2.length co43, .int .i64 x740003_2] 43 (0, 0)) (by (with_reducible repeat (first | refine zh ?_ _ | refine zj ?_ | refine zi ?_ _)); exact BK739.out)) : gb768 ≠ gb739)); have n11_ := zm ((by rw [hg]; exact zn (zD (g := gb740) (o := .cells #[.int .u64 0, .int .u32 0, .slice none 0 0, .int .i64 0] 43 (0, 0)) (by (with_reducible repeat (first | refine zh ?_ _ | refine zj ?_ | refine zi ?_ _)); exact BK740.out)) : gb740 ≠ gb768)); have n12_ := zm ((by rw [hg]; exact zg (zD (g := gb740) (o := .cells #[.int .u64 0, .int .u32 0, .slice none 0 0, .int .i64 0] 43 (0, 0)) (by (with_reducible repeat (first | refine zh ?_ _ | refine zj ?_ | refine zi ?_ _)); exact BK740.out)) : gb768 ≠ gb740)); clear HO_9; clear HO_740002; clear HO765; clear BK739; clear BK740; clear HB; have HO_9 := n0_; have HO_740002 := n1_; have HO765 := n2_; have BK739 := n3_; have BK740 := n4_; have HB := n5_; have BK768 := n6_; have GW768 := n7_; have GE768 := n8_; have NB739_768 := n9_; have NB768_739 := n10_; have NB740_768 := n11_; have NB768_740 := n12_; clear n0_ n1_ n2_ n3_ n4_ n5_ n6_ n7_ n8_ n9_ n10_ n11_ n12_; clear hb hbox hg; have hnb46 := NB768_739.out; have hnc46 := NB739_768.out; have hnb47 := NB768_740.out; have hnc47 := NB740_768.out; have hcz48_0 : w45.cell? ⟨gb768, 0, none⟩ = some (.int .u64 0) := (zs BK768.out 0).trans rfl; have hcz48_1 : w45.cell? ⟨gb768, 1, none⟩ = some (.int .u32 0) := (zs BK768.out 1).trans rfl; have hcz48_2 : w45.cell? ⟨gb768, 2, none⟩ = some (.slice none 0 0) := (zs BK768.out 2).trans rfl; have hcz48_3 : w45.cell? ⟨gb768, 3, none⟩ = some (.int .i64 0) := (zs BK768.out 3).trans rfl; have hfz48_0 := zx BK768.out 0; have hfz48_1 := zx BK768.out 1; have hfz48_2 := zx BK768.out 2; have hfz48_3 := zx BK768.out 3; obtain ⟨Ao49, co49, eo49⟩ := Kd.V_slice HO765.out; subst eo49))
           have n0_ : Aside0 (Kd.R (Kd.int .i64) 3 ((((w45.setCell ⟨gb768, 0, none⟩ (.int .u64 t761)).setCell ⟨gb768, 1, none⟩ (.int .u32 t762)).setCell ⟨gb768, 2, none⟩ (.slice Ao49 t763.length co49)).setCell ⟨gb768, 3, none⟩ (.int .i64 t766)) w.heap.size (fun k_ => (w.heap.size ≤ k_)) u9 x9_2) := ⟨by (with_reducible repeat (first | apply zo | apply zp | apply zq)); exact zG (zH (p := ⟨gb768, 3, none⟩) (zH (p := ⟨gb768, 2, none⟩) (zH (p := ⟨gb768, 1, none⟩) (zH (p := ⟨gb768, 0, none⟩) (Kd.R_types HO_9.out BK768.out (by decide)) (fun _ hk => hk.2) (.int .u64 t761)) (fun _ hk => hk.2) (.int .u32 t762)) (fun _ hk => hk.2) (.slice Ao49 t763.length co49)) (fun _ hk => hk.2) (.int .i64 t766)) (fun _ hk => hk.1)⟩
           have n1_ : Aside0 (Kd.V (Kd.int .u8) 5 ((((w45.setCell ⟨gb768, 0, none⟩ (.int .u64 t761)).setCell ⟨gb768, 1, none⟩ (.int .u32 t762)).setCell ⟨gb768, 2, none⟩ (.slice Ao49 t763.length co49)).setCell ⟨gb768, 3, none⟩ (.int .i64 t766)) w.heap.size (fun k_ => (P0_2_ k_ ∨ w.heap.size ≤ k_) ∧ some k_ ≠ (u9 : Value).ownBlock ∧ k_ ≠ gb739 ∧ k_ ≠ gb740 ∧ k_ ≠ gb768) (.slice Ao43 x740002_2.length co43) x740002_2) := ⟨by (with_reducible repeat (first | apply zA | apply zB | apply zC)); exact zy (zI (p := ⟨gb768, 3, none⟩) (zI (p := ⟨gb768, 2, none⟩) (zI (p := ⟨gb768, 1, none⟩) (zI (p := ⟨gb768, 0, none⟩) (zy HO_740002.out (fun k_ hk => (⟨hk, hk.2⟩ : _ ∧ k_ ≠ gb768))) (fun _ hk => hk.2) (.int .u64 t761)) (fun _ hk => hk.2) (.int .u32 t762)) (fun _ hk => hk.2) (.slice Ao49 t763.length co49)) (fun _ hk => hk.2) (.int .i64 t766)) (fun _ hk => ⟨hk.1.1.1, ⟨hk.1.1.2.1, ⟨hk.1.1.2.2.1, ⟨hk.1.1.2.2.2, hk.1.2⟩⟩⟩⟩)⟩
           have n2_ : Aside0 (Kd.V (Kd.int .u8) 5 ((((w45.setCell ⟨gb768, 0, none⟩ (.int .u64 t761)).setCell ⟨gb768, 1, none⟩ (.int .u32 t762)).setCell ⟨gb768, 2, none⟩ (.slice Ao49 t763.length co49)).setCell ⟨gb768, 3, none⟩ (.int .i64 t766)) w.heap.size (fun k_ => (P0_2_ k_ ∨ w.heap.size ≤ k_) ∧ some k_ ≠ (u9 : Value).ownBlock ∧ k_ ≠ gb739 ∧ k_ ≠ gb740 ∧ k_ ≠ gb768) (.slice Ao49 t763.length co49) t763) := ⟨by (with_reducible repeat (first | apply zA | apply zB | apply zC)); exact zy (zI (p := ⟨gb768, 3, none⟩) (zI (p := ⟨gb768, 2, none⟩) (zI (p := ⟨gb768, 1, none⟩) (zI (p := ⟨gb768, 0, none⟩) (zy HO765.out (fun k_ hk => (⟨hk, hk.2⟩ : _ ∧ k_ ≠ gb768))) (fun _ hk => hk.2) (.int .u64 t761)) (fun _ hk => hk.2) (.int .u32 t762)) (fun _ hk => hk.2) (.slice Ao49 t763.length co49)) (fun _ hk => hk.2) (.int .i64 t766)) (fun _ hk => ⟨hk.1.1.1, ⟨hk.1.1.2.1, ⟨hk.1.1.2.2.1, ⟨hk.1.1.2.2.2, hk.1.2⟩⟩⟩⟩)⟩
           have n3_ : Aside0 (((((w45.setCell ⟨gb768, 0, none⟩ (.int .u64 t761)).setCell ⟨gb768, 1, none⟩ (.int .u32 t762)).setCell ⟨gb768, 2, none⟩ (.slice Ao49 t763.length co49)).setCell ⟨gb768, 3, none⟩ (.int .i64 t766)).heap[gb739]? = some (.cells #[.int .u64 x740000_2, .int .u32 x740001_2, .slice Ao43 x740002_2.length co43, .int .i64 x740003_2] 43 (0, 0))) := ⟨by (with_reducible repeat (first | refine zh ?_ _ | refine zj ?_ | refine zi ?_ _)); refine zv ?_ NB739_768.out _; (with_reducible repeat (first | refine zh ?_ _ | refine zj ?_ | refine zi ?_ _)); refine zv ?_ NB739_768.out _; (with_reducible repeat (first | refine zh ?_ _ | refine zj ?_ | refine zi ?_ _)); refine zv ?_ NB739_768.out _; (with_reducible repeat (first | refine zh ?_ _ | refine zj ?_ | refine zi ?_ _)); refine zv ?_ NB739_768.out _; (with_reducible repeat (first | refine zh ?_ _ | refine zj ?_ | refine zi ?_ _)); exact BK739.out⟩
           have n4_ : Aside0 (((((w45.setCell ⟨gb768, 0, none⟩ (.int .u64 t761)).setCell ⟨gb768, 1, none⟩ (.int .u32 t762)).setCell ⟨gb768, 2, none⟩ (.slice Ao49 t763.length co49)).setCell ⟨gb768, 3, none⟩ (.int .i64 t766)).heap[gb740]? = some (.cells #[.int .u64 0, .int .u32 0, .slice none 0 0, .int .i64 0] 43 (0, 0))) := ⟨by (with_reducible repeat (first | refine zh ?_ _ | refine zj ?_ | refine zi ?_ _)); refine zv ?_ NB740_768.out _; (with_reducible repeat (first | refine zh ?_ _ | refine zj ?_ | refine zi ?_ _)); refine zv ?_ NB740_768.out _; (with_reducible repeat (first | refine zh ?_ _ | refine zj ?_ | refine zi ?_ _)); refine zv ?_ NB740_768.out _; (with_reducible repeat (first | refine zh ?_ _ | refine zj ?_ | refine zi ?_ _)); refine zv ?_ NB740_768.out _; (with_reducible repeat (first | refine zh ?_ _ | refine zj ?_ | refine zi ?_ _)); exact BK740.out⟩
           have n5_ : Aside0 (((((w45.setCell ⟨gb768, 0, none⟩ (.int .u64 t761)).setCell ⟨gb768, 1, none⟩ (.int .u32 t762)).setCell ⟨gb768, 2, none⟩ (.slice Ao49 t763.length co49)).setCell ⟨gb768, 3, none⟩ (.int .i64 t766)).heap[gb768]? = some (.cells #[.int .u64 t761, .int .u32 t762, .slice Ao49 t763.length co49, .int .i64 t766] 43 (0, 0))) := ⟨by (with_reducible repeat (first | refine zh ?_ _ | refine zj ?_ | refine zi ?_ _)); refine zw (cs := #[.int .u64 t761, .int .u32 t762, .slice Ao49 t763.length co49, .int .i64 0]) ?_ 3 _ rfl; (with_reducible repeat (first | refine zh ?_ _ | refine zj ?_ | refine zi ?_ _)); refine zw (cs := #[.int .u64 t761, .int .u32 t762, .slice none 0 0, .int .i64 0]) ?_ 2 _ rfl; (with_reducible repeat (first | refine zh ?_ _ | refine zj ?_ | refine zi ?_ _)); refine zw (cs := #[.int .u64 t761, .int .u32 0, .slice none 0 0, .int .i64 0]) ?_ 1 _ rfl; (with_reducible repeat (first | refine zh ?_ _ | refine zj ?_ | refine zi ?_ _)); refine zw (cs := #[.int .u64 0, .int .u32 0, .slice none 0 0, .int .i64 0]) ?_ 0 _ rfl; (with_reducible repeat (first | refine zh ?_ _ | refine zj ?_ | refine zi ?_ _)); exact BK768.out⟩
           have n6_ : Aside0 (Below w.heap.size w ((((w45.setCell ⟨gb768, 0, none⟩ (.int .u64 t761)).setCell ⟨gb768, 1, none⟩ (.int .u32 t762)).setCell ⟨gb768, 2, none⟩ (.slice Ao49 t763.length co49)).setCell ⟨gb768, 3, none⟩ (.int .i64 t766))) := ⟨by repeat (first | (with_reducible first | exact HB.out | apply ze | apply zd | apply zf | refine zk ?_ GE739.out | refine zk ?_ GE740.out | refine zk ?_ GE768.out) | exact HB.out)⟩
           (try clear HO_9)
           (try clear HO_740002)
           (try clear HO765)
           (try clear BK739)
           (try clear BK740)
           (try clear BK768)
           (try clear HB)
           generalize ((((w45.setCell ⟨gb768, 0, none⟩ (.int .u64 t761)).setCell ⟨gb768, 1, none⟩ (.int .u32 t762)).setCell ⟨gb768, 2, none⟩ (.slice Ao49 t763.length co49)).setCell ⟨gb768, 3, none⟩ (.int .i64 t766)) = w50 at n0_ n1_ n2_ n3_ n4_ n5_ n6_ ⊢
           have HO_9 := n0_
           have HO_740002 := n1_
           have HO765 := n2_
           have BK739 := n3_
           have BK740 := n4_
           have BK768 := n5_
           have HB := n6_
           clear n0_ n1_ n2_ n3_ n4_ n5_ n6_
           have n0_ := zm (zq HO_9.out)
           have n1_ := zm (zC HO_740002.out)
           have n2_ := zm (zC HO765.out)
           have n3_ := zm (zj BK739.out)
           have n4_ := zm (zj BK740.out)
           have n5_ := zm (zj BK768.out)
           have n6_ := zm (zf HB.out)
           clear HO_9
           clear HO_740002
           clear HO765
           clear BK739
           clear BK740
           clear BK768
           clear HB
           have HO_9 := n0_
           have HO_740002 := n1_
           have HO765 := n2_
           have BK739 := n3_
           have BK740 := n4_
           have BK768 := n5_
           have HB := n6_
           clear n0_ n1_ n2_ n3_ n4_ n5_ n6_
           refine start_ (n := 7) (S := fun w' => w'.cell? ⟨gb768, 0, none⟩ = some (.int .u64 t761) ∧ w'.cell? ⟨gb768, 1, none⟩ = some (.int .u32 t762) ∧ w'.cell? ⟨gb768, 2, none⟩ = some (.slice Ao49 t763.length co49) ∧ w'.cell? ⟨gb768, 3, none⟩ = some (.int .i64 t766)) (ds := []) #[false, false, false, false, false, false, false] (by kernel_rfl) rfl rfl ⟨(zs BK768.out 0).trans rfl, (zs BK768.out 1).trans rfl, (zs BK768.out 2).trans rfl, (zs BK768.out 3).trans rfl⟩ (fun hHeld => ?_)
           generalize w50.drew = w51 at HO_9 HO_740002 HO765 BK739 BK740 BK768 HB hHeld ⊢
           refine pure_ (i := 1) (N := some 44) (v := ?_) (a' := ?_) #[false, true, false, false, false, false, false] rfl rfl (by kernel_rfl) (fun _ _ _ h => h) (Or.inl ⟨by rfl, ?_⟩) ?_ ?_
           rotate_left
           ·
            intro w'
            go_simp
            with_reducible rfl
           rotate_left
           ·
            simp only [Act.put, List.setIfInBounds_toArray, List.set_cons_zero, List.set_cons_succ, i64_w, i32_w]
            rfl
           refine pure_ (i := 2) (N := some 45) (v := ?_) (a' := ?_) #[false, true, true, false, false, false, false] rfl rfl (by kernel_rfl) (fun _ _ _ h => h) (Or.inl ⟨by rfl, ?_⟩) ?_ ?_
           rotate_left
           ·
            intro w'
            go_simp
            with_reducible rfl
           rotate_left
           ·
            simp only [Act.put, List.setIfInBounds_toArray, List.set_cons_zero, List.set_cons_succ, i64_w, i32_w]
            rfl
           refine take_ (i := 0) (N := some 43) (v := ?_) (a' := ?_) #[true, true, true, false, false, false, false] rfl rfl (by kernel_rfl) (fun _ _ _ h => h) (Or.inl ⟨by rfl, ?_⟩) hHeld ?_ ?_
           rotate_left
           ·
            rintro w' ⟨s0, s1, s2, s3⟩
            go_simp
            with_reducible rfl
           rotate_left
           ·
            simp only [Act.put, List.setIfInBounds_toArray, List.set_cons_zero, List.set_cons_succ, i64_w, i32_w]
            rfl
           refine one_ (i := 3) (N := some 46) #[true, true, true, true, false, false, false] rfl rfl (by kernel_rfl) (by decide) (fun K hK => ?_)
           refine value_ (w1 := ?_) (v := ?_) (by rfl) rfl ?_ ?_
           rotate_left 2
           ·
            go_simp
            constructor
            ·
             rfl
            ·
             rfl
           refine hK.out _ _ ⟨(zs (zi BK768.out _) 0).trans rfl, (zs (zi BK768.out _) 1).trans rfl, (zs (zi BK768.out _) 2).trans rfl, (zs (zi BK768.out _) 3).trans rfl⟩ (fun hHeld => ?_)
           clear hK K
           refine norm_ (a' := ?_) ?_ ?_
           rotate_left
           ·
            show Act.put _ (some 46) _ = _
            simp only [Act.put, List.setIfInBounds_toArray, List.set_cons_zero, List.set_cons_succ, i64_w, i32_w]
            rfl
           refine one_ (i := 4) (N := some 47) #[true, true, true, true, true, false, false] rfl rfl (by kernel_rfl) (by decide) (fun K hK => ?_)
           refine Kd.R_append_step (Kd.int .i64) (w0 := w) w.heap.size (by rfl) (.tmp 44) (.tmp 46) 31 3 (.int .i64 0) 8 rfl Try.underlying31 info3 rfl (by decide) (by omega) u9 x9_2 t767 [.int .i64 t767] (fun k_ => (w.heap.size ≤ k_)) (fun _ => False) rfl rfl ?aP (fun _ hk => hk.elim) ?aF ?aO ?aB ?aS ?aL ?_
           (case aP => exact rfl)
           (case aB => exact (by repeat (first | (with_reducible first | exact HB.out | apply ze | apply zd | apply zf | refine zk ?_ GE739.out | refine zk ?_ GE740.out | refine zk ?_ GE768.out) | exact HB.out)))
           (case aF => exact (fun k_ hk => (Nat.le_trans (zE (by repeat (first | (with_reducible first | exact HB.out | apply ze | apply zd | apply zf | refine zk ?_ GE739.out | refine zk ?_ GE740.out | refine zk ?_ GE768.out) | exact HB.out))) hk)))
           (case aO => exact (by (with_reducible repeat (first | apply zo | apply zp | apply zq)); exact HO_9.out))
           (case aS => exact (zE (by repeat (first | (with_reducible first | exact HB.out | apply ze | apply zd | apply zf | refine zk ?_ GE739.out | refine zk ?_ GE740.out | refine zk ?_ GE768.out) | exact HB.out))))
           (case aL => have := LMc40.out; omega)
           intro v770 w52 ho hb hg hat
           rw [← Ny769.out] at ho
           have n0_ := zm (Kd.V_afterv (ok := (fun k_ => (P0_2_ k_ ∨ w.heap.size ≤ k_) ∧ k_ ≠ gb739 ∧ k_ ≠ gb740 ∧ k_ ≠ gb768)) (by (with_reducible repeat (first | apply zA | apply zB | apply zC)); exact zy HO_740002.out (fun _ hk => ⟨⟨hk.1, ⟨hk.2.2.1, ⟨hk.2.2.2.1, hk.2.2.2.2⟩⟩⟩, hk.2.1⟩)) hg hat)
           have n1_ := zm (blk_grown (g := gb739) (o := .cells #[.int .u64 x740000_2, .int .u32 x740001_2, .slice Ao43 x740002_2.length co43, .int .i64 x740003_2] 43 (0, 0)) (by (with_reducible repeat (first | refine zh ?_ _ | refine zj ?_ | refine zi ?_ _)); exact BK739.out) hg (zu HO_9.out BK739.out (by decide)))
           have n2_ := zm (blk_grown (g := gb740) (o := .cells #[.int .u64 0, .int .u32 0, .slice none 0 0, .int .i64 0] 43 (0, 0)) (by (with_reducible repeat (first | refine zh ?_ _ | refine zj ?_ | refine zi ?_ _)); exact BK740.out) hg (zu HO_9.out BK740.out (by decide)))
           have n3_ := zm (Kd.V_afterv (ok := (fun k_ => (P0_2_ k_ ∨ w.heap.size ≤ k_) ∧ k_ ≠ gb739 ∧ k_ ≠ gb740 ∧ k_ ≠ gb768)) (by (with_reducible repeat (first | apply zA | apply zB | apply zC)); exact zy HO765.out (fun _ hk => ⟨⟨hk.1, ⟨hk.2.2.1, ⟨hk.2.2.2.1, hk.2.2.2.2⟩⟩⟩, hk.2.1⟩)) hg hat)
           have n4_ := zm (blk_grown (g := gb768) (o := .cells #[.int .u64 t761, .int .u32 t762, .slice Ao49 t763.length co49, .int .i64 t766] 43 (0, 0)) (by (with_reducible repeat (first | refine zh ?_ _ | refine zj ?_ | refine zi ?_ _)); exact BK768.out) hg (zu HO_9.out BK768.out (by decide)))
           have n5_ := zm (hb)
           have n6_ := zm (ho)
           clear HO_740002
           clear BK739
           clear BK740
           clear HO765
           clear BK768
           clear HB
           clear HO_9
           have HO_740002 := n0_
           have BK739 := n1_
           have BK740 := n2_
           have HO765 := n3_
           have BK768 := n4_
           have HB := n5_
           have HO771 := n6_
           clear n0_ n1_ n2_ n3_ n4_ n5_ n6_
           clear ho hb hg hat
           refine hK.out _ _ ⟨(zs BK768.out 0).trans rfl, (zs BK768.out 1).trans rfl, (zs BK768.out 2).trans rfl, (zs BK768.out 3).trans rfl⟩ (fun hHeld => ?_)
           clear hK K
           refine norm_ (a' := ?_) ?_ ?_
           rotate_left
           ·
            show Act.put _ (some 47) _ = _
            simp only [Act.put, List.setIfInBounds_toArray, List.set_cons_zero, List.set_cons_succ, i64_w, i32_w]
            rfl
           refine one_ (i := 5) (N := none) #[true, true, true, true, true, true, false] rfl rfl (by kernel_rfl) (by decide) (fun K hK => ?_)
           have hs53 : w52.cell? ⟨gb739, 0, none⟩ = some (.int .u64 x740000_2) := (zs BK739.out 0).trans rfl
           have hfs53 := zx BK739.out 0
           have hns53_1 := NB740_739.out
           have hns53_2 := NB768_739.out
           have hms53_1 := NB739_740.out
           have hms53_2 := NB739_768.out
           have hs54 : w52.cell? ⟨gb739, 1, none⟩ = some (.int .u32 x740001_2) := (zs BK739.out 1).trans rfl
           have hfs54 := zx BK739.out 1
           have hns54_1 := NB740_739.out
           have hns54_2 := NB768_739.out
           have hms54_1 := NB739_740.out
           have hms54_2 := NB739_768.out
           have hs55 : w52.cell? ⟨gb739, 2, none⟩ = some (.slice Ao43 x740002_2.length co43) := (zs BK739.out 2).trans rfl
           have hfs55 := zx BK739.out 2
           have hns55_1 := NB740_739.out
           have hns55_2 := NB768_739.out
           have hms55_1 := NB739_740.out
           have hms55_2 := NB739_768.out
           have hs56 : w52.cell? ⟨gb739, 3, none⟩ = some (.int .i64 x740003_2) := (zs BK739.out 3).trans rfl
           have hfs56 := zx BK739.out 3
           have hns56_1 := NB740_739.out
           have hns56_2 := NB768_739.out
           have hms56_1 := NB739_740.out
           have hms56_2 := NB739_768.out
           refine skip_ (w1 := ?_) (by rfl) rfl ?_ ?_
           rotate_left
           ·
            go_simp
            rfl
           refine hK.out _ _ ⟨((zr (p := ⟨gb739, _, none⟩) NB768_739.out _).trans (((zr (p := ⟨gb739, _, none⟩) NB768_739.out _).trans (((zr (p := ⟨gb739, _, none⟩) NB768_739.out _).trans (((zr (p := ⟨gb739, _, none⟩) NB768_739.out _).trans (hHeld.1)))))))), ((zr (p := ⟨gb739, _, none⟩) NB768_739.out _).trans (((zr (p := ⟨gb739, _, none⟩) NB768_739.out _).trans (((zr (p := ⟨gb739, _, none⟩) NB768_739.out _).trans (((zr (p := ⟨gb739, _, none⟩) NB768_739.out _).trans (hHeld.2.1)))))))), ((zr (p := ⟨gb739, _, none⟩) NB768_739.out _).trans (((zr (p := ⟨gb739, _, none⟩) NB768_739.out _).trans (((zr (p := ⟨gb739, _, none⟩) NB768_739.out _).trans (((zr (p := ⟨gb739, _, none⟩) NB768_739.out _).trans (hHeld.2.2.1)))))))), ((zr (p := ⟨gb739, _, none⟩) NB768_739.out _).trans (((zr (p := ⟨gb739, _, none⟩) NB768_739.out _).trans (((zr (p := ⟨gb739, _, none⟩) NB768_739.out _).trans (((zr (p := ⟨gb739, _, none⟩) NB768_739.out _).trans (hHeld.2.2.2))))))))⟩ (fun hHeld => ?_)
           clear hK K
           refine pure_ (i := 6) (N := some 9) (v := ?_) (a' := ?_) #[true, true, true, true, true, true, true] rfl rfl (by kernel_rfl) (fun _ _ _ h => h) (Or.inl ⟨by rfl, ?_⟩) ?_ ?_
           rotate_left
           ·
            intro w'
            go_simp
            with_reducible rfl
           rotate_left
           ·
            simp only [Act.put, List.setIfInBounds_toArray, List.set_cons_zero, List.set_cons_succ, i64_w, i32_w]
            rfl
           refine done_ (by kernel_rfl) ?_
           try go_wp2
           go_roundg k2
           case measure => have := HJ3.out; have := HK2.out; omega
           case rel => exact ⟨(y769), (wrap64 (x27_2 + 1)), (t761), (t762), (t763), (t766), (.slice Ao49 t763.length co49), (by first | rfl | (simp; done) | (simp [*]; done)), H', ⟨by have := HJ3.out; have := HK2.out; omega⟩, ⟨by (with_reducible repeat (first | apply zo | apply zp | apply zq)); exact zG (zH (p := ⟨gb739, 3, none⟩) (zH (p := ⟨gb739, 2, none⟩) (zH (p := ⟨gb739, 1, none⟩) (zH (p := ⟨gb739, 0, none⟩) (Kd.R_types HO771.out BK739.out (by decide)) (fun _ hk => hk.2) (.int .u64 t761)) (fun _ hk => hk.2) (.int .u32 t762)) (fun _ hk => hk.2) (.slice Ao49 t763.length co49)) (fun _ hk => hk.2) (.int .i64 t766)) (fun _ hk => hk.1)⟩, ⟨by (with_reducible repeat (first | apply zA | apply zB | apply zC)); exact zy (zI (p := ⟨gb739, 3, none⟩) (zI (p := ⟨gb739, 2, none⟩) (zI (p := ⟨gb739, 1, none⟩) (zI (p := ⟨gb739, 0, none⟩) (zy HO765.out (fun k_ hk => (⟨hk, hk.1.2.1⟩ : _ ∧ k_ ≠ gb739))) (fun _ hk => hk.2) (.int .u64 t761)) (fun _ hk => hk.2) (.int .u32 t762)) (fun _ hk => hk.2) (.slice Ao49 t763.length co49)) (fun _ hk => hk.2) (.int .i64 t766)) (fun _ hk => ⟨hk.1.1.1, ⟨hk.1.2, ⟨hk.1.1.2.1, hk.1.1.2.2.1⟩⟩⟩)⟩, ⟨by (with_reducible repeat (first | refine zh ?_ _ | refine zj ?_ | refine zi ?_ _)); refine zw (cs := #[.int .u64 t761, .int .u32 t762, .slice Ao49 t763.length co49, .int .i64 x740003_2]) ?_ 3 _ rfl; (with_reducible repeat (first | refine zh ?_ _ | refine zj ?_ | refine zi ?_ _)); refine zw (cs := #[.int .u64 t761, .int .u32 t762, .slice Ao43 x740002_2.length co43, .int .i64 x740003_2]) ?_ 2 _ rfl; (with_reducible repeat (first | refine zh ?_ _ | refine zj ?_ | refine zi ?_ _)); refine zw (cs := #[.int .u64 t761, .int .u32 x740001_2, .slice Ao43 x740002_2.length co43, .int .i64 x740003_2]) ?_ 1 _ rfl; (with_reducible repeat (first | refine zh ?_ _ | refine zj ?_ | refine zi ?_ _)); refine zw (cs := #[.int .u64 x740000_2, .int .u32 x740001_2, .slice Ao43 x740002_2.length co43, .int .i64 x740003_2]) ?_ 0 _ rfl; (with_reducible repeat (first | refine zh ?_ _ | refine zj ?_ | refine zi ?_ _)); exact BK739.out⟩, ⟨by (with_reducible repeat (first | refine zh ?_ _ | refine zj ?_ | refine zi ?_ _)); refine zv ?_ NB740_739.out _; (with_reducible repeat (first | refine zh ?_ _ | refine zj ?_ | refine zi ?_ _)); refine zv ?_ NB740_739.out _; (with_reducible repeat (first | refine zh ?_ _ | refine zj ?_ | refine zi ?_ _)); refine zv ?_ NB740_739.out _; (with_reducible repeat (first | refine zh ?_ _ | refine zj ?_ | refine zi ?_ _)); refine zv ?_ NB740_739.out _; (with_reducible repeat (first | refine zh ?_ _ | refine zj ?_ | refine zi ?_ _)); exact BK740.out⟩, ⟨by repeat (first | (with_reducible first | exact HB.out | apply ze | apply zd | apply zf | refine zk ?_ GE739.out | refine zk ?_ GE740.out | refine zk ?_ GE768.out) | exact HB.out)⟩⟩
          ·
           rw [if_neg c40] at H
           exact absurd H (by simp)
         ·
          rw [if_neg c38] at H
          exact absurd H (by simp)
        ·
         rw [if_neg c37] at H
         exact absurd H (by simp)
      ·
       rw [if_neg c17] at H
       have c17b0 : decide (x27_2 < 5) = false := decide_eq_false c17
       clear c17
       simp only [Option.some.injEq, Prod.mk.injEq] at H
       obtain ⟨rfl, rfl, rfl, rfl, rfl, rfl⟩ := H
       have hnb57 := NB739_740.out
       have hnc57 := NB740_739.out
       have hcz58_0 : wr.cell? ⟨gb739, 0, none⟩ = some (.int .u64 x740000_2) := (zs BK739.out 0).trans rfl
       have hcz58_1 : wr.cell? ⟨gb739, 1, none⟩ = some (.int .u32 x740001_2) := (zs BK739.out 1).trans rfl
       have hcz58_2 : wr.cell? ⟨gb739, 2, none⟩ = some (u740002) := (zs BK739.out 2).trans rfl
       have hcz58_3 : wr.cell? ⟨gb739, 3, none⟩ = some (.int .i64 x740003_2) := (zs BK739.out 3).trans rfl
       have hfz58_0 := zx BK739.out 0
       have hfz58_1 := zx BK739.out 1
       have hfz58_2 := zx BK739.out 2
       have hfz58_3 := zx BK739.out 3
       have hcz59_0 : wr.cell? ⟨gb740, 0, none⟩ = some (.int .u64 0) := (zs BK740.out 0).trans rfl
       have hcz59_1 : wr.cell? ⟨gb740, 1, none⟩ = some (.int .u32 0) := (zs BK740.out 1).trans rfl
       have hcz59_2 : wr.cell? ⟨gb740, 2, none⟩ = some (.slice none 0 0) := (zs BK740.out 2).trans rfl
       have hcz59_3 : wr.cell? ⟨gb740, 3, none⟩ = some (.int .i64 0) := (zs BK740.out 3).trans rfl
       have hfz59_0 := zx BK740.out 0
       have hfz59_1 := zx BK740.out 1
       have hfz59_2 := zx BK740.out 2
       have hfz59_3 := zx BK740.out 3
       obtain ⟨Ao60, co60, eo60⟩ := Kd.V_slice HO_740002.out
       subst eo60
       go_wp2
       refine bodyPost_ret (results_ctt rfl _ _ gb740 43 #[.int .u64 x740000_2, .int .u32 x740001_2, .slice Ao60 x740002_2.length co60, .int .i64 x740003_2] (0, 0) _ rfl (by (with_reducible repeat (first | refine zh ?_ _ | refine zj ?_ | refine zi ?_ _)); refine zw (cs := #[.int .u64 x740000_2, .int .u32 x740001_2, .slice Ao60 x740002_2.length co60, .int .i64 0]) ?_ 3 _ rfl; (with_reducible repeat (first | refine zh ?_ _ | refine zj ?_ | refine zi ?_ _)); refine zw (cs := #[.int .u64 x740000_2, .int .u32 x740001_2, .slice none 0 0, .int .i64 0]) ?_ 2 _ rfl; (with_reducible repeat (first | refine zh ?_ _ | refine zj ?_ | refine zi ?_ _)); refine zw (cs := #[.int .u64 x740000_2, .int .u32 0, .slice none 0 0, .int .i64 0]) ?_ 1 _ rfl; (with_reducible repeat (first | refine zh ?_ _ | refine zj ?_ | refine zi ?_ _)); refine zw (cs := #[.int .u64 0, .int .u32 0, .slice none 0 0, .int .i64 0]) ?_ 0 _ rfl; (with_reducible repeat (first | refine zh ?_ _ | refine zj ?_ | refine zi ?_ _)); exact BK740.out) Try.underlying43 rfl (by kernel_rfl)) rfl ?_
       exact ⟨_, _, by first | rfl | (simp [errW_none, errW_some] <;> rfl) | (simp [*, errW_none, errW_some] <;> rfl), by (with_reducible repeat (first | apply zA | apply zB | apply zC)); exact zy (zI (p := ⟨gb740, 3, none⟩) (zI (p := ⟨gb740, 2, none⟩) (zI (p := ⟨gb740, 1, none⟩) (zI (p := ⟨gb740, 0, none⟩) (zy HO_740002.out (fun k_ hk => (⟨hk, hk.2.2.2⟩ : _ ∧ k_ ≠ gb740))) (fun _ hk => hk.2) (.int .u64 x740000_2)) (fun _ hk => hk.2) (.int .u32 x740001_2)) (fun _ hk => hk.2) (.slice Ao60 x740002_2.length co60)) (fun _ hk => hk.2) (.int .i64 x740003_2)) (fun _ hk => ⟨hk.1.1, hk.1.2.1⟩), by (with_reducible repeat (first | apply zo | apply zp | apply zq)); exact zG (zH (p := ⟨gb740, 3, none⟩) (zH (p := ⟨gb740, 2, none⟩) (zH (p := ⟨gb740, 1, none⟩) (zH (p := ⟨gb740, 0, none⟩) (Kd.R_types HO_9.out BK740.out (by decide)) (fun _ hk => hk.2) (.int .u64 x740000_2)) (fun _ hk => hk.2) (.int .u32 x740001_2)) (fun _ hk => hk.2) (.slice Ao60 x740002_2.length co60)) (fun _ hk => hk.2) (.int .i64 x740003_2)) (fun _ hk => hk.1), by repeat (first | (with_reducible first | exact HB.out | apply ze | apply zd | apply zf | refine zk ?_ GE739.out | refine zk ?_ GE740.out) | exact HB.out)⟩

end Go.Proofs.Ytkaoiblgfpphoaa.Prt

namespace Go.Proofs.Ytkaoiblgfpphoaa.Prt
open Go.RowKit Go.Proofs.YtkaoiblgfpphoaaW.PrintWords Go.Proofs.YtkaoiblgfpphoaaW.PrintLast Go.Proofs.YtkaoiblgfpphoaaW.PrintMore
attribute [local go_sem] max2_int min2_int max_two min_two max_three min_three max_four min_four   -- for this text's walks alone
set_option linter.unusedVariables false
set_option linter.unusedSimpArgs false

/-! ### psalteryref05_next: function 59 -/
def psalteryref05_next.f (l0 : List Int) (a1 : Int) : Option (Int × Int) := if a1 < (l0.length : Int) then (if 0 ≤ a1 then (some (IntKind.u64.wrap (rd l0 a1), wrap64 (a1 + 1))) else (none)) else (some (0, a1))
set_option maxHeartbeats 8000000 in
set_option maxRecDepth 100000 in
theorem psalteryref05_next.calls (A0 : Option Addr) (c0 : Nat) (l0 : List Int) (a1 : Int) (r1 : Int) (r2 : Int) (w : World) (hr0 : Kd.C (Kd.int .u8) w A0 l0.length l0) (hc0 : l0.length ≤ c0) (h : psalteryref05_next.f l0 a1 = some (r1, r2)) :
  Calls Try.prog 59 #[.slice A0 l0.length c0, .int .i64 a1] w fun e w' => e = .returned (.tuple #[.int .u64 r1, .int .i64 r2]) ∧ Drawn0 w w' := by
 have HR0 := zm hr0
 have HC0 := zm hc0
 clear hr0 hc0
 have H : (if a1 < (l0.length : Int) then (if 0 ≤ a1 then (some (IntKind.u64.wrap (rd l0 a1), wrap64 (a1 + 1))) else (none)) else (some (0, a1))) = some (r1, r2) := h
 clear h
 by_cases c3 : a1 < (l0.length : Int)
 ·
  rw [if_pos c3] at H
  have c3b0 : decide (a1 < (l0.length : Int)) = true := decide_eq_true c3
  clear c3
  by_cases c4 : 0 ≤ a1
  ·
   rw [if_pos c4] at H
   have c4b0 : decide (0 ≤ a1) = true := decide_eq_true c4
   clear c4
   simp only [Option.some.injEq, Prod.mk.injEq] at H
   obtain ⟨rfl, rfl⟩ := H
   have p284 : 0 ≤ (a1 : Int) := of_decide_eq_true (by first | (with_reducible assumption) | assumption)
   have q284 : a1 < (l0.length : Int) := of_decide_eq_true (by first | (with_reducible assumption) | assumption)
   obtain ⟨ad284, e284, hx284_0⟩ := Kd.at_int HR0.out a1 p284 q284
   cases e284
   replace p284 := eq_true p284
   replace q284 := eq_true q284
   go_enter Try.func59, Try.ntmps59
   go_wp2
   go_ret2
   exact ⟨by first | rfl | (simp; done) | (simp [*]; done), by repeat (first | exact Drawn0.refl _ | apply Drawn0.step)⟩
  ·
   rw [if_neg c4] at H
   exact absurd H (by simp)
 ·
  rw [if_neg c3] at H
  have c3b0 : decide (a1 < (l0.length : Int)) = false := decide_eq_false c3
  clear c3
  simp only [Option.some.injEq, Prod.mk.injEq] at H
  obtain ⟨rfl, rfl⟩ := H
  go_enter Try.func59, Try.ntmps59
  go_wp2
  go_ret2
  exact ⟨by first | rfl | (simp; done) | (simp [*]; done), by repeat (first | exact Drawn0.refl _ | apply Drawn0.step)⟩

end Go.Proofs.Ytkaoiblgfpphoaa.Prt

namespace Go.Proofs.Ytkaoiblgfpphoaa.Prt
open Go.RowKit Go.Proofs.YtkaoiblgfpphoaaW.PrintWords Go.Proofs.YtkaoiblgfpphoaaW.PrintLast Go.Proofs.YtkaoiblgfpphoaaW.PrintMore
attribute [local go_sem] max2_int min2_int max_two min_two max_three min_three max_four min_four   -- for this text's walks alone
set_option linter.unusedVariables false
set_option linter.unusedSimpArgs false

/-! ### psalteryref05_Open: function 27 -/
def psalteryref05_Open.l0 : Nat → List Int → Int → Int → Int → Int → List Int → Int → Option (Int × Int × List Int × Int)
 | 0, _, _, _, _, _, _, _ => none
 | k + 1, x0, x4, x5, x287000, x287001, x287002, x287003 => if x5 < 4 then ((psalteryref05_next.f x0 x4).bind fun bt287 => (psalteryref05_Open.l0 k x0 bt287.2 (wrap64 (x5 + 1)) (IntKind.u64.wrap ((IntKind.u64.wrap (x287000 * 256)) + bt287.1)) x287001 x287002 x287003)) else (some (x287000, x287001, x287002, x287003))
def psalteryref05_Open.f (k : Nat) (l0 : List Int) : Option (Int × Int × List Int × Int) := psalteryref05_Open.l0 k l0 0 0 0 4294967295 l0 4
theorem psalteryref05_Open.mono_l : ∀ k, (∀ y0 y1 y2 y3 y4 y5 y6, LeO (psalteryref05_Open.l0 k y0 y1 y2 y3 y4 y5 y6) (psalteryref05_Open.l0 (k + 1) y0 y1 y2 y3 y4 y5 y6))
 | 0 => fun _ _ _ _ _ _ _ r h => by simp [psalteryref05_Open.l0] at h
 | k + 1 => by
  have ih0 := psalteryref05_Open.mono_l k
  ·
   intro y0 y1 y2 y3 y4 y5 y6
   unfold psalteryref05_Open.l0
   repeat' first
   | (with_reducible exact ih0 _ _ _ _ _ _ _)
   | (with_reducible exact LeO.refl _)
   | (with_reducible exact LeO.none _)
   | (with_reducible refine LeO.ite ?_ ?_)
   | (with_reducible refine LeO.bind ?_ (fun _ => ?_))
   | exact ih0 _ _ _ _ _ _ _
   | exact LeO.none _
   | refine LeO.ite ?_ ?_
   | refine LeO.bind ?_ (fun _ => ?_)
theorem psalteryref05_Open.mono : ∀ a0 k, LeO (psalteryref05_Open.f k a0) (psalteryref05_Open.f (k + 1) a0) := by
 intro a0 k
 have ih0 := psalteryref05_Open.mono_l k
 unfold psalteryref05_Open.f
 repeat' first
   | (with_reducible exact ih0 _ _ _ _ _ _ _)
   | (with_reducible exact LeO.refl _)
   | (with_reducible exact LeO.none _)
   | (with_reducible refine LeO.ite ?_ ?_)
   | (with_reducible refine LeO.bind ?_ (fun _ => ?_))
   | exact ih0 _ _ _ _ _ _ _
   | exact LeO.none _
   | refine LeO.ite ?_ ?_
   | refine LeO.bind ?_ (fun _ => ?_)
set_option maxHeartbeats 8000000 in
set_option maxRecDepth 100000 in
theorem psalteryref05_Open.calls (k : Nat) (P0_ : Nat → Prop) (A0 : Option Addr) (c0 : Nat) (l0 : List Int) (r1 : Int) (r2 : Int) (r3 : List Int) (r4 : Int) (w : World) (hs0 : Kd.V (Kd.int .u8) 5 w w.heap.size (fun k_ => P0_ k_) (.slice A0 l0.length c0) l0) (h : psalteryref05_Open.f k l0 = some (r1, r2, r3, r4)) :
  Calls Try.prog 27 #[.slice A0 l0.length c0] w fun e w' => ∃ v2_ : Value, e = .returned (.agg #[.int .u64 r1, .int .u64 r2, v2_, .int .i64 r4]) ∧ Kd.V (Kd.int .u8) 5 w' w.heap.size (fun k_ => (P0_ k_ ∨ w.heap.size ≤ k_)) v2_ r3 ∧ Below w.heap.size w w' := by
 have hu46 := Try.underlying46
 have HO0 := zm (show Kd.V (Kd.int .u8) 5 w w.heap.size (fun k_ => (P0_ k_ ∨ w.heap.size ≤ k_)) (.slice A0 l0.length c0) l0 from zy hs0 (fun k_ hk => .inl hk))
 have HB := zm (Below.refl w.heap.size w)
 have H : (psalteryref05_Open.l0 k l0 0 0 0 4294967295 l0 4) = some (r1, r2, r3, r4) := h
 clear h
 have H' := zm H
 clear H
 go_enter Try.func27, Try.ntmps27
 go_wp2_with (first | ((with_reducible refine gate_dst (N := 2) rfl ?_); refine box_event ?hg (N := 2) ?hd (cs := #[.int .u64 0, .int .u64 0, .slice none 0 0, .int .i64 0]) (t := 46) ?hr ?_; (case hd => rfl); (case hg => rfl); (case hr => first | (go_simp; done) | (go_simp; rfl)); intro gb285 hg w2 hbox hb; have n0_ := zm (Kd.V_below (Kd.V_elderB (by (with_reducible repeat (first | apply zA | apply zB | apply zC)); exact HO0.out) gb285 (Nat.le_of_eq hg.symm)) hb); have n1_ := zm (zJ (by repeat (first | (with_reducible first | exact HB.out | apply ze | apply zd | apply zf) | exact HB.out)) hb); have n2_ := zm (hbox); have n3_ := zm ((by rw [hg]; exact (zE (by repeat (first | (with_reducible first | exact HB.out | apply ze | apply zd | apply zf) | exact HB.out))) : w.heap.size ≤ gb285)); have n4_ := zm ((by rw [hg]; exact (zE (by repeat (first | (with_reducible first | exact HB.out | apply ze | apply zd | apply zf) | exact HB.out))) : w.heap.size ≤ gb285)); clear HO0; clear HB; have HO0 := n0_; have HB := n1_; have BK285 := n2_; have GW285 := n3_; have GE285 := n4_; clear n0_ n1_ n2_ n3_ n4_; clear hb hbox hg) | ((with_reducible refine gate_dst (N := 3) rfl ?_); refine box_event ?hg (N := 3) ?hd (cs := #[.int .u64 0, .int .u64 0, .slice none 0 0, .int .i64 0]) (t := 46) ?hr ?_; (case hd => rfl); (case hg => rfl); (case hr => first | (go_simp; done) | (go_simp; rfl)); intro gb286 hg w3 hbox hb; have n0_ := zm (Kd.V_below (Kd.V_elderB (by (with_reducible repeat (first | apply zA | apply zB | apply zC)); exact HO0.out) gb286 (Nat.le_of_eq hg.symm)) hb); have n1_ := zm (zF (g := gb285) (o := .cells #[.int .u64 0, .int .u64 0, .slice none 0 0, .int .i64 0] 46 (0, 0)) (by (with_reducible repeat (first | refine zh ?_ _ | refine zj ?_ | refine zi ?_ _)); exact BK285.out) hb); have n2_ := zm (zJ (by repeat (first | (with_reducible first | exact HB.out | apply ze | apply zd | apply zf | refine zk ?_ GE285.out) | exact HB.out)) hb); have n3_ := zm (hbox); have n4_ := zm ((by rw [hg]; exact (zE (by repeat (first | (with_reducible first | exact HB.out | apply ze | apply zd | apply zf | refine zk ?_ GE285.out) | exact HB.out))) : w.heap.size ≤ gb286)); have n5_ := zm ((by rw [hg]; exact (zE (by repeat (first | (with_reducible first | exact HB.out | apply ze | apply zd | apply zf | refine zk ?_ GE285.out) | exact HB.out))) : w.heap.size ≤ gb286)); have n6_ := zm ((by rw [hg]; exact zn (zD (g := gb285) (o := .cells #[.int .u64 0, .int .u64 0, .slice none 0 0, .int .i64 0] 46 (0, 0)) (by (with_reducible repeat (first | refine zh ?_ _ | refine zj ?_ | refine zi ?_ _)); exact BK285.out)) : gb285 ≠ gb286)); have n7_ := zm ((by rw [hg]; exact zg (zD (g := gb285) (o := .cells #[.int .u64 0, .int .u64 0, .slice none 0 0, .int .i64 0] 46 (0, 0)) (by (with_reducible repeat (first | refine zh ?_ _ | refine zj ?_ | refine zi ?_ _)); exact BK285.out)) : gb286 ≠ gb285)); clear HO0; clear BK285; clear HB; have HO0 := n0_; have BK285 := n1_; have HB := n2_; have BK286 := n3_; have GW286 := n4_; have GE286 := n5_; have NB285_286 := n6_; have NB286_285 := n7_; clear n0_ n1_ n2_ n3_ n4_ n5_ n6_ n7_; clear hb hbox hg; have hnb4 := NB286_285.out; have hnc4 := NB285_286.out; have hcz5_0 : w3.cell? ⟨gb286, 0, none⟩ = some (.int .u64 0) := (zs BK286.out 0).trans rfl; have hcz5_1 : w3.cell? ⟨gb286, 1, none⟩ = some (.int .u64 0) := (zs BK286.out 1).trans rfl; have hcz5_2 : w3.cell? ⟨gb286, 2, none⟩ = some (.slice none 0 0) := (zs BK286.out 2).trans rfl; have hcz5_3 : w3.cell? ⟨gb286, 3, none⟩ = some (.int .i64 0) := (zs BK286.out 3).trans rfl; have hfz5_0 := zx BK286.out 0; have hfz5_1 := zx BK286.out 1; have hfz5_2 := zx BK286.out 2; have hfz5_3 := zx BK286.out 3))
 go_loopg [4, 5] k (fun kq v4 v5 w' => ∃ (x4_1 : Int) (x5_1 : Int) (x287000_1 : Int), v4 = .int .i64 x4_1 ∧ v5 = .int .i64 x5_1 ∧ Aside0 (psalteryref05_Open.l0 kq l0 x4_1 x5_1 x287000_1 4294967295 l0 4 = some (r1, r2, r3, r4)) ∧ Aside0 (kq ≤ k) ∧ Aside0 (Kd.V (Kd.int .u8) 5 w' w.heap.size (fun k_ => (P0_ k_ ∨ w.heap.size ≤ k_) ∧ k_ ≠ gb285 ∧ k_ ≠ gb286) (.slice A0 l0.length c0) l0) ∧ Aside0 (Kd.V (Kd.int .u8) 5 w' w.heap.size (fun k_ => (P0_ k_ ∨ w.heap.size ≤ k_) ∧ k_ ≠ gb285 ∧ k_ ≠ gb286) (.slice A0 l0.length c0) l0) ∧ Aside0 (w'.heap[gb285]? = some (.cells #[.int .u64 0, .int .u64 0, (.slice none 0 0), .int .i64 0] 46 (0, 0))) ∧ Aside0 (w'.heap[gb286]? = some (.cells #[.int .u64 x287000_1, .int .u64 4294967295, (.slice A0 l0.length c0), .int .i64 4] 46 (0, 0))) ∧ Aside0 (Below w.heap.size w w'))
 case atStart => exact ⟨(0), (0), (0), (by first | rfl | (simp; done) | (simp [*]; done)), (by first | rfl | (simp; done) | (simp [*]; done)), H', ⟨Nat.le_refl _⟩, ⟨by (with_reducible repeat (first | apply zA | apply zB | apply zC)); exact zy (zI (p := ⟨gb286, 3, none⟩) (zI (p := ⟨gb286, 2, none⟩) (zI (p := ⟨gb286, 1, none⟩) (zI (p := ⟨gb286, 0, none⟩) (zy HO0.out (fun k_ hk => (⟨hk, hk.2⟩ : _ ∧ k_ ≠ gb286))) (fun _ hk => hk.2) (.int .u64 0)) (fun _ hk => hk.2) (.int .u64 4294967295)) (fun _ hk => hk.2) (.slice A0 l0.length c0)) (fun _ hk => hk.2) (.int .i64 4)) (fun _ hk => ⟨hk.1.1.1, ⟨hk.1.1.2, hk.1.2⟩⟩)⟩, ⟨by (with_reducible repeat (first | apply zA | apply zB | apply zC)); exact zy (zI (p := ⟨gb286, 3, none⟩) (zI (p := ⟨gb286, 2, none⟩) (zI (p := ⟨gb286, 1, none⟩) (zI (p := ⟨gb286, 0, none⟩) (zy HO0.out (fun k_ hk => (⟨hk, hk.2⟩ : _ ∧ k_ ≠ gb286))) (fun _ hk => hk.2) (.int .u64 0)) (fun _ hk => hk.2) (.int .u64 4294967295)) (fun _ hk => hk.2) (.slice A0 l0.length c0)) (fun _ hk => hk.2) (.int .i64 4)) (fun _ hk => ⟨hk.1.1.1, ⟨hk.1.1.2, hk.1.2⟩⟩)⟩, ⟨by (with_reducible repeat (first | refine zh ?_ _ | refine zj ?_ | refine zi ?_ _)); refine zv ?_ NB285_286.out _; (with_reducible repeat (first | refine zh ?_ _ | refine zj ?_ | refine zi ?_ _)); refine zv ?_ NB285_286.out _; (with_reducible repeat (first | refine zh ?_ _ | refine zj ?_ | refine zi ?_ _)); refine zv ?_ NB285_286.out _; (with_reducible repeat (first | refine zh ?_ _ | refine zj ?_ | refine zi ?_ _)); refine zv ?_ NB285_286.out _; (with_reducible repeat (first | refine zh ?_ _ | refine zj ?_ | refine zi ?_ _)); exact BK285.out⟩, ⟨by (with_reducible repeat (first | refine zh ?_ _ | refine zj ?_ | refine zi ?_ _)); refine zw (cs := #[.int .u64 0, .int .u64 4294967295, .slice A0 l0.length c0, .int .i64 0]) ?_ 3 _ rfl; (with_reducible repeat (first | refine zh ?_ _ | refine zj ?_ | refine zi ?_ _)); refine zw (cs := #[.int .u64 0, .int .u64 4294967295, .slice none 0 0, .int .i64 0]) ?_ 2 _ rfl; (with_reducible repeat (first | refine zh ?_ _ | refine zj ?_ | refine zi ?_ _)); refine zw (cs := #[.int .u64 0, .int .u64 0, .slice none 0 0, .int .i64 0]) ?_ 1 _ rfl; (with_reducible repeat (first | refine zh ?_ _ | refine zj ?_ | refine zi ?_ _)); refine zw (cs := #[.int .u64 0, .int .u64 0, .slice none 0 0, .int .i64 0]) ?_ 0 _ rfl; (with_reducible repeat (first | refine zh ?_ _ | refine zj ?_ | refine zi ?_ _)); exact BK286.out⟩, ⟨by repeat (first | (with_reducible first | exact HB.out | apply ze | apply zd | apply zf | refine zk ?_ GE285.out | refine zk ?_ GE286.out) | exact HB.out)⟩⟩
 case round =>
  clear H'
  try clear c2
  try clear p2
  try clear c4
  try clear hcz5_0
  try clear hcz5_1
  try clear hcz5_2
  try clear hcz5_3
  try clear hfz5_0
  try clear hfz5_1
  try clear hfz5_2
  try clear hfz5_3
  obtain ⟨x4_1, x5_1, x287000_1, rfl, rfl, HA, HK1, HO_0, HO_287002, BK285, BK286, HB⟩ := hrel
  cases gk with
  | zero => exact absurd HA.out (by simp [psalteryref05_Open.l0])
  | succ k1 =>
   have H := HA.out
   clear HA
   simp only [psalteryref05_Open.l0] at H
   by_cases c6 : x5_1 < 4
   ·
    rw [if_pos c6] at H
    have c6b0 : decide (x5_1 < 4) = true := decide_eq_true c6
    clear c6
    replace H := Option.bind_eq_some_iff.mp H
    obtain ⟨⟨t287, t288⟩, A70, H⟩ := H
    replace H : (psalteryref05_Open.l0 k1 l0 t288 (wrap64 (x5_1 + 1)) (IntKind.u64.wrap ((IntKind.u64.wrap (x287000_1 * 256)) + t287)) 4294967295 l0 4) = some (r1, r2, r3, r4) := H
    have A7 := zm A70
    clear A70
    have H' := zm H
    clear H
    go_wp2_with (first | ((with_reducible refine gate_callee (f := 59) rfl ?_); refine goesL_ (some 17) rfl rfl Try.func59 (by kernel_rfl) rfl #[.slice A0 l0.length c0, .int .i64 x4_1] rfl (by (try simp only [List.map_toArray, List.map_cons, List.map_nil]); first | done | rfl | (simp only [List.length_drop, List.length_take]; rfl)) ?_; (with_reducible refine (psalteryref05_next.calls _ _ l0 x4_1 t287 t288 _ ?side1 ?side2 A7.out).mono ?_); (case side1 => repeat (first | exact (Kd.V_reads' HO_0.out).2.2 | (with_reducible refine Kd.C_alloc ?_ _) | (with_reducible refine Kd.C_drewN ?_ _) | (with_reducible refine Kd.C_drew ?_))); (case side2 => exact (Kd.V_reads' HO_0.out).2.1); rintro e w' ⟨rfl, ⟨nd, rfl⟩⟩; refine ⟨_, rfl, ?_⟩; (try (rw [drewN_self wr]; generalize hq_ : World.drewN wr _ = wr; have n0_ : Aside0 (Kd.V (Kd.int .u8) 5 wr w.heap.size (fun k_ => (P0_ k_ ∨ w.heap.size ≤ k_) ∧ k_ ≠ gb285 ∧ k_ ≠ gb286) (.slice A0 l0.length c0) l0) := ⟨by rw [← hq_]; exact (by (with_reducible repeat (first | apply zA | apply zB | apply zC)); exact HO_0.out)⟩; have n1_ : Aside0 (Kd.V (Kd.int .u8) 5 wr w.heap.size (fun k_ => (P0_ k_ ∨ w.heap.size ≤ k_) ∧ k_ ≠ gb285 ∧ k_ ≠ gb286) (.slice A0 l0.length c0) l0) := ⟨by rw [← hq_]; exact (by (with_reducible repeat (first | apply zA | apply zB | apply zC)); exact HO_287002.out)⟩; have n2_ : Aside0 (wr.heap[gb285]? = some (.cells #[.int .u64 0, .int .u64 0, .slice none 0 0, .int .i64 0] 46 (0, 0))) := ⟨by rw [← hq_]; exact (by (with_reducible repeat (first | refine zh ?_ _ | refine zj ?_ | refine zi ?_ _)); exact BK285.out)⟩; have n3_ : Aside0 (wr.heap[gb286]? = some (.cells #[.int .u64 x287000_1, .int .u64 4294967295, .slice A0 l0.length c0, .int .i64 4] 46 (0, 0))) := ⟨by rw [← hq_]; exact (by (with_reducible repeat (first | refine zh ?_ _ | refine zj ?_ | refine zi ?_ _)); exact BK286.out)⟩; have n4_ : Aside0 (Below w.heap.size w wr) := ⟨by rw [← hq_]; exact (by repeat (first | (with_reducible first | exact HB.out | apply ze | apply zd | apply zf | refine zk ?_ GE285.out | refine zk ?_ GE286.out) | exact HB.out))⟩; clear HO_0 HO_287002 BK285 BK286 HB hq_; have HO_0 := n0_; have HO_287002 := n1_; have BK285 := n2_; have BK286 := n3_; have HB := n4_; clear n0_ n1_ n2_ n3_ n4_)); have hnb8 := NB286_285.out; have hnc8 := NB285_286.out; have hcz9_0 : wr.cell? ⟨gb286, 0, none⟩ = some (.int .u64 x287000_1) := (zs BK286.out 0).trans rfl; have hcz9_1 : wr.cell? ⟨gb286, 1, none⟩ = some (.int .u64 4294967295) := (zs BK286.out 1).trans rfl; have hcz9_2 : wr.cell? ⟨gb286, 2, none⟩ = some (.slice A0 l0.length c0) := (zs BK286.out 2).trans rfl; have hcz9_3 : wr.cell? ⟨gb286, 3, none⟩ = some (.int .i64 4) := (zs BK286.out 3).trans rfl; have hfz9_0 := zx BK286.out 0; have hfz9_1 := zx BK286.out 1; have hfz9_2 := zx BK286.out 2; have hfz9_3 := zx BK286.out 3))
    go_roundg k1
    case measure => have := HK1.out; omega
    case rel => exact ⟨(t288), (wrap64 (x5_1 + 1)), (IntKind.u64.wrap ((IntKind.u64.wrap (x287000_1 * 256)) + t287)), (by first | rfl | (simp; done) | (simp [*]; done)), (by first | rfl | (simp; done) | (simp [*]; done)), H', ⟨by have := HK1.out; omega⟩, ⟨by (with_reducible repeat (first | apply zA | apply zB | apply zC)); exact zy (zI (p := ⟨gb286, 0, none⟩) (zy HO_0.out (fun k_ hk => (⟨hk, hk.2.2⟩ : _ ∧ k_ ≠ gb286))) (fun _ hk => hk.2) (.int .u64 (IntKind.u64.wrap ((IntKind.u64.wrap (x287000_1 * 256)) + t287)))) (fun _ hk => ⟨hk.1.1, ⟨hk.1.2.1, hk.1.2.2⟩⟩)⟩, ⟨by (with_reducible repeat (first | apply zA | apply zB | apply zC)); exact zy (zI (p := ⟨gb286, 0, none⟩) (zy HO_287002.out (fun k_ hk => (⟨hk, hk.2.2⟩ : _ ∧ k_ ≠ gb286))) (fun _ hk => hk.2) (.int .u64 (IntKind.u64.wrap ((IntKind.u64.wrap (x287000_1 * 256)) + t287)))) (fun _ hk => ⟨hk.1.1, ⟨hk.1.2.1, hk.1.2.2⟩⟩)⟩, ⟨by (with_reducible repeat (first | refine zh ?_ _ | refine zj ?_ | refine zi ?_ _)); refine zv ?_ NB285_286.out _; (with_reducible repeat (first | refine zh ?_ _ | refine zj ?_ | refine zi ?_ _)); exact BK285.out⟩, ⟨by (with_reducible repeat (first | refine zh ?_ _ | refine zj ?_ | refine zi ?_ _)); refine zw (cs := #[.int .u64 x287000_1, .int .u64 4294967295, .slice A0 l0.length c0, .int .i64 4]) ?_ 0 _ rfl; (with_reducible repeat (first | refine zh ?_ _ | refine zj ?_ | refine zi ?_ _)); exact BK286.out⟩, ⟨by repeat (first | (with_reducible first | exact HB.out | apply ze | apply zd | apply zf | refine zk ?_ GE285.out | refine zk ?_ GE286.out) | exact HB.out)⟩⟩
   ·
    rw [if_neg c6] at H
    have c6b0 : decide (x5_1 < 4) = false := decide_eq_false c6
    clear c6
    simp only [Option.some.injEq, Prod.mk.injEq] at H
    obtain ⟨rfl, rfl, rfl, rfl⟩ := H
    have hnb10 := NB286_285.out
    have hnc10 := NB285_286.out
    have hcz11_0 : wr.cell? ⟨gb286, 0, none⟩ = some (.int .u64 x287000_1) := (zs BK286.out 0).trans rfl
    have hcz11_1 : wr.cell? ⟨gb286, 1, none⟩ = some (.int .u64 4294967295) := (zs BK286.out 1).trans rfl
    have hcz11_2 : wr.cell? ⟨gb286, 2, none⟩ = some (.slice A0 l0.length c0) := (zs BK286.out 2).trans rfl
    have hcz11_3 : wr.cell? ⟨gb286, 3, none⟩ = some (.int .i64 4) := (zs BK286.out 3).trans rfl
    have hfz11_0 := zx BK286.out 0
    have hfz11_1 := zx BK286.out 1
    have hfz11_2 := zx BK286.out 2
    have hfz11_3 := zx BK286.out 3
    have hcz12_0 : wr.cell? ⟨gb285, 0, none⟩ = some (.int .u64 0) := (zs BK285.out 0).trans rfl
    have hcz12_1 : wr.cell? ⟨gb285, 1, none⟩ = some (.int .u64 0) := (zs BK285.out 1).trans rfl
    have hcz12_2 : wr.cell? ⟨gb285, 2, none⟩ = some (.slice none 0 0) := (zs BK285.out 2).trans rfl
    have hcz12_3 : wr.cell? ⟨gb285, 3, none⟩ = some (.int .i64 0) := (zs BK285.out 3).trans rfl
    have hfz12_0 := zx BK285.out 0
    have hfz12_1 := zx BK285.out 1
    have hfz12_2 := zx BK285.out 2
    have hfz12_3 := zx BK285.out 3
    go_wp2
    refine bodyPost_ret (results_cell_row rfl _ _ gb285 46 #[.int .u64 x287000_1, .int .u64 4294967295, .slice A0 l0.length c0, .int .i64 4] (0, 0) _ rfl (by (with_reducible repeat (first | refine zh ?_ _ | refine zj ?_ | refine zi ?_ _)); refine zw (cs := #[.int .u64 x287000_1, .int .u64 4294967295, .slice A0 l0.length c0, .int .i64 0]) ?_ 3 _ rfl; (with_reducible repeat (first | refine zh ?_ _ | refine zj ?_ | refine zi ?_ _)); refine zw (cs := #[.int .u64 x287000_1, .int .u64 4294967295, .slice none 0 0, .int .i64 0]) ?_ 2 _ rfl; (with_reducible repeat (first | refine zh ?_ _ | refine zj ?_ | refine zi ?_ _)); refine zw (cs := #[.int .u64 x287000_1, .int .u64 0, .slice none 0 0, .int .i64 0]) ?_ 1 _ rfl; (with_reducible repeat (first | refine zh ?_ _ | refine zj ?_ | refine zi ?_ _)); refine zw (cs := #[.int .u64 0, .int .u64 0, .slice none 0 0, .int .i64 0]) ?_ 0 _ rfl; (with_reducible repeat (first | refine zh ?_ _ | refine zj ?_ | refine zi ?_ _)); exact BK285.out) Try.underlying46 rfl (by kernel_rfl)) rfl ?_
    exact ⟨_, by first | rfl | (simp [errW_none, errW_some] <;> rfl) | (simp [*, errW_none, errW_some] <;> rfl), by (with_reducible repeat (first | apply zA | apply zB | apply zC)); exact zy (zI (p := ⟨gb285, 3, none⟩) (zI (p := ⟨gb285, 2, none⟩) (zI (p := ⟨gb285, 1, none⟩) (zI (p := ⟨gb285, 0, none⟩) (zy HO_287002.out (fun k_ hk => (⟨hk, hk.2.1⟩ : _ ∧ k_ ≠ gb285))) (fun _ hk => hk.2) (.int .u64 x287000_1)) (fun _ hk => hk.2) (.int .u64 4294967295)) (fun _ hk => hk.2) (.slice A0 l0.length c0)) (fun _ hk => hk.2) (.int .i64 4)) (fun _ hk => hk.1.1), by repeat (first | (with_reducible first | exact HB.out | apply ze | apply zd | apply zf | refine zk ?_ GE285.out | refine zk ?_ GE286.out) | exact HB.out)⟩

end Go.Proofs.Ytkaoiblgfpphoaa.Prt

namespace Go.Proofs.Ytkaoiblgfpphoaa.Prt
open Go.RowKit Go.Proofs.YtkaoiblgfpphoaaW.PrintWords Go.Proofs.YtkaoiblgfpphoaaW.PrintLast Go.Proofs.YtkaoiblgfpphoaaW.PrintMore
attribute [local go_sem] max2_int min2_int max_two min_two max_three min_three max_four min_four   -- for this text's walks alone
set_option linter.unusedVariables false
set_option linter.unusedSimpArgs false

/-! ### psalterylaw05_AsDec: function 31 -/
def psalterylaw05_AsDec.f (k : Nat) (a0_0 : Int) (a0_1 : Int) (l0_2 : List Int) (a0_3 : Int) : Option (Int × Int × List Int × Int) := if a0_0 > 4294967295 then ((psalteryref05_Open.f k ([] : List Int)).bind fun bt333 => (some (bt333.1, bt333.2.1, bt333.2.2.1, bt333.2.2.2))) else (if a0_1 < 16777216 then ((psalteryref05_Open.f k ([] : List Int)).bind fun bt339 => (some (bt339.1, bt339.2.1, bt339.2.2.1, bt339.2.2.2))) else (if a0_3 < 0 then ((psalteryref05_Open.f k ([] : List Int)).bind fun bt345 => (some (bt345.1, bt345.2.1, bt345.2.2.1, bt345.2.2.2))) else (some (a0_0, IntKind.u64.wrap (a0_1), l0_2, a0_3))))
theorem psalterylaw05_AsDec.mono : ∀ a0 a1 a2 a3 k, LeO (psalterylaw05_AsDec.f k a0 a1 a2 a3) (psalterylaw05_AsDec.f (k + 1) a0 a1 a2 a3) := by
 intro a0 a1 a2 a3 k
 unfold psalterylaw05_AsDec.f
 repeat' first
   | (with_reducible exact psalteryref05_Open.mono _ _)
   | (with_reducible exact LeO.refl _)
   | (with_reducible exact LeO.none _)
   | (with_reducible refine LeO.ite ?_ ?_)
   | (with_reducible refine LeO.bind ?_ (fun _ => ?_))
   | exact psalteryref05_Open.mono _ _
   | exact LeO.none _
   | refine LeO.ite ?_ ?_
   | refine LeO.bind ?_ (fun _ => ?_)
set_option maxHeartbeats 8000000 in
set_option maxRecDepth 100000 in
theorem psalterylaw05_AsDec.calls (k : Nat) (a0_0 : Int) (a0_1 : Int) (P0_2_ : Nat → Prop) (A0_2 : Option Addr) (c0_2 : Nat) (l0_2 : List Int) (a0_3 : Int) (r1 : Int) (r2 : Int) (r3 : List Int) (r4 : Int) (w : World) (hs0_2 : Kd.V (Kd.int .u8) 5 w w.heap.size (fun k_ => P0_2_ k_) (.slice A0_2 l0_2.length c0_2) l0_2) (h : psalterylaw05_AsDec.f k a0_0 a0_1 l0_2 a0_3 = some (r1, r2, r3, r4)) :
  Calls Try.prog 31 #[.agg #[.int .u64 a0_0, .int .u32 a0_1, .slice A0_2 l0_2.length c0_2, .int .i64 a0_3]] w fun e w' => ∃ v2_ : Value, e = .returned (.agg #[.int .u64 r1, .int .u64 r2, v2_, .int .i64 r4]) ∧ Kd.V (Kd.int .u8) 5 w' w.heap.size (fun k_ => (P0_2_ k_ ∨ w.heap.size ≤ k_)) v2_ r3 ∧ Below w.heap.size w w' := by
 have hu43 := Try.underlying43
 have hu46 := Try.underlying46
 have HO0_2 := zm (show Kd.V (Kd.int .u8) 5 w w.heap.size (fun k_ => (P0_2_ k_ ∨ w.heap.size ≤ k_)) (.slice A0_2 l0_2.length c0_2) l0_2 from zy hs0_2 (fun k_ hk => .inl hk))
 have HB := zm (Below.refl w.heap.size w)
 have H : (if a0_0 > 4294967295 then ((psalteryref05_Open.f k ([] : List Int)).bind fun bt333 => (some (bt333.1, bt333.2.1, bt333.2.2.1, bt333.2.2.2))) else (if a0_1 < 16777216 then ((psalteryref05_Open.f k ([] : List Int)).bind fun bt339 => (some (bt339.1, bt339.2.1, bt339.2.2.1, bt339.2.2.2))) else (if a0_3 < 0 then ((psalteryref05_Open.f k ([] : List Int)).bind fun bt345 => (some (bt345.1, bt345.2.1, bt345.2.2.1, bt345.2.2.2))) else (some (a0_0, IntKind.u64.wrap (a0_1), l0_2, a0_3))))) = some (r1, r2, r3, r4) := h
 clear h
 by_cases c2 : a0_0 > 4294967295
 ·
  rw [if_pos c2] at H
  have c2b0 : decide (4294967295 < a0_0) = true := decide_eq_true c2
  clear c2
  replace H := Option.bind_eq_some_iff.mp H
  obtain ⟨⟨t333, t334, t335, t338⟩, A30, H⟩ := H
  replace H : (some (t333, t334, t335, t338)) = some (r1, r2, r3, r4) := H
  have A3 := zm A30
  clear A30
  simp only [Option.some.injEq, Prod.mk.injEq] at H
  obtain ⟨rfl, rfl, rfl, rfl⟩ := H
  go_enter Try.func31, Try.ntmps31
  go_wp2_with (first | ((with_reducible refine gate_dst (N := 1) rfl ?_); refine box_event ?hg (N := 1) ?hd (cs := #[.int .u64 a0_0, .int .u32 a0_1, .slice A0_2 l0_2.length c0_2, .int .i64 a0_3]) (t := 43) ?hr ?_; (case hd => rfl); (case hg => rfl); (case hr => first | (go_simp; done) | (go_simp; rfl)); intro gb331 hg w4 hbox hb; have n0_ := zm (Kd.V_below (Kd.V_elderB (by (with_reducible repeat (first | apply zA | apply zB | apply zC)); exact HO0_2.out) gb331 (Nat.le_of_eq hg.symm)) hb); have n1_ := zm (zJ (by repeat (first | (with_reducible first | exact HB.out | apply ze | apply zd | apply zf) | exact HB.out)) hb); have n2_ := zm (hbox); have n3_ := zm ((by rw [hg]; exact (zE (by repeat (first | (with_reducible first | exact HB.out | apply ze | apply zd | apply zf) | exact HB.out))) : w.heap.size ≤ gb331)); have n4_ := zm ((by rw [hg]; exact (zE (by repeat (first | (with_reducible first | exact HB.out | apply ze | apply zd | apply zf) | exact HB.out))) : w.heap.size ≤ gb331)); clear HO0_2; clear HB; have HO0_2 := n0_; have HB := n1_; have BK331 := n2_; have GW331 := n3_; have GE331 := n4_; clear n0_ n1_ n2_ n3_ n4_; clear hb hbox hg) | ((with_reducible refine gate_dst (N := 2) rfl ?_); refine box_event ?hg (N := 2) ?hd (cs := #[.int .u64 0, .int .u64 0, .slice none 0 0, .int .i64 0]) (t := 46) ?hr ?_; (case hd => rfl); (case hg => rfl); (case hr => first | (go_simp; done) | (go_simp; rfl)); intro gb332 hg w5 hbox hb; have n0_ := zm (Kd.V_below (Kd.V_elderB (by (with_reducible repeat (first | apply zA | apply zB | apply zC)); exact HO0_2.out) gb332 (Nat.le_of_eq hg.symm)) hb); have n1_ := zm (zF (g := gb331) (o := .cells #[.int .u64 a0_0, .int .u32 a0_1, .slice A0_2 l0_2.length c0_2, .int .i64 a0_3] 43 (0, 0)) (by (with_reducible repeat (first | refine zh ?_ _ | refine zj ?_ | refine zi ?_ _)); exact BK331.out) hb); have n2_ := zm (zJ (by repeat (first | (with_reducible first | exact HB.out | apply ze | apply zd | apply zf | refine zk ?_ GE331.out) | exact HB.out)) hb); have n3_ := zm (hbox); have n4_ := zm ((by rw [hg]; exact (zE (by repeat (first | (with_reducible first | exact HB.out | apply ze | apply zd | apply zf | refine zk ?_ GE331.out) | exact HB.out))) : w.heap.size ≤ gb332)); have n5_ := zm ((by rw [hg]; exact (zE (by repeat (first | (with_reducible first | exact HB.out | apply ze | apply zd | apply zf | refine zk ?_ GE331.out) | exact HB.out))) : w.heap.size ≤ gb332)); have n6_ := zm ((by rw [hg]; exact zn (zD (g := gb331) (o := .cells #[.int .u64 a0_0, .int .u32 a0_1, .slice A0_2 l0_2.length c0_2, .int .i64 a0_3] 43 (0, 0)) (by (with_reducible repeat (first | refine zh ?_ _ | refine zj ?_ | refine zi ?_ _)); exact BK331.out)) : gb331 ≠ gb332)); have n7_ := zm ((by rw [hg]; exact zg (zD (g := gb331) (o := .cells #[.int .u64 a0_0, .int .u32 a0_1, .slice A0_2 l0_2.length c0_2, .int .i64 a0_3] 43 (0, 0)) (by (with_reducible repeat (first | refine zh ?_ _ | refine zj ?_ | refine zi ?_ _)); exact BK331.out)) : gb332 ≠ gb331)); clear HO0_2; clear BK331; clear HB; have HO0_2 := n0_; have BK331 := n1_; have HB := n2_; have BK332 := n3_; have GW332 := n4_; have GE332 := n5_; have NB331_332 := n6_; have NB332_331 := n7_; clear n0_ n1_ n2_ n3_ n4_ n5_ n6_ n7_; clear hb hbox hg; have hnb6 := NB331_332.out; have hnc6 := NB332_331.out; have hcz7_0 : w5.cell? ⟨gb331, 0, none⟩ = some (.int .u64 a0_0) := (zs BK331.out 0).trans rfl; have hcz7_1 : w5.cell? ⟨gb331, 1, none⟩ = some (.int .u32 a0_1) := (zs BK331.out 1).trans rfl; have hcz7_2 : w5.cell? ⟨gb331, 2, none⟩ = some (.slice A0_2 l0_2.length c0_2) := (zs BK331.out 2).trans rfl; have hcz7_3 : w5.cell? ⟨gb331, 3, none⟩ = some (.int .i64 a0_3) := (zs BK331.out 3).trans rfl; have hfz7_0 := zx BK331.out 0; have hfz7_1 := zx BK331.out 1; have hfz7_2 := zx BK331.out 2; have hfz7_3 := zx BK331.out 3) | ((with_reducible refine gate_callee (f := 27) rfl ?_); refine goesL_ (some 16) rfl rfl Try.func27 (by kernel_rfl) rfl #[.slice none 0 0] rfl (by (try simp only [List.map_toArray, List.map_cons, List.map_nil]); first | done | rfl | (simp only [List.length_drop, List.length_take]; rfl)) ?_; (refine (psalteryref05_Open.calls k (fun k_ => False) _ _ ([] : List Int) t333 t334 t335 t338 _ ?side1 A3.out).mono ?_); (case side1 => exact Kd.V_nil _ _ _ _ _); rintro e w8 ⟨v336, rfl, ho0, hb⟩; refine ⟨_, rfl, ?_⟩; have n0_ := zm (Kd.V_below (by (with_reducible repeat (first | apply zA | apply zB | apply zC)); exact HO0_2.out) hb); have n1_ := zm (Kd.V_lower (zy (ok' := fun k_ => (P0_2_ k_ ∨ w.heap.size ≤ k_) ∧ k_ ≠ gb331 ∧ k_ ≠ gb332) ho0 (fun k_ hk_ => ⟨Or.elim hk_ (fun hs_ => (hs_).elim) (fun hn_ => (.inr (Nat.le_trans (zE (by repeat (first | (with_reducible first | exact HB.out | apply ze | apply zd | apply zf | refine zk ?_ GE331.out | refine zk ?_ GE332.out) | exact HB.out))) hn_))), Or.elim hk_ (fun hs_ => (hs_).elim) (fun hn_ => (Kd.freshB (g := gb331) (o := .cells #[.int .u64 a0_0, .int .u32 a0_1, .slice A0_2 l0_2.length c0_2, .int .i64 a0_3] 43 (0, 0)) (by (with_reducible repeat (first | refine zh ?_ _ | refine zj ?_ | refine zi ?_ _)); exact BK331.out) k_ hn_)), Or.elim hk_ (fun hs_ => (hs_).elim) (fun hn_ => (Kd.freshB (g := gb332) (o := .cells #[.int .u64 0, .int .u64 0, .slice none 0 0, .int .i64 0] 46 (0, 0)) (by (with_reducible repeat (first | refine zh ?_ _ | refine zj ?_ | refine zi ?_ _)); exact BK332.out) k_ hn_))⟩)) (zE (by repeat (first | (with_reducible first | exact HB.out | apply ze | apply zd | apply zf | refine zk ?_ GE331.out | refine zk ?_ GE332.out) | exact HB.out)))); have n2_ := zm (zF (g := gb331) (o := .cells #[.int .u64 a0_0, .int .u32 a0_1, .slice A0_2 l0_2.length c0_2, .int .i64 a0_3] 43 (0, 0)) (by (with_reducible repeat (first | refine zh ?_ _ | refine zj ?_ | refine zi ?_ _)); exact BK331.out) hb); have n3_ := zm (zF (g := gb332) (o := .cells #[.int .u64 0, .int .u64 0, .slice none 0 0, .int .i64 0] 46 (0, 0)) (by (with_reducible repeat (first | refine zh ?_ _ | refine zj ?_ | refine zi ?_ _)); exact BK332.out) hb); have n4_ := zm (zJ (by repeat (first | (with_reducible first | exact HB.out | apply ze | apply zd | apply zf | refine zk ?_ GE331.out | refine zk ?_ GE332.out) | exact HB.out)) hb); clear HO0_2; clear BK331; clear BK332; clear HB; have HO0_2 := n0_; have HO337 := n1_; have BK331 := n2_; have BK332 := n3_; have HB := n4_; clear n0_ n1_ n2_ n3_ n4_; (try clear hb); (try clear hb2); (try clear hk); (try clear hi); (try clear ho0); have hcz9_0 : w8.cell? ⟨gb332, 0, none⟩ = some (.int .u64 0) := (zs BK332.out 0).trans rfl; have hcz9_1 : w8.cell? ⟨gb332, 1, none⟩ = some (.int .u64 0) := (zs BK332.out 1).trans rfl; have hcz9_2 : w8.cell? ⟨gb332, 2, none⟩ = some (.slice none 0 0) := (zs BK332.out 2).trans rfl; have hcz9_3 : w8.cell? ⟨gb332, 3, none⟩ = some (.int .i64 0) := (zs BK332.out 3).trans rfl; have hfz9_0 := zx BK332.out 0; have hfz9_1 := zx BK332.out 1; have hfz9_2 := zx BK332.out 2; have hfz9_3 := zx BK332.out 3; obtain ⟨Ao10, co10, eo10⟩ := Kd.V_slice HO337.out; subst eo10))
  refine bodyPost_ret (results_cell_row rfl _ _ gb332 46 #[.int .u64 t333, .int .u64 t334, .slice Ao10 t335.length co10, .int .i64 t338] (0, 0) _ rfl (by (with_reducible repeat (first | refine zh ?_ _ | refine zj ?_ | refine zi ?_ _)); refine zw (cs := #[.int .u64 t333, .int .u64 t334, .slice Ao10 t335.length co10, .int .i64 0]) ?_ 3 _ rfl; (with_reducible repeat (first | refine zh ?_ _ | refine zj ?_ | refine zi ?_ _)); refine zw (cs := #[.int .u64 t333, .int .u64 t334, .slice none 0 0, .int .i64 0]) ?_ 2 _ rfl; (with_reducible repeat (first | refine zh ?_ _ | refine zj ?_ | refine zi ?_ _)); refine zw (cs := #[.int .u64 t333, .int .u64 0, .slice none 0 0, .int .i64 0]) ?_ 1 _ rfl; (with_reducible repeat (first | refine zh ?_ _ | refine zj ?_ | refine zi ?_ _)); refine zw (cs := #[.int .u64 0, .int .u64 0, .slice none 0 0, .int .i64 0]) ?_ 0 _ rfl; (with_reducible repeat (first | refine zh ?_ _ | refine zj ?_ | refine zi ?_ _)); exact BK332.out) Try.underlying46 rfl (by kernel_rfl)) rfl ?_
  exact ⟨_, by first | rfl | (simp [errW_none, errW_some] <;> rfl) | (simp [*, errW_none, errW_some] <;> rfl), by (with_reducible repeat (first | apply zA | apply zB | apply zC)); exact zy (zI (p := ⟨gb332, 3, none⟩) (zI (p := ⟨gb332, 2, none⟩) (zI (p := ⟨gb332, 1, none⟩) (zI (p := ⟨gb332, 0, none⟩) (zy HO337.out (fun k_ hk => (⟨hk, hk.2.2⟩ : _ ∧ k_ ≠ gb332))) (fun _ hk => hk.2) (.int .u64 t333)) (fun _ hk => hk.2) (.int .u64 t334)) (fun _ hk => hk.2) (.slice Ao10 t335.length co10)) (fun _ hk => hk.2) (.int .i64 t338)) (fun _ hk => hk.1.1), by repeat (first | (with_reducible first | exact HB.out | apply ze | apply zd | apply zf | refine zk ?_ GE331.out | refine zk ?_ GE332.out) | exact HB.out)⟩
 ·
  rw [if_neg c2] at H
  have c2b0 : decide (4294967295 < a0_0) = false := decide_eq_false c2
  clear c2
  by_cases c11 : a0_1 < 16777216
  ·
   rw [if_pos c11] at H
   have c11b0 : decide (a0_1 < 16777216) = true := decide_eq_true c11
   clear c11
   replace H := Option.bind_eq_some_iff.mp H
   obtain ⟨⟨t339, t340, t341, t344⟩, A120, H⟩ := H
   replace H : (some (t339, t340, t341, t344)) = some (r1, r2, r3, r4) := H
   have A12 := zm A120
   clear A120
   simp only [Option.some.injEq, Prod.mk.injEq] at H
   obtain ⟨rfl, rfl, rfl, rfl⟩ := H
   go_enter Try.func31, Try.ntmps31
   go_wp2_with (first | ((with_reducible refine gate_dst (N := 1) rfl ?_); refine box_event ?hg (N := 1) ?hd (cs := #[.int .u64 a0_0, .int .u32 a0_1, .slice A0_2 l0_2.length c0_2, .int .i64 a0_3]) (t := 43) ?hr ?_; (case hd => rfl); (case hg => rfl); (case hr => first | (go_simp; done) | (go_simp; rfl)); intro gb331 hg w13 hbox hb; have n0_ := zm (Kd.V_below (Kd.V_elderB (by (with_reducible repeat (first | apply zA | apply zB | apply zC)); exact HO0_2.out) gb331 (Nat.le_of_eq hg.symm)) hb); have n1_ := zm (zJ (by repeat (first | (with_reducible first | exact HB.out | apply ze | apply zd | apply zf) | exact HB.out)) hb); have n2_ := zm (hbox); have n3_ := zm ((by rw [hg]; exact (zE (by repeat (first | (with_reducible first | exact HB.out | apply ze | apply zd | apply zf) | exact HB.out))) : w.heap.size ≤ gb331)); have n4_ := zm ((by rw [hg]; exact (zE (by repeat (first | (with_reducible first | exact HB.out | apply ze | apply zd | apply zf) | exact HB.out))) : w.heap.size ≤ gb331)); clear HO0_2; clear HB; have HO0_2 := n0_; have HB := n1_; have BK331 := n2_; have GW331 := n3_; have GE331 := n4_; clear n0_ n1_ n2_ n3_ n4_; clear hb hbox hg) | ((with_reducible refine gate_dst (N := 2) rfl ?_); refine box_event ?hg (N := 2) ?hd (cs := #[.int .u64 0, .int .u64 0, .slice none 0 0, .int .i64 0]) (t := 46) ?hr ?_; (case hd => rfl); (case hg => rfl); (case hr => first | (go_simp; done) | (go_simp; rfl)); intro gb332 hg w14 hbox hb; have n0_ := zm (Kd.V_below (Kd.V_elderB (by (with_reducible repeat (first | apply zA | apply zB | apply zC)); exact HO0_2.out) gb332 (Nat.le_of_eq hg.symm)) hb); have n1_ := zm (zF (g := gb331) (o := .cells #[.int .u64 a0_0, .int .u32 a0_1, .slice A0_2 l0_2.length c0_2, .int .i64 a0_3] 43 (0, 0)) (by (with_reducible repeat (first | refine zh ?_ _ | refine zj ?_ | refine zi ?_ _)); exact BK331.out) hb); have n2_ := zm (zJ (by repeat (first | (with_reducible first | exact HB.out | apply ze | apply zd | apply zf | refine zk ?_ GE331.out) | exact HB.out)) hb); have n3_ := zm (hbox); have n4_ := zm ((by rw [hg]; exact (zE (by repeat (first | (with_reducible first | exact HB.out | apply ze | apply zd | apply zf | refine zk ?_ GE331.out) | exact HB.out))) : w.heap.size ≤ gb332)); have n5_ := zm ((by rw [hg]; exact (zE (by repeat (first | (with_reducible first | exact HB.out | apply ze | apply zd | apply zf | refine zk ?_ GE331.out) | exact HB.out))) : w.heap.size ≤ gb332)); have n6_ := zm ((by rw [hg]; exact zn (zD (g := gb331) (o := .cells #[.int .u64 a0_0, .int .u32 a0_1, .slice A0_2 l0_2.length c0_2, .int .i64 a0_3] 43 (0, 0)) (by (with_reducible repeat (first | refine zh ?_ _ | refine zj ?_ | refine zi ?_ _)); exact BK331.out)) : gb331 ≠ gb332)); have n7_ := zm ((by rw [hg]; exact zg (zD (g := gb331) (o := .cells #[.int .u64 a0_0, .int .u32 a0_1, .slice A0_2 l0_2.length c0_2, .int .i64 a0_3] 43 (0, 0)) (by (with_reducible repeat (first | refine zh ?_ _ | refine zj ?_ | refine zi ?_ _)); exact BK331.out)) : gb332 ≠ gb331)); clear HO0_2; clear BK331; clear HB; have HO0_2 := n0_; have BK331 := n1_; have HB := n2_; have BK332 := n3_; have GW332 := n4_; have GE332 := n5_; have NB331_332 := n6_; have NB332_331 := n7_; clear n0_ n1_ n2_ n3_ n4_ n5_ n6_ n7_; clear hb hbox hg; have hnb15 := NB331_332.out; have hnc15 := NB332_331.out; have hcz16_0 : w14.cell? ⟨gb331, 0, none⟩ = some (.int .u64 a0_0) := (zs BK331.out 0).trans rfl; have hcz16_1 : w14.cell? ⟨gb331, 1, none⟩ = some (.int .u32 a0_1) := (zs BK331.out 1).trans rfl; have hcz16_2 : w14.cell? ⟨gb331, 2, none⟩ = some (.slice A0_2 l0_2.length c0_2) := (zs BK331.out 2).trans rfl; have hcz16_3 : w14.cell? ⟨gb331, 3, none⟩ = some (.int .i64 a0_3) := (zs BK331.out 3).trans rfl; have hfz16_0 := zx BK331.out 0; have hfz16_1 := zx BK331.out 1; have hfz16_2 := zx BK331.out 2; have hfz16_3 := zx BK331.out 3) | ((with_reducible refine gate_callee (f := 27) rfl ?_); refine goesL_ (some 16) rfl rfl Try.func27 (by kernel_rfl) rfl #[.slice none 0 0] rfl (by (try simp only [List.map_toArray, List.map_cons, List.map_nil]); first | done | rfl | (simp only [List.length_drop, List.length_take]; rfl)) ?_; (refine (psalteryref05_Open.calls k (fun k_ => False) _ _ ([] : List Int) t339 t340 t341 t344 _ ?side1 A12.out).mono ?_); (case side1 => exact Kd.V_nil _ _ _ _ _); rintro e w17 ⟨v342, rfl, ho0, hb⟩; refine ⟨_, rfl, ?_⟩; have n0_ := zm (Kd.V_below (by (with_reducible repeat (first | apply zA | apply zB | apply zC)); exact HO0_2.out) hb); have n1_ := zm (Kd.V_lower (zy (ok' := fun k_ => (P0_2_ k_ ∨ w.heap.size ≤ k_) ∧ k_ ≠ gb331 ∧ k_ ≠ gb332) ho0 (fun k_ hk_ => ⟨Or.elim hk_ (fun hs_ => (hs_).elim) (fun hn_ => (.inr (Nat.le_trans (zE (by repeat (first | (with_reducible first | exact HB.out | apply ze | apply zd | apply zf | refine zk ?_ GE331.out | refine zk ?_ GE332.out) | exact HB.out))) hn_))), Or.elim hk_ (fun hs_ => (hs_).elim) (fun hn_ => (Kd.freshB (g := gb331) (o := .cells #[.int .u64 a0_0, .int .u32 a0_1, .slice A0_2 l0_2.length c0_2, .int .i64 a0_3] 43 (0, 0)) (by (with_reducible repeat (first | refine zh ?_ _ | refine zj ?_ | refine zi ?_ _)); exact BK331.out) k_ hn_)), Or.elim hk_ (fun hs_ => (hs_).elim) (fun hn_ => (Kd.freshB (g := gb332) (o := .cells #[.int .u64 0, .int .u64 0, .slice none 0 0, .int .i64 0] 46 (0, 0)) (by (with_reducible repeat (first | refine zh ?_ _ | refine zj ?_ | refine zi ?_ _)); exact BK332.out) k_ hn_))⟩)) (zE (by repeat (first | (with_reducible first | exact HB.out | apply ze | apply zd | apply zf | refine zk ?_ GE331.out | refine zk ?_ GE332.out) | exact HB.out)))); have n2_ := zm (zF (g := gb331) (o := .cells #[.int .u64 a0_0, .int .u32 a0_1, .slice A0_2 l0_2.length c0_2, .int .i64 a0_3] 43 (0, 0)) (by (with_reducible repeat (first | refine zh ?_ _ | refine zj ?_ | refine zi ?_ _)); exact BK331.out) hb); have n3_ := zm (zF (g := gb332) (o := .cells #[.int .u64 0, .int .u64 0, .slice none 0 0, .int .i64 0] 46 (0, 0)) (by (with_reducible repeat (first | refine zh ?_ _ | refine zj ?_ | refine zi ?_ _)); exact BK332.out) hb); have n4_ := zm (zJ (by repeat (first | (with_reducible first | exact HB.out | apply ze | apply zd | apply zf | refine zk ?_ GE331.out | refine zk ?_ GE332.out) | exact HB.out)) hb); clear HO0_2; clear BK331; clear BK332; clear HB; have HO0_2 := n0_; have HO343 := n1_; have BK331 := n2_; have BK332 := n3_; have HB := n4_; clear n0_ n1_ n2_ n3_ n4_; (try clear hb); (try clear hb2); (try clear hk); (try clear hi); (try clear ho0); have hcz18_0 : w17.cell? ⟨gb332, 0, none⟩ = some (.int .u64 0) := (zs BK332.out 0).trans rfl; have hcz18_1 : w17.cell? ⟨gb332, 1, none⟩ = some (.int .u64 0) := (zs BK332.out 1).trans rfl; have hcz18_2 : w17.cell? ⟨gb332, 2, none⟩ = some (.slice none 0 0) := (zs BK332.out 2).trans rfl; have hcz18_3 : w17.cell? ⟨gb332, 3, none⟩ = some (.int .i64 0) := (zs BK332.out 3).trans rfl; have hfz18_0 := zx BK332.out 0; have hfz18_1 := zx BK332.out 1; have hfz18_2 := zx BK332.out 2; have hfz18_3 := zx BK332.out 3; obtain ⟨Ao19, co19, eo19⟩ := Kd.V_slice HO343.out; subst eo19))
   refine bodyPost_ret (results_cell_row rfl _ _ gb332 46 #[.int .u64 t339, .int .u64 t340, .slice Ao19 t341.length co19, .int .i64 t344] (0, 0) _ rfl (by (with_reducible repeat (first | refine zh ?_ _ | refine zj ?_ | refine zi ?_ _)); refine zw (cs := #[.int .u64 t339, .int .u64 t340, .slice Ao19 t341.length co19, .int .i64 0]) ?_ 3 _ rfl; (with_reducible repeat (first | refine zh ?_ _ | refine zj ?_ | refine zi ?_ _)); refine zw (cs := #[.int .u64 t339, .int .u64 t340, .slice none 0 0, .int .i64 0]) ?_ 2 _ rfl; (with_reducible repeat (first | refine zh ?_ _ | refine zj ?_ | refine zi ?_ _)); refine zw (cs := #[.int .u64 t339, .int .u64 0, .slice none 0 0, .int .i64 0]) ?_ 1 _ rfl; (with_reducible repeat (first | refine zh ?_ _ | refine zj ?_ | refine zi ?_ _)); refine zw (cs := #[.int .u64 0, .int .u64 0, .slice none 0 0, .int .i64 0]) ?_ 0 _ rfl; (with_reducible repeat (first | refine zh ?_ _ | refine zj ?_ | refine zi ?_ _)); exact BK332.out) Try.underlying46 rfl (by kernel_rfl)) rfl ?_
   exact ⟨_, by first | rfl | (simp [errW_none, errW_some] <;> rfl) | (simp [*, errW_none, errW_some] <;> rfl), by (with_reducible repeat (first | apply zA | apply zB | apply zC)); exact zy (zI (p := ⟨gb332, 3, none⟩) (zI (p := ⟨gb332, 2, none⟩) (zI (p := ⟨gb332, 1, none⟩) (zI (p := ⟨gb332, 0, none⟩) (zy HO343.out (fun k_ hk => (⟨hk, hk.2.2⟩ : _ ∧ k_ ≠ gb332))) (fun _ hk => hk.2) (.int .u64 t339)) (fun _ hk => hk.2) (.int .u64 t340)) (fun _ hk => hk.2) (.slice Ao19 t341.length co19)) (fun _ hk => hk.2) (.int .i64 t344)) (fun _ hk => hk.1.1), by repeat (first | (with_reducible first | exact HB.out | apply ze | apply zd | apply zf | refine zk ?_ GE331.out | refine zk ?_ GE332.out) | exact HB.out)⟩
  ·
   rw [if_neg c11] at H
   have c11b0 : decide (a0_1 < 16777216) = false := decide_eq_false c11
   clear c11
   by_cases c20 : a0_3 < 0
   ·
    rw [if_pos c20] at H
    have c20b0 : decide (a0_3 < 0) = true := decide_eq_true c20
    clear c20
    replace H := Option.bind_eq_some_iff.mp H
    obtain ⟨⟨t345, t346, t347, t350⟩, A210, H⟩ := H
    replace H : (some (t345, t346, t347, t350)) = some (r1, r2, r3, r4) := H
    have A21 := zm A210
    clear A210
    simp only [Option.some.injEq, Prod.mk.injEq] at H
    obtain ⟨rfl, rfl, rfl, rfl⟩ := H
    go_enter Try.func31, Try.ntmps31
    go_wp2_with (first | ((with_reducible refine gate_dst (N := 1) rfl ?_); refine box_event ?hg (N := 1) ?hd (cs := #[.int .u64 a0_0, .int .u32 a0_1, .slice A0_2 l0_2.length c0_2, .int .i64 a0_3]) (t := 43) ?hr ?_; (case hd => rfl); (case hg => rfl); (case hr => first | (go_simp; done) | (go_simp; rfl)); intro gb331 hg w22 hbox hb; have n0_ := zm (Kd.V_below (Kd.V_elderB (by (with_reducible repeat (first | apply zA | apply zB | apply zC)); exact HO0_2.out) gb331 (Nat.le_of_eq hg.symm)) hb); have n1_ := zm (zJ (by repeat (first | (with_reducible first | exact HB.out | apply ze | apply zd | apply zf) | exact HB.out)) hb); have n2_ := zm (hbox); have n3_ := zm ((by rw [hg]; exact (zE (by repeat (first | (with_reducible first | exact HB.out | apply ze | apply zd | apply zf) | exact HB.out))) : w.heap.size ≤ gb331)); have n4_ := zm ((by rw [hg]; exact (zE (by repeat (first | (with_reducible first | exact HB.out | apply ze | apply zd | apply zf) | exact HB.out))) : w.heap.size ≤ gb331)); clear HO0_2; clear HB; have HO0_2 := n0_; have HB := n1_; have BK331 := n2_; have GW331 := n3_; have GE331 := n4_; clear n0_ n1_ n2_ n3_ n4_; clear hb hbox hg) | ((with_reducible refine gate_dst (N := 2) rfl ?_); refine box_event ?hg (N := 2) ?hd (cs := #[.int .u64 0, .int .u64 0, .slice none 0 0, .int .i64 0]) (t := 46) ?hr ?_; (case hd => rfl); (case hg => rfl); (case hr => first | (go_simp; done) | (go_simp; rfl)); intro gb332 hg w23 hbox hb; have n0_ := zm (Kd.V_below (Kd.V_elderB (by (with_reducible repeat (first | apply zA | apply zB | apply zC)); exact HO0_2.out) gb332 (Nat.le_of_eq hg.symm)) hb); have n1_ := zm (zF (g := gb331) (o := .cells #[.int .u64 a0_0, .int .u32 a0_1, .slice A0_2 l0_2.length c0_2, .int .i64 a0_3] 43 (0, 0)) (by (with_reducible repeat (first | refine zh ?_ _ | refine zj ?_ | refine zi ?_ _)); exact BK331.out) hb); have n2_ := zm (zJ (by repeat (first | (with_reducible first | exact HB.out | apply ze | apply zd | apply zf | refine zk ?_ GE331.out) | exact HB.out)) hb); have n3_ := zm (hbox); have n4_ := zm ((by rw [hg]; exact (zE (by repeat (first | (with_reducible first | exact HB.out | apply ze | apply zd | apply zf | refine zk ?_ GE331.out) | exact HB.out))) : w.heap.size ≤ gb332)); have n5_ := zm ((by rw [hg]; exact (zE (by repeat (first | (with_reducible first | exact HB.out | apply ze | apply zd | apply zf | refine zk ?_ GE331.out) | exact HB.out))) : w.heap.size ≤ gb332)); have n6_ := zm ((by rw [hg]; exact zn (zD (g := gb331) (o := .cells #[.int .u64 a0_0, .int .u32 a0_1, .slice A0_2 l0_2.length c0_2, .int .i64 a0_3] 43 (0, 0)) (by (with_reducible repeat (first | refine zh ?_ _ | refine zj ?_ | refine zi ?_ _)); exact BK331.out)) : gb331 ≠ gb332)); have n7_ := zm ((by rw [hg]; exact zg (zD (g := gb331) (o := .cells #[.int .u64 a0_0, .int .u32 a0_1, .slice A0_2 l0_2.length c0_2, .int .i64 a0_3] 43 (0, 0)) (by (with_reducible repeat (first | refine zh ?_ _ | refine zj ?_ | refine zi ?_ _)); exact BK331.out)) : gb332 ≠ gb331)); clear HO0_2; clear BK331; clear HB; have HO0_2 := n0_; have BK331 := n1_; have HB := n2_; have BK332 := n3_; have GW332 := n4_; have GE332 := n5_; have NB331_332 := n6_; have NB332_331 := n7_; clear n0_ n1_ n2_ n3_ n4_ n5_ n6_ n7_; clear hb hbox hg; have hnb24 := NB331_332.out; have hnc24 := NB332_331.out; have hcz25_0 : w23.cell? ⟨gb331, 0, none⟩ = some (.int .u64 a0_0) := (zs BK331.out 0).trans rfl; have hcz25_1 : w23.cell? ⟨gb331, 1, none⟩ = some (.int .u32 a0_1) := (zs BK331.out 1).trans rfl; have hcz25_2 : w23.cell? ⟨gb331, 2, none⟩ = some (.slice A0_2 l0_2.length c0_2) := (zs BK331.out 2).trans rfl; have hcz25_3 : w23.cell? ⟨gb331, 3, none⟩ = some (.int .i64 a0_3) := (zs BK331.out 3).trans rfl; have hfz25_0 := zx BK331.out 0; have hfz25_1 := zx BK331.out 1; have hfz25_2 := zx BK331.out 2; have hfz25_3 := zx BK331.out 3) | ((with_reducible refine gate_callee (f := 27) rfl ?_); refine goesL_ (some 16) rfl rfl Try.func27 (by kernel_rfl) rfl #[.slice none 0 0] rfl (by (try simp only [List.map_toArray, List.map_cons, List.map_nil]); first | done | rfl | (simp only [List.length_drop, List.length_take]; rfl)) ?_; (refine (psalteryref05_Open.calls k (fun k_ => False) _ _ ([] : List Int) t345 t346 t347 t350 _ ?side1 A21.out).mono ?_); (case side1 => exact Kd.V_nil _ _ _ _ _); rintro e w26 ⟨v348, rfl, ho0, hb⟩; refine ⟨_, rfl, ?_⟩; have n0_ := zm (Kd.V_below (by (with_reducible repeat (first | apply zA | apply zB | apply zC)); exact HO0_2.out) hb); have n1_ := zm (Kd.V_lower (zy (ok' := fun k_ => (P0_2_ k_ ∨ w.heap.size ≤ k_) ∧ k_ ≠ gb331 ∧ k_ ≠ gb332) ho0 (fun k_ hk_ => ⟨Or.elim hk_ (fun hs_ => (hs_).elim) (fun hn_ => (.inr (Nat.le_trans (zE (by repeat (first | (with_reducible first | exact HB.out | apply ze | apply zd | apply zf | refine zk ?_ GE331.out | refine zk ?_ GE332.out) | exact HB.out))) hn_))), Or.elim hk_ (fun hs_ => (hs_).elim) (fun hn_ => (Kd.freshB (g := gb331) (o := .cells #[.int .u64 a0_0, .int .u32 a0_1, .slice A0_2 l0_2.length c0_2, .int .i64 a0_3] 43 (0, 0)) (by (with_reducible repeat (first | refine zh ?_ _ | refine zj ?_ | refine zi ?_ _)); exact BK331.out) k_ hn_)), Or.elim hk_ (fun hs_ => (hs_).elim) (fun hn_ => (Kd.freshB (g := gb332) (o := .cells #[.int .u64 0, .int .u64 0, .slice none 0 0, .int .i64 0] 46 (0, 0)) (by (with_reducible repeat (first | refine zh ?_ _ | refine zj ?_ | refine zi ?_ _)); exact BK332.out) k_ hn_))⟩)) (zE (by repeat (first | (with_reducible first | exact HB.out | apply ze | apply zd | apply zf | refine zk ?_ GE331.out | refine zk ?_ GE332.out) | exact HB.out)))); have n2_ := zm (zF (g := gb331) (o := .cells #[.int .u64 a0_0, .int .u32 a0_1, .slice A0_2 l0_2.length c0_2, .int .i64 a0_3] 43 (0, 0)) (by (with_reducible repeat (first | refine zh ?_ _ | refine zj ?_ | refine zi ?_ _)); exact BK331.out) hb); have n3_ := zm (zF (g := gb332) (o := .cells #[.int .u64 0, .int .u64 0, .slice none 0 0, .int .i64 0] 46 (0, 0)) (by (with_reducible repeat (first | refine zh ?_ _ | refine zj ?_ | refine zi ?_ _)); exact BK332.out) hb); have n4_ := zm (zJ (by repeat (first | (with_reducible first | exact HB.out | apply ze | apply zd | apply zf | refine zk ?_ GE331.out | refine zk ?_ GE332.out) | exact HB.out)) hb); clear HO0_2; clear BK331; clear BK332; clear HB; have HO0_2 := n0_; have HO349 := n1_; have BK331 := n2_; have BK332 := n3_; have HB := n4_; clear n0_ n1_ n2_ n3_ n4_; (try clear hb); (try clear hb2); (try clear hk); (try clear hi); (try clear ho0); have hcz27_0 : w26.cell? ⟨gb332, 0, none⟩ = some (.int .u64 0) := (zs BK332.out 0).trans rfl; have hcz27_1 : w26.cell? ⟨gb332, 1, none⟩ = some (.int .u64 0) := (zs BK332.out 1).trans rfl; have hcz27_2 : w26.cell? ⟨gb332, 2, none⟩ = some (.slice none 0 0) := (zs BK332.out 2).trans rfl; have hcz27_3 : w26.cell? ⟨gb332, 3, none⟩ = some (.int .i64 0) := (zs BK332.out 3).trans rfl; have hfz27_0 := zx BK332.out 0; have hfz27_1 := zx BK332.out 1; have hfz27_2 := zx BK332.out 2; have hfz27_3 := zx BK332.out 3; obtain ⟨Ao28, co28, eo28⟩ := Kd.V_slice HO349.out; subst eo28))
    refine bodyPost_ret (results_cell_row rfl _ _ gb332 46 #[.int .u64 t345, .int .u64 t346, .slice Ao28 t347.length co28, .int .i64 t350] (0, 0) _ rfl (by (with_reducible repeat (first | refine zh ?_ _ | refine zj ?_ | refine zi ?_ _)); refine zw (cs := #[.int .u64 t345, .int .u64 t346, .slice Ao28 t347.length co28, .int .i64 0]) ?_ 3 _ rfl; (with_reducible repeat (first | refine zh ?_ _ | refine zj ?_ | refine zi ?_ _)); refine zw (cs := #[.int .u64 t345, .int .u64 t346, .slice none 0 0, .int .i64 0]) ?_ 2 _ rfl; (with_reducible repeat (first | refine zh ?_ _ | refine zj ?_ | refine zi ?_ _)); refine zw (cs := #[.int .u64 t345, .int .u64 0, .slice none 0 0, .int .i64 0]) ?_ 1 _ rfl; (with_reducible repeat (first | refine zh ?_ _ | refine zj ?_ | refine zi ?_ _)); refine zw (cs := #[.int .u64 0, .int .u64 0, .slice none 0 0, .int .i64 0]) ?_ 0 _ rfl; (with_reducible repeat (first | refine zh ?_ _ | refine zj ?_ | refine zi ?_ _)); exact BK332.out) Try.underlying46 rfl (by kernel_rfl)) rfl ?_
    exact ⟨_, by first | rfl | (simp [errW_none, errW_some] <;> rfl) | (simp [*, errW_none, errW_some] <;> rfl), by (with_reducible repeat (first | apply zA | apply zB | apply zC)); exact zy (zI (p := ⟨gb332, 3, none⟩) (zI (p := ⟨gb332, 2, none⟩) (zI (p := ⟨gb332, 1, none⟩) (zI (p := ⟨gb332, 0, none⟩) (zy HO349.out (fun k_ hk => (⟨hk, hk.2.2⟩ : _ ∧ k_ ≠ gb332))) (fun _ hk => hk.2) (.int .u64 t345)) (fun _ hk => hk.2) (.int .u64 t346)) (fun _ hk => hk.2) (.slice Ao28 t347.length co28)) (fun _ hk => hk.2) (.int .i64 t350)) (fun _ hk => hk.1.1), by repeat (first | (with_reducible first | exact HB.out | apply ze | apply zd | apply zf | refine zk ?_ GE331.out | refine zk ?_ GE332.out) | exact HB.out)⟩
   ·
    rw [if_neg c20] at H
    have c20b0 : decide (a0_3 < 0) = false := decide_eq_false c20
    clear c20
    simp only [Option.some.injEq, Prod.mk.injEq] at H
    obtain ⟨rfl, rfl, rfl, rfl⟩ := H
    go_enter Try.func31, Try.ntmps31
    go_wp2_with (first | ((with_reducible refine gate_dst (N := 1) rfl ?_); refine box_event ?hg (N := 1) ?hd (cs := #[.int .u64 a0_0, .int .u32 a0_1, .slice A0_2 l0_2.length c0_2, .int .i64 a0_3]) (t := 43) ?hr ?_; (case hd => rfl); (case hg => rfl); (case hr => first | (go_simp; done) | (go_simp; rfl)); intro gb331 hg w29 hbox hb; have n0_ := zm (Kd.V_below (Kd.V_elderB (by (with_reducible repeat (first | apply zA | apply zB | apply zC)); exact HO0_2.out) gb331 (Nat.le_of_eq hg.symm)) hb); have n1_ := zm (zJ (by repeat (first | (with_reducible first | exact HB.out | apply ze | apply zd | apply zf) | exact HB.out)) hb); have n2_ := zm (hbox); have n3_ := zm ((by rw [hg]; exact (zE (by repeat (first | (with_reducible first | exact HB.out | apply ze | apply zd | apply zf) | exact HB.out))) : w.heap.size ≤ gb331)); have n4_ := zm ((by rw [hg]; exact (zE (by repeat (first | (with_reducible first | exact HB.out | apply ze | apply zd | apply zf) | exact HB.out))) : w.heap.size ≤ gb331)); clear HO0_2; clear HB; have HO0_2 := n0_; have HB := n1_; have BK331 := n2_; have GW331 := n3_; have GE331 := n4_; clear n0_ n1_ n2_ n3_ n4_; clear hb hbox hg) | ((with_reducible refine gate_dst (N := 2) rfl ?_); refine box_event ?hg (N := 2) ?hd (cs := #[.int .u64 0, .int .u64 0, .slice none 0 0, .int .i64 0]) (t := 46) ?hr ?_; (case hd => rfl); (case hg => rfl); (case hr => first | (go_simp; done) | (go_simp; rfl)); intro gb332 hg w30 hbox hb; have n0_ := zm (Kd.V_below (Kd.V_elderB (by (with_reducible repeat (first | apply zA | apply zB | apply zC)); exact HO0_2.out) gb332 (Nat.le_of_eq hg.symm)) hb); have n1_ := zm (zF (g := gb331) (o := .cells #[.int .u64 a0_0, .int .u32 a0_1, .slice A0_2 l0_2.length c0_2, .int .i64 a0_3] 43 (0, 0)) (by (with_reducible repeat (first | refine zh ?_ _ | refine zj ?_ | refine zi ?_ _)); exact BK331.out) hb); have n2_ := zm (zJ (by repeat (first | (with_reducible first | exact HB.out | apply ze | apply zd | apply zf | refine zk ?_ GE331.out) | exact HB.out)) hb); have n3_ := zm (hbox); have n4_ := zm ((by rw [hg]; exact (zE (by repeat (first | (with_reducible first | exact HB.out | apply ze | apply zd | apply zf | refine zk ?_ GE331.out) | exact HB.out))) : w.heap.size ≤ gb332)); have n5_ := zm ((by rw [hg]; exact (zE (by repeat (first | (with_reducible first | exact HB.out | apply ze | apply zd | apply zf | refine zk ?_ GE331.out) | exact HB.out))) : w.heap.size ≤ gb332)); have n6_ := zm ((by rw [hg]; exact zn (zD (g := gb331) (o := .cells #[.int .u64 a0_0, .int .u32 a0_1, .slice A0_2 l0_2.length c0_2, .int .i64 a0_3] 43 (0, 0)) (by (with_reducible repeat (first | refine zh ?_ _ | refine zj ?_ | refine zi ?_ _)); exact BK331.out)) : gb331 ≠ gb332)); have n7_ := zm ((by rw [hg]; exact zg (zD (g := gb331) (o := .cells #[.int .u64 a0_0, .int .u32 a0_1, .slice A0_2 l0_2.length c0_2, .int .i64 a0_3] 43 (0, 0)) (by (with_reducible repeat (first | refine zh ?_ _ | refine zj ?_ | refine zi ?_ _)); exact BK331.out)) : gb332 ≠ gb331)); clear HO0_2; clear BK331; clear HB; have HO0_2 := n0_; have BK331 := n1_; have HB := n2_; have BK332 := n3_; have GW332 := n4_; have GE332 := n5_; have NB331_332 := n6_; have NB332_331 := n7_; clear n0_ n1_ n2_ n3_ n4_ n5_ n6_ n7_; clear hb hbox hg; have hnb31 := NB331_332.out; have hnc31 := NB332_331.out; have hcz32_0 : w30.cell? ⟨gb331, 0, none⟩ = some (.int .u64 a0_0) := (zs BK331.out 0).trans rfl; have hcz32_1 : w30.cell? ⟨gb331, 1, none⟩ = some (.int .u32 a0_1) := (zs BK331.out 1).trans rfl; have hcz32_2 : w30.cell? ⟨gb331, 2, none⟩ = some (.slice A0_2 l0_2.length c0_2) := (zs BK331.out 2).trans rfl; have hcz32_3 : w30.cell? ⟨gb331, 3, none⟩ = some (.int .i64 a0_3) := (zs BK331.out 3).trans rfl; have hfz32_0 := zx BK331.out 0; have hfz32_1 := zx BK331.out 1; have hfz32_2 := zx BK331.out 2; have hfz32_3 := zx BK331.out 3; have hcz33_0 : w30.cell? ⟨gb332, 0, none⟩ = some (.int .u64 0) := (zs BK332.out 0).trans rfl; have hcz33_1 : w30.cell? ⟨gb332, 1, none⟩ = some (.int .u64 0) := (zs BK332.out 1).trans rfl; have hcz33_2 : w30.cell? ⟨gb332, 2, none⟩ = some (.slice none 0 0) := (zs BK332.out 2).trans rfl; have hcz33_3 : w30.cell? ⟨gb332, 3, none⟩ = some (.int .i64 0) := (zs BK332.out 3).trans rfl; have hfz33_0 := zx BK332.out 0; have hfz33_1 := zx BK332.out 1; have hfz33_2 := zx BK332.out 2; have hfz33_3 := zx BK332.out 3))
    refine bodyPost_ret (results_cell_row rfl _ _ gb332 46 #[.int .u64 a0_0, .int .u64 (IntKind.u64.wrap (a0_1)), .slice A0_2 l0_2.length c0_2, .int .i64 a0_3] (0, 0) _ rfl (by (with_reducible repeat (first | refine zh ?_ _ | refine zj ?_ | refine zi ?_ _)); refine zw (cs := #[.int .u64 a0_0, .int .u64 (IntKind.u64.wrap (a0_1)), .slice A0_2 l0_2.length c0_2, .int .i64 0]) ?_ 3 _ rfl; (with_reducible repeat (first | refine zh ?_ _ | refine zj ?_ | refine zi ?_ _)); refine zw (cs := #[.int .u64 a0_0, .int .u64 (IntKind.u64.wrap (a0_1)), .slice none 0 0, .int .i64 0]) ?_ 2 _ rfl; (with_reducible repeat (first | refine zh ?_ _ | refine zj ?_ | refine zi ?_ _)); refine zw (cs := #[.int .u64 a0_0, .int .u64 0, .slice none 0 0, .int .i64 0]) ?_ 1 _ rfl; (with_reducible repeat (first | refine zh ?_ _ | refine zj ?_ | refine zi ?_ _)); refine zw (cs := #[.int .u64 0, .int .u64 0, .slice none 0 0, .int .i64 0]) ?_ 0 _ rfl; (with_reducible repeat (first | refine zh ?_ _ | refine zj ?_ | refine zi ?_ _)); exact BK332.out) Try.underlying46 rfl (by kernel_rfl)) rfl ?_
    exact ⟨_, by first | rfl | (simp [errW_none, errW_some] <;> rfl) | (simp [*, errW_none, errW_some] <;> rfl), by (with_reducible repeat (first | apply zA | apply zB | apply zC)); exact zy (zI (p := ⟨gb332, 3, none⟩) (zI (p := ⟨gb332, 2, none⟩) (zI (p := ⟨gb332, 1, none⟩) (zI (p := ⟨gb332, 0, none⟩) (zy HO0_2.out (fun k_ hk => (⟨hk, hk.2⟩ : _ ∧ k_ ≠ gb332))) (fun _ hk => hk.2) (.int .u64 a0_0)) (fun _ hk => hk.2) (.int .u64 (IntKind.u64.wrap (a0_1)))) (fun _ hk => hk.2) (.slice A0_2 l0_2.length c0_2)) (fun _ hk => hk.2) (.int .i64 a0_3)) (fun _ hk => hk.1.1.1), by repeat (first | (with_reducible first | exact HB.out | apply ze | apply zd | apply zf | refine zk ?_ GE331.out | refine zk ?_ GE332.out) | exact HB.out)⟩

end Go.Proofs.Ytkaoiblgfpphoaa.Prt

namespace Go.Proofs.Ytkaoiblgfpphoaa.Prt
open Go.RowKit Go.Proofs.YtkaoiblgfpphoaaW.PrintWords Go.Proofs.YtkaoiblgfpphoaaW.PrintLast Go.Proofs.YtkaoiblgfpphoaaW.PrintMore
attribute [local go_sem] max2_int min2_int max_two min_two max_three min_three max_four min_four   -- for this text's walks alone
set_option linter.unusedVariables false
set_option linter.unusedSimpArgs false

/-! ### psalterylaw05_SameDec: function 25 -/
def psalterylaw05_SameDec.f (a0_0 : Int) (a0_1 : Int) (l0_2 : List Int) (a0_3 : Int) (a1_0 : Int) (a1_1 : Int) (l1_2 : List Int) (a1_3 : Int) : Option (Bool) := if a0_0 = a1_0 then (if (IntKind.u64.wrap (a0_1)) = a1_1 then (if (strOfNums l0_2).toList = (strOfNums l1_2).toList then (some (a0_3 == a1_3)) else (some false)) else (some false)) else (some false)
set_option maxHeartbeats 8000000 in
set_option maxRecDepth 100000 in
theorem psalterylaw05_SameDec.calls (a0_0 : Int) (a0_1 : Int) (A0_2 : Option Addr) (c0_2 : Nat) (l0_2 : List Int) (a0_3 : Int) (a1_0 : Int) (a1_1 : Int) (A1_2 : Option Addr) (c1_2 : Nat) (l1_2 : List Int) (a1_3 : Int) (r : Bool) (w : World) (hr0_2 : Kd.C (Kd.int .u8) w A0_2 l0_2.length l0_2) (hc0_2 : l0_2.length ≤ c0_2) (hr1_2 : Kd.C (Kd.int .u8) w A1_2 l1_2.length l1_2) (hc1_2 : l1_2.length ≤ c1_2) (h : psalterylaw05_SameDec.f a0_0 a0_1 l0_2 a0_3 a1_0 a1_1 l1_2 a1_3 = some r) :
  Calls Try.prog 25 #[.agg #[.int .u64 a0_0, .int .u32 a0_1, .slice A0_2 l0_2.length c0_2, .int .i64 a0_3], .agg #[.int .u64 a1_0, .int .u64 a1_1, .slice A1_2 l1_2.length c1_2, .int .i64 a1_3]] w fun e w' => e = .returned (.bool r) ∧ Below w.heap.size w w' := by
 have hu43 := Try.underlying43
 have hu46 := Try.underlying46
 have HR0_2 := zm hr0_2
 have HC0_2 := zm hc0_2
 clear hr0_2 hc0_2
 have HR1_2 := zm hr1_2
 have HC1_2 := zm hc1_2
 clear hr1_2 hc1_2
 have HB := zm (Below.refl w.heap.size w)
 have H : (if a0_0 = a1_0 then (if (IntKind.u64.wrap (a0_1)) = a1_1 then (if (strOfNums l0_2).toList = (strOfNums l1_2).toList then (some (a0_3 == a1_3)) else (some false)) else (some false)) else (some false)) = some r := h
 clear h
 by_cases c3 : a0_0 = a1_0
 ·
  rw [if_pos c3] at H
  have c3b0 : (a0_0 == a1_0) = true := beq_iff_eq.mpr c3
  have c3b1 : (a0_0 != a1_0) = false := bne_eq_false_iff_eq.mpr c3
  clear c3
  by_cases c4 : (IntKind.u64.wrap (a0_1)) = a1_1
  ·
   rw [if_pos c4] at H
   have c4b0 : ((IntKind.u64.wrap (a0_1)) == a1_1) = true := beq_iff_eq.mpr c4
   have c4b1 : ((IntKind.u64.wrap (a0_1)) != a1_1) = false := bne_eq_false_iff_eq.mpr c4
   clear c4
   by_cases c5 : (strOfNums l0_2).toList = (strOfNums l1_2).toList
   ·
    rw [if_pos c5] at H
    have c5b0 : ((strOfNums l0_2).toList == (strOfNums l1_2).toList) = true := beq_iff_eq.mpr c5
    have c5b1 : ((strOfNums l0_2).toList != (strOfNums l1_2).toList) = false := bne_eq_false_iff_eq.mpr c5
    clear c5
    obtain rfl := Option.some.inj H
    go_enter Try.func25, Try.ntmps25
    go_wp2_with (first | ((with_reducible refine gate_dst (N := 2) rfl ?_); refine box_event ?hg (N := 2) ?hd (cs := #[.int .u64 a0_0, .int .u32 a0_1, .slice A0_2 l0_2.length c0_2, .int .i64 a0_3]) (t := 43) ?hr ?_; (case hd => rfl); (case hg => rfl); (case hr => first | (go_simp; done) | (go_simp; rfl)); intro gb282 hg w6 hbox hb; have n0_ := zm (zJ (by repeat (first | (with_reducible first | exact HB.out | apply ze | apply zd | apply zf) | exact HB.out)) hb); have n1_ := zm (hbox); have n2_ := zm ((by rw [hg]; exact (zE (by repeat (first | (with_reducible first | exact HB.out | apply ze | apply zd | apply zf) | exact HB.out))) : w.heap.size ≤ gb282)); have n3_ := zm ((by rw [hg]; exact (zE (by repeat (first | (with_reducible first | exact HB.out | apply ze | apply zd | apply zf) | exact HB.out))) : w.heap.size ≤ gb282)); clear HB; have HB := n0_; have BK282 := n1_; have GW282 := n2_; have GE282 := n3_; clear n0_ n1_ n2_ n3_; clear hb hbox hg) | ((with_reducible refine gate_dst (N := 3) rfl ?_); refine box_event ?hg (N := 3) ?hd (cs := #[.int .u64 a1_0, .int .u64 a1_1, .slice A1_2 l1_2.length c1_2, .int .i64 a1_3]) (t := 46) ?hr ?_; (case hd => rfl); (case hg => rfl); (case hr => first | (go_simp; done) | (go_simp; rfl)); intro gb283 hg w7 hbox hb; have n0_ := zm (zF (g := gb282) (o := .cells #[.int .u64 a0_0, .int .u32 a0_1, .slice A0_2 l0_2.length c0_2, .int .i64 a0_3] 43 (0, 0)) (by (with_reducible repeat (first | refine zh ?_ _ | refine zj ?_ | refine zi ?_ _)); exact BK282.out) hb); have n1_ := zm (zJ (by repeat (first | (with_reducible first | exact HB.out | apply ze | apply zd | apply zf | refine zk ?_ GE282.out) | exact HB.out)) hb); have n2_ := zm (hbox); have n3_ := zm ((by rw [hg]; exact (zE (by repeat (first | (with_reducible first | exact HB.out | apply ze | apply zd | apply zf | refine zk ?_ GE282.out) | exact HB.out))) : w.heap.size ≤ gb283)); have n4_ := zm ((by rw [hg]; exact (zE (by repeat (first | (with_reducible first | exact HB.out | apply ze | apply zd | apply zf | refine zk ?_ GE282.out) | exact HB.out))) : w.heap.size ≤ gb283)); have n5_ := zm ((by rw [hg]; exact zn (zD (g := gb282) (o := .cells #[.int .u64 a0_0, .int .u32 a0_1, .slice A0_2 l0_2.length c0_2, .int .i64 a0_3] 43 (0, 0)) (by (with_reducible repeat (first | refine zh ?_ _ | refine zj ?_ | refine zi ?_ _)); exact BK282.out)) : gb282 ≠ gb283)); have n6_ := zm ((by rw [hg]; exact zg (zD (g := gb282) (o := .cells #[.int .u64 a0_0, .int .u32 a0_1, .slice A0_2 l0_2.length c0_2, .int .i64 a0_3] 43 (0, 0)) (by (with_reducible repeat (first | refine zh ?_ _ | refine zj ?_ | refine zi ?_ _)); exact BK282.out)) : gb283 ≠ gb282)); clear BK282; clear HB; have BK282 := n0_; have HB := n1_; have BK283 := n2_; have GW283 := n3_; have GE283 := n4_; have NB282_283 := n5_; have NB283_282 := n6_; clear n0_ n1_ n2_ n3_ n4_ n5_ n6_; clear hb hbox hg; have hnb8 := NB282_283.out; have hnc8 := NB283_282.out; have hcz9_0 : w7.cell? ⟨gb282, 0, none⟩ = some (.int .u64 a0_0) := (zs BK282.out 0).trans rfl; have hcz9_1 : w7.cell? ⟨gb282, 1, none⟩ = some (.int .u32 a0_1) := (zs BK282.out 1).trans rfl; have hcz9_2 : w7.cell? ⟨gb282, 2, none⟩ = some (.slice A0_2 l0_2.length c0_2) := (zs BK282.out 2).trans rfl; have hcz9_3 : w7.cell? ⟨gb282, 3, none⟩ = some (.int .i64 a0_3) := (zs BK282.out 3).trans rfl; have hfz9_0 := zx BK282.out 0; have hfz9_1 := zx BK282.out 1; have hfz9_2 := zx BK282.out 2; have hfz9_3 := zx BK282.out 3; have hcz10_0 : w7.cell? ⟨gb283, 0, none⟩ = some (.int .u64 a1_0) := (zs BK283.out 0).trans rfl; have hcz10_1 : w7.cell? ⟨gb283, 1, none⟩ = some (.int .u64 a1_1) := (zs BK283.out 1).trans rfl; have hcz10_2 : w7.cell? ⟨gb283, 2, none⟩ = some (.slice A1_2 l1_2.length c1_2) := (zs BK283.out 2).trans rfl; have hcz10_3 : w7.cell? ⟨gb283, 3, none⟩ = some (.int .i64 a1_3) := (zs BK283.out 3).trans rfl; have hfz10_0 := zx BK283.out 0; have hfz10_1 := zx BK283.out 1; have hfz10_2 := zx BK283.out 2; have hfz10_3 := zx BK283.out 3; have hcv11 := Kd.C_string (P := Try.prog) (A := A0_2) (c := c0_2) Try.underlying24 Try.underlying5 Try.underlying9 (Kd.C_below HR0_2.out HB.out); have hcv12 := Kd.C_string (P := Try.prog) (A := A1_2) (c := c1_2) Try.underlying24 Try.underlying5 Try.underlying9 (Kd.C_below HR1_2.out HB.out)))
    go_ret
    exact ⟨by first | rfl | (simp [errW_none, errW_some] <;> rfl) | (simp [*, errW_none, errW_some] <;> rfl), by repeat (first | (with_reducible first | exact HB.out | apply ze | apply zd | apply zf | refine zk ?_ GE282.out | refine zk ?_ GE283.out) | exact HB.out)⟩
   ·
    rw [if_neg c5] at H
    have c5b0 : ((strOfNums l0_2).toList == (strOfNums l1_2).toList) = false := beq_eq_false_iff_ne.mpr c5
    have c5b1 : ((strOfNums l0_2).toList != (strOfNums l1_2).toList) = true := bne_iff_ne.mpr c5
    obtain rfl := Option.some.inj H
    go_enter Try.func25, Try.ntmps25
    go_wp2_with (first | ((with_reducible refine gate_dst (N := 2) rfl ?_); refine box_event ?hg (N := 2) ?hd (cs := #[.int .u64 a0_0, .int .u32 a0_1, .slice A0_2 l0_2.length c0_2, .int .i64 a0_3]) (t := 43) ?hr ?_; (case hd => rfl); (case hg => rfl); (case hr => first | (go_simp; done) | (go_simp; rfl)); intro gb282 hg w13 hbox hb; have n0_ := zm (zJ (by repeat (first | (with_reducible first | exact HB.out | apply ze | apply zd | apply zf) | exact HB.out)) hb); have n1_ := zm (hbox); have n2_ := zm ((by rw [hg]; exact (zE (by repeat (first | (with_reducible first | exact HB.out | apply ze | apply zd | apply zf) | exact HB.out))) : w.heap.size ≤ gb282)); have n3_ := zm ((by rw [hg]; exact (zE (by repeat (first | (with_reducible first | exact HB.out | apply ze | apply zd | apply zf) | exact HB.out))) : w.heap.size ≤ gb282)); clear HB; have HB := n0_; have BK282 := n1_; have GW282 := n2_; have GE282 := n3_; clear n0_ n1_ n2_ n3_; clear hb hbox hg) | ((with_reducible refine gate_dst (N := 3) rfl ?_); refine box_event ?hg (N := 3) ?hd (cs := #[.int .u64 a1_0, .int .u64 a1_1, .slice A1_2 l1_2.length c1_2, .int .i64 a1_3]) (t := 46) ?hr ?_; (case hd => rfl); (case hg => rfl); (case hr => first | (go_simp; done) | (go_simp; rfl)); intro gb283 hg w14 hbox hb; have n0_ := zm (zF (g := gb282) (o := .cells #[.int .u64 a0_0, .int .u32 a0_1, .slice A0_2 l0_2.length c0_2, .int .i64 a0_3] 43 (0, 0)) (by (with_reducible repeat (first | refine zh ?_ _ | refine zj ?_ | refine zi ?_ _)); exact BK282.out) hb); have n1_ := zm (zJ (by repeat (first | (with_reducible first | exact HB.out | apply ze | apply zd | apply zf | refine zk ?_ GE282.out) | exact HB.out)) hb); have n2_ := zm (hbox); have n3_ := zm ((by rw [hg]; exact (zE (by repeat (first | (with_reducible first | exact HB.out | apply ze | apply zd | apply zf | refine zk ?_ GE282.out) | exact HB.out))) : w.heap.size ≤ gb283)); have n4_ := zm ((by rw [hg]; exact (zE (by repeat (first | (with_reducible first | exact HB.out | apply ze | apply zd | apply zf | refine zk ?_ GE282.out) | exact HB.out))) : w.heap.size ≤ gb283)); have n5_ := zm ((by rw [hg]; exact zn (zD (g := gb282) (o := .cells #[.int .u64 a0_0, .int .u32 a0_1, .slice A0_2 l0_2.length c0_2, .int .i64 a0_3] 43 (0, 0)) (by (with_reducible repeat (first | refine zh ?_ _ | refine zj ?_ | refine zi ?_ _)); exact BK282.out)) : gb282 ≠ gb283)); have n6_ := zm ((by rw [hg]; exact zg (zD (g := gb282) (o := .cells #[.int .u64 a0_0, .int .u32 a0_1, .slice A0_2 l0_2.length c0_2, .int .i64 a0_3] 43 (0, 0)) (by (with_reducible repeat (first | refine zh ?_ _ | refine zj ?_ | refine zi ?_ _)); exact BK282.out)) : gb283 ≠ gb282)); clear BK282; clear HB; have BK282 := n0_; have HB := n1_; have BK283 := n2_; have GW283 := n3_; have GE283 := n4_; have NB282_283 := n5_; have NB283_282 := n6_; clear n0_ n1_ n2_ n3_ n4_ n5_ n6_; clear hb hbox hg; have hnb15 := NB282_283.out; have hnc15 := NB283_282.out; have hcz16_0 : w14.cell? ⟨gb282, 0, none⟩ = some (.int .u64 a0_0) := (zs BK282.out 0).trans rfl; have hcz16_1 : w14.cell? ⟨gb282, 1, none⟩ = some (.int .u32 a0_1) := (zs BK282.out 1).trans rfl; have hcz16_2 : w14.cell? ⟨gb282, 2, none⟩ = some (.slice A0_2 l0_2.length c0_2) := (zs BK282.out 2).trans rfl; have hcz16_3 : w14.cell? ⟨gb282, 3, none⟩ = some (.int .i64 a0_3) := (zs BK282.out 3).trans rfl; have hfz16_0 := zx BK282.out 0; have hfz16_1 := zx BK282.out 1; have hfz16_2 := zx BK282.out 2; have hfz16_3 := zx BK282.out 3; have hcz17_0 : w14.cell? ⟨gb283, 0, none⟩ = some (.int .u64 a1_0) := (zs BK283.out 0).trans rfl; have hcz17_1 : w14.cell? ⟨gb283, 1, none⟩ = some (.int .u64 a1_1) := (zs BK283.out 1).trans rfl; have hcz17_2 : w14.cell? ⟨gb283, 2, none⟩ = some (.slice A1_2 l1_2.length c1_2) := (zs BK283.out 2).trans rfl; have hcz17_3 : w14.cell? ⟨gb283, 3, none⟩ = some (.int .i64 a1_3) := (zs BK283.out 3).trans rfl; have hfz17_0 := zx BK283.out 0; have hfz17_1 := zx BK283.out 1; have hfz17_2 := zx BK283.out 2; have hfz17_3 := zx BK283.out 3; have hcv18 := Kd.C_string (P := Try.prog) (A := A0_2) (c := c0_2) Try.underlying24 Try.underlying5 Try.underlying9 (Kd.C_below HR0_2.out HB.out); have hcv19 := Kd.C_string (P := Try.prog) (A := A1_2) (c := c1_2) Try.underlying24 Try.underlying5 Try.underlying9 (Kd.C_below HR1_2.out HB.out)))
    go_ret
    exact ⟨by first | rfl | (simp [errW_none, errW_some] <;> rfl) | (simp [*, errW_none, errW_some] <;> rfl), by repeat (first | (with_reducible first | exact HB.out | apply ze | apply zd | apply zf | refine zk ?_ GE282.out | refine zk ?_ GE283.out) | exact HB.out)⟩
  ·
   rw [if_neg c4] at H
   have c4b0 : ((IntKind.u64.wrap (a0_1)) == a1_1) = false := beq_eq_false_iff_ne.mpr c4
   have c4b1 : ((IntKind.u64.wrap (a0_1)) != a1_1) = true := bne_iff_ne.mpr c4
   obtain rfl := Option.some.inj H
   go_enter Try.func25, Try.ntmps25
   go_wp2_with (first | ((with_reducible refine gate_dst (N := 2) rfl ?_); refine box_event ?hg (N := 2) ?hd (cs := #[.int .u64 a0_0, .int .u32 a0_1, .slice A0_2 l0_2.length c0_2, .int .i64 a0_3]) (t := 43) ?hr ?_; (case hd => rfl); (case hg => rfl); (case hr => first | (go_simp; done) | (go_simp; rfl)); intro gb282 hg w20 hbox hb; have n0_ := zm (zJ (by repeat (first | (with_reducible first | exact HB.out | apply ze | apply zd | apply zf) | exact HB.out)) hb); have n1_ := zm (hbox); have n2_ := zm ((by rw [hg]; exact (zE (by repeat (first | (with_reducible first | exact HB.out | apply ze | apply zd | apply zf) | exact HB.out))) : w.heap.size ≤ gb282)); have n3_ := zm ((by rw [hg]; exact (zE (by repeat (first | (with_reducible first | exact HB.out | apply ze | apply zd | apply zf) | exact HB.out))) : w.heap.size ≤ gb282)); clear HB; have HB := n0_; have BK282 := n1_; have GW282 := n2_; have GE282 := n3_; clear n0_ n1_ n2_ n3_; clear hb hbox hg) | ((with_reducible refine gate_dst (N := 3) rfl ?_); refine box_event ?hg (N := 3) ?hd (cs := #[.int .u64 a1_0, .int .u64 a1_1, .slice A1_2 l1_2.length c1_2, .int .i64 a1_3]) (t := 46) ?hr ?_; (case hd => rfl); (case hg => rfl); (case hr => first | (go_simp; done) | (go_simp; rfl)); intro gb283 hg w21 hbox hb; have n0_ := zm (zF (g := gb282) (o := .cells #[.int .u64 a0_0, .int .u32 a0_1, .slice A0_2 l0_2.length c0_2, .int .i64 a0_3] 43 (0, 0)) (by (with_reducible repeat (first | refine zh ?_ _ | refine zj ?_ | refine zi ?_ _)); exact BK282.out) hb); have n1_ := zm (zJ (by repeat (first | (with_reducible first | exact HB.out | apply ze | apply zd | apply zf | refine zk ?_ GE282.out) | exact HB.out)) hb); have n2_ := zm (hbox); have n3_ := zm ((by rw [hg]; exact (zE (by repeat (first | (with_reducible first | exact HB.out | apply ze | apply zd | apply zf | refine zk ?_ GE282.out) | exact HB.out))) : w.heap.size ≤ gb283)); have n4_ := zm ((by rw [hg]; exact (zE (by repeat (first | (with_reducible first | exact HB.out | apply ze | apply zd | apply zf | refine zk ?_ GE282.out) | exact HB.out))) : w.heap.size ≤ gb283)); have n5_ := zm ((by rw [hg]; exact zn (zD (g := gb282) (o := .cells #[.int .u64 a0_0, .int .u32 a0_1, .slice A0_2 l0_2.length c0_2, .int .i64 a0_3] 43 (0, 0)) (by (with_reducible repeat (first | refine zh ?_ _ | refine zj ?_ | refine zi ?_ _)); exact BK282.out)) : gb282 ≠ gb283)); have n6_ := zm ((by rw [hg]; exact zg (zD (g := gb282) (o := .cells #[.int .u64 a0_0, .int .u32 a0_1, .slice A0_2 l0_2.length c0_2, .int .i64 a0_3] 43 (0, 0)) (by (with_reducible repeat (first | refine zh ?_ _ | refine zj ?_ | refine zi ?_ _)); exact BK282.out)) : gb283 ≠ gb282)); clear BK282; clear HB; have BK282 := n0_; have HB := n1_; have BK283 := n2_; have GW283 := n3_; have GE283 := n4_; have NB282_283 := n5_; have NB283_282 := n6_; clear n0_ n1_ n2_ n3_ n4_ n5_ n6_; clear hb hbox hg; have hnb22 := NB282_283.out; have hnc22 := NB283_282.out; have hcz23_0 : w21.cell? ⟨gb282, 0, none⟩ = some (.int .u64 a0_0) := (zs BK282.out 0).trans rfl; have hcz23_1 : w21.cell? ⟨gb282, 1, none⟩ = some (.int .u32 a0_1) := (zs BK282.out 1).trans rfl; have hcz23_2 : w21.cell? ⟨gb282, 2, none⟩ = some (.slice A0_2 l0_2.length c0_2) := (zs BK282.out 2).trans rfl; have hcz23_3 : w21.cell? ⟨gb282, 3, none⟩ = some (.int .i64 a0_3) := (zs BK282.out 3).trans rfl; have hfz23_0 := zx BK282.out 0; have hfz23_1 := zx BK282.out 1; have hfz23_2 := zx BK282.out 2; have hfz23_3 := zx BK282.out 3; have hcz24_0 : w21.cell? ⟨gb283, 0, none⟩ = some (.int .u64 a1_0) := (zs BK283.out 0).trans rfl; have hcz24_1 : w21.cell? ⟨gb283, 1, none⟩ = some (.int .u64 a1_1) := (zs BK283.out 1).trans rfl; have hcz24_2 : w21.cell? ⟨gb283, 2, none⟩ = some (.slice A1_2 l1_2.length c1_2) := (zs BK283.out 2).trans rfl; have hcz24_3 : w21.cell? ⟨gb283, 3, none⟩ = some (.int .i64 a1_3) := (zs BK283.out 3).trans rfl; have hfz24_0 := zx BK283.out 0; have hfz24_1 := zx BK283.out 1; have hfz24_2 := zx BK283.out 2; have hfz24_3 := zx BK283.out 3))
   go_ret
   exact ⟨by first | rfl | (simp [errW_none, errW_some] <;> rfl) | (simp [*, errW_none, errW_some] <;> rfl), by repeat (first | (with_reducible first | exact HB.out | apply ze | apply zd | apply zf | refine zk ?_ GE282.out | refine zk ?_ GE283.out) | exact HB.out)⟩
 ·
  rw [if_neg c3] at H
  have c3b0 : (a0_0 == a1_0) = false := beq_eq_false_iff_ne.mpr c3
  have c3b1 : (a0_0 != a1_0) = true := bne_iff_ne.mpr c3
  obtain rfl := Option.some.inj H
  go_enter Try.func25, Try.ntmps25
  go_wp2_with (first | ((with_reducible refine gate_dst (N := 2) rfl ?_); refine box_event ?hg (N := 2) ?hd (cs := #[.int .u64 a0_0, .int .u32 a0_1, .slice A0_2 l0_2.length c0_2, .int .i64 a0_3]) (t := 43) ?hr ?_; (case hd => rfl); (case hg => rfl); (case hr => first | (go_simp; done) | (go_simp; rfl)); intro gb282 hg w25 hbox hb; have n0_ := zm (zJ (by repeat (first | (with_reducible first | exact HB.out | apply ze | apply zd | apply zf) | exact HB.out)) hb); have n1_ := zm (hbox); have n2_ := zm ((by rw [hg]; exact (zE (by repeat (first | (with_reducible first | exact HB.out | apply ze | apply zd | apply zf) | exact HB.out))) : w.heap.size ≤ gb282)); have n3_ := zm ((by rw [hg]; exact (zE (by repeat (first | (with_reducible first | exact HB.out | apply ze | apply zd | apply zf) | exact HB.out))) : w.heap.size ≤ gb282)); clear HB; have HB := n0_; have BK282 := n1_; have GW282 := n2_; have GE282 := n3_; clear n0_ n1_ n2_ n3_; clear hb hbox hg) | ((with_reducible refine gate_dst (N := 3) rfl ?_); refine box_event ?hg (N := 3) ?hd (cs := #[.int .u64 a1_0, .int .u64 a1_1, .slice A1_2 l1_2.length c1_2, .int .i64 a1_3]) (t := 46) ?hr ?_; (case hd => rfl); (case hg => rfl); (case hr => first | (go_simp; done) | (go_simp; rfl)); intro gb283 hg w26 hbox hb; have n0_ := zm (zF (g := gb282) (o := .cells #[.int .u64 a0_0, .int .u32 a0_1, .slice A0_2 l0_2.length c0_2, .int .i64 a0_3] 43 (0, 0)) (by (with_reducible repeat (first | refine zh ?_ _ | refine zj ?_ | refine zi ?_ _)); exact BK282.out) hb); have n1_ := zm (zJ (by repeat (first | (with_reducible first | exact HB.out | apply ze | apply zd | apply zf | refine zk ?_ GE282.out) | exact HB.out)) hb); have n2_ := zm (hbox); have n3_ := zm ((by rw [hg]; exact (zE (by repeat (first | (with_reducible first | exact HB.out | apply ze | apply zd | apply zf | refine zk ?_ GE282.out) | exact HB.out))) : w.heap.size ≤ gb283)); have n4_ := zm ((by rw [hg]; exact (zE (by repeat (first | (with_reducible first | exact HB.out | apply ze | apply zd | apply zf | refine zk ?_ GE282.out) | exact HB.out))) : w.heap.size ≤ gb283)); have n5_ := zm ((by rw [hg]; exact zn (zD (g := gb282) (o := .cells #[.int .u64 a0_0, .int .u32 a0_1, .slice A0_2 l0_2.length c0_2, .int .i64 a0_3] 43 (0, 0)) (by (with_reducible repeat (first | refine zh ?_ _ | refine zj ?_ | refine zi ?_ _)); exact BK282.out)) : gb282 ≠ gb283)); have n6_ := zm ((by rw [hg]; exact zg (zD (g := gb282) (o := .cells #[.int .u64 a0_0, .int .u32 a0_1, .slice A0_2 l0_2.length c0_2, .int .i64 a0_3] 43 (0, 0)) (by (with_reducible repeat (first | refine zh ?_ _ | refine zj ?_ | refine zi ?_ _)); exact BK282.out)) : gb283 ≠ gb282)); clear BK282; clear HB; have BK282 := n0_; have HB := n1_; have BK283 := n2_; have GW283 := n3_; have GE283 := n4_; have NB282_283 := n5_; have NB283_282 := n6_; clear n0_ n1_ n2_ n3_ n4_ n5_ n6_; clear hb hbox hg; have hnb27 := NB282_283.out; have hnc27 := NB283_282.out; have hcz28_0 : w26.cell? ⟨gb282, 0, none⟩ = some (.int .u64 a0_0) := (zs BK282.out 0).trans rfl; have hcz28_1 : w26.cell? ⟨gb282, 1, none⟩ = some (.int .u32 a0_1) := (zs BK282.out 1).trans rfl; have hcz28_2 : w26.cell? ⟨gb282, 2, none⟩ = some (.slice A0_2 l0_2.length c0_2) := (zs BK282.out 2).trans rfl; have hcz28_3 : w26.cell? ⟨gb282, 3, none⟩ = some (.int .i64 a0_3) := (zs BK282.out 3).trans rfl; have hfz28_0 := zx BK282.out 0; have hfz28_1 := zx BK282.out 1; have hfz28_2 := zx BK282.out 2; have hfz28_3 := zx BK282.out 3; have hcz29_0 : w26.cell? ⟨gb283, 0, none⟩ = some (.int .u64 a1_0) := (zs BK283.out 0).trans rfl; have hcz29_1 : w26.cell? ⟨gb283, 1, none⟩ = some (.int .u64 a1_1) := (zs BK283.out 1).trans rfl; have hcz29_2 : w26.cell? ⟨gb283, 2, none⟩ = some (.slice A1_2 l1_2.length c1_2) := (zs BK283.out 2).trans rfl; have hcz29_3 : w26.cell? ⟨gb283, 3, none⟩ = some (.int .i64 a1_3) := (zs BK283.out 3).trans rfl; have hfz29_0 := zx BK283.out 0; have hfz29_1 := zx BK283.out 1; have hfz29_2 := zx BK283.out 2; have hfz29_3 := zx BK283.out 3))
  go_ret
  exact ⟨by first | rfl | (simp [errW_none, errW_some] <;> rfl) | (simp [*, errW_none, errW_some] <;> rfl), by repeat (first | (with_reducible first | exact HB.out | apply ze | apply zd | apply zf | refine zk ?_ GE282.out | refine zk ?_ GE283.out) | exact HB.out)⟩

end Go.Proofs.Ytkaoiblgfpphoaa.Prt

namespace Go.Proofs.Ytkaoiblgfpphoaa.Prt
open Go.RowKit Go.Proofs.YtkaoiblgfpphoaaW.PrintWords Go.Proofs.YtkaoiblgfpphoaaW.PrintLast Go.Proofs.YtkaoiblgfpphoaaW.PrintMore
attribute [local go_sem] max2_int min2_int max_two min_two max_three min_three max_four min_four   -- for this text's walks alone
set_option linter.unusedVariables false
set_option linter.unusedSimpArgs false

/-! ### psalterylaw11_great: function 41 -/
def psalterylaw11_great.f (a0_0 : Int) (a0_1 : Int) (l0_2 : List Int) (a1_0 : Int) (a1_1 : Int) (l1_2 : List Int) (a1_3 : Int) (l2 : List Int) (l3 : List Int) : Option (Bool) := if (l0_2.length : Int) > 5000 then (some true) else (if (l1_2.length : Int) > 5000 then (some true) else (if (l2.length : Int) > 100 then (some true) else (some (decide ((l3.length : Int) > 100)))))
set_option maxHeartbeats 8000000 in
set_option maxRecDepth 100000 in
theorem psalterylaw11_great.calls (a0_0 : Int) (a0_1 : Int) (A0_2 : Option Addr) (c0_2 : Nat) (l0_2 : List Int) (a1_0 : Int) (a1_1 : Int) (A1_2 : Option Addr) (c1_2 : Nat) (l1_2 : List Int) (a1_3 : Int) (A2 : Option Addr) (c2 : Nat) (l2 : List Int) (A3 : Option Addr) (c3 : Nat) (l3 : List Int) (r : Bool) (w : World) (hr0_2 : Kd.C (Kd.int .u8) w A0_2 l0_2.length l0_2) (hc0_2 : l0_2.length ≤ c0_2) (hr1_2 : Kd.C (Kd.int .u8) w A1_2 l1_2.length l1_2) (hc1_2 : l1_2.length ≤ c1_2) (hr2 : Kd.C (Kd.int .i64) w A2 l2.length l2) (hc2 : l2.length ≤ c2) (hr3 : Kd.C (Kd.int .i64) w A3 l3.length l3) (hc3 : l3.length ≤ c3) (h : psalterylaw11_great.f a0_0 a0_1 l0_2 a1_0 a1_1 l1_2 a1_3 l2 l3 = some r) :
  Calls Try.prog 41 #[.agg #[.int .u64 a0_0, .int .u32 a0_1, .slice A0_2 l0_2.length c0_2], .agg #[.int .u64 a1_0, .int .u32 a1_1, .slice A1_2 l1_2.length c1_2, .int .i64 a1_3], .slice A2 l2.length c2, .slice A3 l3.length c3] w fun e w' => e = .returned (.bool r) ∧ Below w.heap.size w w' := by
 have hu26 := Try.underlying26
 have hu43 := Try.underlying43
 have HR0_2 := zm hr0_2
 have HC0_2 := zm hc0_2
 clear hr0_2 hc0_2
 have HR1_2 := zm hr1_2
 have HC1_2 := zm hc1_2
 clear hr1_2 hc1_2
 have HR2 := zm hr2
 have HC2 := zm hc2
 clear hr2 hc2
 have HR3 := zm hr3
 have HC3 := zm hc3
 clear hr3 hc3
 have HB := zm (Below.refl w.heap.size w)
 have H : (if (l0_2.length : Int) > 5000 then (some true) else (if (l1_2.length : Int) > 5000 then (some true) else (if (l2.length : Int) > 100 then (some true) else (some (decide ((l3.length : Int) > 100)))))) = some r := h
 clear h
 by_cases c5 : (l0_2.length : Int) > 5000
 ·
  rw [if_pos c5] at H
  have c5b0 : decide (5000 < (l0_2.length : Int)) = true := decide_eq_true c5
  have c5b1 : decide (5000 < l0_2.length) = true := decide_eq_true (by omega)
  clear c5
  obtain rfl := Option.some.inj H
  go_enter Try.func41, Try.ntmps41
  go_wp2_with (first | ((with_reducible refine gate_dst (N := 4) rfl ?_); (try (refine gate_guard (by rfl) ?_; dsimp only)); refine box_event ?hg (N := 4) ?hd (cs := #[.int .u64 a0_0, .int .u32 a0_1, .slice A0_2 l0_2.length c0_2]) (t := 26) ?hr ?_; (case hd => rfl); (case hg => rfl); (case hr => first | (go_simp; done) | (go_simp; rfl)); intro gb659 hg w6 hbox hb; have n0_ := zm (zJ (by repeat (first | (with_reducible first | exact HB.out | apply ze | apply zd | apply zf) | exact HB.out)) hb); have n1_ := zm (hbox); have n2_ := zm ((by rw [hg]; exact (zE (by repeat (first | (with_reducible first | exact HB.out | apply ze | apply zd | apply zf) | exact HB.out))) : w.heap.size ≤ gb659)); have n3_ := zm ((by rw [hg]; exact (zE (by repeat (first | (with_reducible first | exact HB.out | apply ze | apply zd | apply zf) | exact HB.out))) : w.heap.size ≤ gb659)); clear HB; have HB := n0_; have BK659 := n1_; have GW659 := n2_; have GE659 := n3_; clear n0_ n1_ n2_ n3_; clear hb hbox hg) | ((with_reducible refine gate_dst (N := 5) rfl ?_); (try (refine gate_guard (by rfl) ?_; dsimp only)); refine box_event ?hg (N := 5) ?hd (cs := #[.int .u64 a1_0, .int .u32 a1_1, .slice A1_2 l1_2.length c1_2, .int .i64 a1_3]) (t := 43) ?hr ?_; (case hd => rfl); (case hg => rfl); (case hr => first | (go_simp; done) | (go_simp; rfl)); intro gb660 hg w7 hbox hb; have n0_ := zm (zF (g := gb659) (o := .cells #[.int .u64 a0_0, .int .u32 a0_1, .slice A0_2 l0_2.length c0_2] 26 (0, 0)) (by (with_reducible repeat (first | refine zh ?_ _ | refine zj ?_ | refine zi ?_ _)); exact BK659.out) hb); have n1_ := zm (zJ (by repeat (first | (with_reducible first | exact HB.out | apply ze | apply zd | apply zf | refine zk ?_ GE659.out) | exact HB.out)) hb); have n2_ := zm (hbox); have n3_ := zm ((by rw [hg]; exact (zE (by repeat (first | (with_reducible first | exact HB.out | apply ze | apply zd | apply zf | refine zk ?_ GE659.out) | exact HB.out))) : w.heap.size ≤ gb660)); have n4_ := zm ((by rw [hg]; exact (zE (by repeat (first | (with_reducible first | exact HB.out | apply ze | apply zd | apply zf | refine zk ?_ GE659.out) | exact HB.out))) : w.heap.size ≤ gb660)); have n5_ := zm ((by rw [hg]; exact zn (zD (g := gb659) (o := .cells #[.int .u64 a0_0, .int .u32 a0_1, .slice A0_2 l0_2.length c0_2] 26 (0, 0)) (by (with_reducible repeat (first | refine zh ?_ _ | refine zj ?_ | refine zi ?_ _)); exact BK659.out)) : gb659 ≠ gb660)); have n6_ := zm ((by rw [hg]; exact zg (zD (g := gb659) (o := .cells #[.int .u64 a0_0, .int .u32 a0_1, .slice A0_2 l0_2.length c0_2] 26 (0, 0)) (by (with_reducible repeat (first | refine zh ?_ _ | refine zj ?_ | refine zi ?_ _)); exact BK659.out)) : gb660 ≠ gb659)); clear BK659; clear HB; have BK659 := n0_; have HB := n1_; have BK660 := n2_; have GW660 := n3_; have GE660 := n4_; have NB659_660 := n5_; have NB660_659 := n6_; clear n0_ n1_ n2_ n3_ n4_ n5_ n6_; clear hb hbox hg; have hnb8 := NB659_660.out; have hnc8 := NB660_659.out; have hcz9_0 : w7.cell? ⟨gb659, 0, none⟩ = some (.int .u64 a0_0) := (zs BK659.out 0).trans rfl; have hcz9_1 : w7.cell? ⟨gb659, 1, none⟩ = some (.int .u32 a0_1) := (zs BK659.out 1).trans rfl; have hcz9_2 : w7.cell? ⟨gb659, 2, none⟩ = some (.slice A0_2 l0_2.length c0_2) := (zs BK659.out 2).trans rfl; have hfz9_0 := zx BK659.out 0; have hfz9_1 := zx BK659.out 1; have hfz9_2 := zx BK659.out 2))
  go_ret
  exact ⟨by first | rfl | (simp [errW_none, errW_some] <;> rfl) | (simp [*, errW_none, errW_some] <;> rfl), by repeat (first | (with_reducible first | exact HB.out | apply ze | apply zd | apply zf | refine zk ?_ GE659.out | refine zk ?_ GE660.out) | exact HB.out)⟩
 ·
  rw [if_neg c5] at H
  have c5b0 : decide (5000 < (l0_2.length : Int)) = false := decide_eq_false c5
  have c5b1 : decide (5000 < l0_2.length) = false := decide_eq_false (by omega)
  clear c5
  by_cases c10 : (l1_2.length : Int) > 5000
  ·
   rw [if_pos c10] at H
   have c10b0 : decide (5000 < (l1_2.length : Int)) = true := decide_eq_true c10
   have c10b1 : decide (5000 < l1_2.length) = true := decide_eq_true (by omega)
   clear c10
   obtain rfl := Option.some.inj H
   go_enter Try.func41, Try.ntmps41
   go_wp2_with (first | ((with_reducible refine gate_dst (N := 4) rfl ?_); (try (refine gate_guard (by rfl) ?_; dsimp only)); refine box_event ?hg (N := 4) ?hd (cs := #[.int .u64 a0_0, .int .u32 a0_1, .slice A0_2 l0_2.length c0_2]) (t := 26) ?hr ?_; (case hd => rfl); (case hg => rfl); (case hr => first | (go_simp; done) | (go_simp; rfl)); intro gb659 hg w11 hbox hb; have n0_ := zm (zJ (by repeat (first | (with_reducible first | exact HB.out | apply ze | apply zd | apply zf) | exact HB.out)) hb); have n1_ := zm (hbox); have n2_ := zm ((by rw [hg]; exact (zE (by repeat (first | (with_reducible first | exact HB.out | apply ze | apply zd | apply zf) | exact HB.out))) : w.heap.size ≤ gb659)); have n3_ := zm ((by rw [hg]; exact (zE (by repeat (first | (with_reducible first | exact HB.out | apply ze | apply zd | apply zf) | exact HB.out))) : w.heap.size ≤ gb659)); clear HB; have HB := n0_; have BK659 := n1_; have GW659 := n2_; have GE659 := n3_; clear n0_ n1_ n2_ n3_; clear hb hbox hg) | ((with_reducible refine gate_dst (N := 5) rfl ?_); (try (refine gate_guard (by rfl) ?_; dsimp only)); refine box_event ?hg (N := 5) ?hd (cs := #[.int .u64 a1_0, .int .u32 a1_1, .slice A1_2 l1_2.length c1_2, .int .i64 a1_3]) (t := 43) ?hr ?_; (case hd => rfl); (case hg => rfl); (case hr => first | (go_simp; done) | (go_simp; rfl)); intro gb660 hg w12 hbox hb; have n0_ := zm (zF (g := gb659) (o := .cells #[.int .u64 a0_0, .int .u32 a0_1, .slice A0_2 l0_2.length c0_2] 26 (0, 0)) (by (with_reducible repeat (first | refine zh ?_ _ | refine zj ?_ | refine zi ?_ _)); exact BK659.out) hb); have n1_ := zm (zJ (by repeat (first | (with_reducible first | exact HB.out | apply ze | apply zd | apply zf | refine zk ?_ GE659.out) | exact HB.out)) hb); have n2_ := zm (hbox); have n3_ := zm ((by rw [hg]; exact (zE (by repeat (first | (with_reducible first | exact HB.out | apply ze | apply zd | apply zf | refine zk ?_ GE659.out) | exact HB.out))) : w.heap.size ≤ gb660)); have n4_ := zm ((by rw [hg]; exact (zE (by repeat (first | (with_reducible first | exact HB.out | apply ze | apply zd | apply zf | refine zk ?_ GE659.out) | exact HB.out))) : w.heap.size ≤ gb660)); have n5_ := zm ((by rw [hg]; exact zn (zD (g := gb659) (o := .cells #[.int .u64 a0_0, .int .u32 a0_1, .slice A0_2 l0_2.length c0_2] 26 (0, 0)) (by (with_reducible repeat (first | refine zh ?_ _ | refine zj ?_ | refine zi ?_ _)); exact BK659.out)) : gb659 ≠ gb660)); have n6_ := zm ((by rw [hg]; exact zg (zD (g := gb659) (o := .cells #[.int .u64 a0_0, .int .u32 a0_1, .slice A0_2 l0_2.length c0_2] 26 (0, 0)) (by (with_reducible repeat (first | refine zh ?_ _ | refine zj ?_ | refine zi ?_ _)); exact BK659.out)) : gb660 ≠ gb659)); clear BK659; clear HB; have BK659 := n0_; have HB := n1_; have BK660 := n2_; have GW660 := n3_; have GE660 := n4_; have NB659_660 := n5_; have NB660_659 := n6_; clear n0_ n1_ n2_ n3_ n4_ n5_ n6_; clear hb hbox hg; have hnb13 := NB659_660.out; have hnc13 := NB660_659.out; have hcz14_0 : w12.cell? ⟨gb659, 0, none⟩ = some (.int .u64 a0_0) := (zs BK659.out 0).trans rfl; have hcz14_1 : w12.cell? ⟨gb659, 1, none⟩ = some (.int .u32 a0_1) := (zs BK659.out 1).trans rfl; have hcz14_2 : w12.cell? ⟨gb659, 2, none⟩ = some (.slice A0_2 l0_2.length c0_2) := (zs BK659.out 2).trans rfl; have hfz14_0 := zx BK659.out 0; have hfz14_1 := zx BK659.out 1; have hfz14_2 := zx BK659.out 2; have hcz15_0 : w12.cell? ⟨gb660, 0, none⟩ = some (.int .u64 a1_0) := (zs BK660.out 0).trans rfl; have hcz15_1 : w12.cell? ⟨gb660, 1, none⟩ = some (.int .u32 a1_1) := (zs BK660.out 1).trans rfl; have hcz15_2 : w12.cell? ⟨gb660, 2, none⟩ = some (.slice A1_2 l1_2.length c1_2) := (zs BK660.out 2).trans rfl; have hcz15_3 : w12.cell? ⟨gb660, 3, none⟩ = some (.int .i64 a1_3) := (zs BK660.out 3).trans rfl; have hfz15_0 := zx BK660.out 0; have hfz15_1 := zx BK660.out 1; have hfz15_2 := zx BK660.out 2; have hfz15_3 := zx BK660.out 3))
   go_ret
   exact ⟨by first | rfl | (simp [errW_none, errW_some] <;> rfl) | (simp [*, errW_none, errW_some] <;> rfl), by repeat (first | (with_reducible first | exact HB.out | apply ze | apply zd | apply zf | refine zk ?_ GE659.out | refine zk ?_ GE660.out) | exact HB.out)⟩
  ·
   rw [if_neg c10] at H
   have c10b0 : decide (5000 < (l1_2.length : Int)) = false := decide_eq_false c10
   have c10b1 : decide (5000 < l1_2.length) = false := decide_eq_false (by omega)
   clear c10
   by_cases c16 : (l2.length : Int) > 100
   ·
    rw [if_pos c16] at H
    have c16b0 : decide (100 < (l2.length : Int)) = true := decide_eq_true c16
    have c16b1 : decide (100 < l2.length) = true := decide_eq_true (by omega)
    clear c16
    obtain rfl := Option.some.inj H
    go_enter Try.func41, Try.ntmps41
    go_wp2_with (first | ((with_reducible refine gate_dst (N := 4) rfl ?_); (try (refine gate_guard (by rfl) ?_; dsimp only)); refine box_event ?hg (N := 4) ?hd (cs := #[.int .u64 a0_0, .int .u32 a0_1, .slice A0_2 l0_2.length c0_2]) (t := 26) ?hr ?_; (case hd => rfl); (case hg => rfl); (case hr => first | (go_simp; done) | (go_simp; rfl)); intro gb659 hg w17 hbox hb; have n0_ := zm (zJ (by repeat (first | (with_reducible first | exact HB.out | apply ze | apply zd | apply zf) | exact HB.out)) hb); have n1_ := zm (hbox); have n2_ := zm ((by rw [hg]; exact (zE (by repeat (first | (with_reducible first | exact HB.out | apply ze | apply zd | apply zf) | exact HB.out))) : w.heap.size ≤ gb659)); have n3_ := zm ((by rw [hg]; exact (zE (by repeat (first | (with_reducible first | exact HB.out | apply ze | apply zd | apply zf) | exact HB.out))) : w.heap.size ≤ gb659)); clear HB; have HB := n0_; have BK659 := n1_; have GW659 := n2_; have GE659 := n3_; clear n0_ n1_ n2_ n3_; clear hb hbox hg) | ((with_reducible refine gate_dst (N := 5) rfl ?_); (try (refine gate_guard (by rfl) ?_; dsimp only)); refine box_event ?hg (N := 5) ?hd (cs := #[.int .u64 a1_0, .int .u32 a1_1, .slice A1_2 l1_2.length c1_2, .int .i64 a1_3]) (t := 43) ?hr ?_; (case hd => rfl); (case hg => rfl); (case hr => first | (go_simp; done) | (go_simp; rfl)); intro gb660 hg w18 hbox hb; have n0_ := zm (zF (g := gb659) (o := .cells #[.int .u64 a0_0, .int .u32 a0_1, .slice A0_2 l0_2.length c0_2] 26 (0, 0)) (by (with_reducible repeat (first | refine zh ?_ _ | refine zj ?_ | refine zi ?_ _)); exact BK659.out) hb); have n1_ := zm (zJ (by repeat (first | (with_reducible first | exact HB.out | apply ze | apply zd | apply zf | refine zk ?_ GE659.out) | exact HB.out)) hb); have n2_ := zm (hbox); have n3_ := zm ((by rw [hg]; exact (zE (by repeat (first | (with_reducible first | exact HB.out | apply ze | apply zd | apply zf | refine zk ?_ GE659.out) | exact HB.out))) : w.heap.size ≤ gb660)); have n4_ := zm ((by rw [hg]; exact (zE (by repeat (first | (with_reducible first | exact HB.out | apply ze | apply zd | apply zf | refine zk ?_ GE659.out) | exact HB.out))) : w.heap.size ≤ gb660)); have n5_ := zm ((by rw [hg]; exact zn (zD (g := gb659) (o := .cells #[.int .u64 a0_0, .int .u32 a0_1, .slice A0_2 l0_2.length c0_2] 26 (0, 0)) (by (with_reducible repeat (first | refine zh ?_ _ | refine zj ?_ | refine zi ?_ _)); exact BK659.out)) : gb659 ≠ gb660)); have n6_ := zm ((by rw [hg]; exact zg (zD (g := gb659) (o := .cells #[.int .u64 a0_0, .int .u32 a0_1, .slice A0_2 l0_2.length c0_2] 26 (0, 0)) (by (with_reducible repeat (first | refine zh ?_ _ | refine zj ?_ | refine zi ?_ _)); exact BK659.out)) : gb660 ≠ gb659)); clear BK659; clear HB; have BK659 := n0_; have HB := n1_; have BK660 := n2_; have GW660 := n3_; have GE660 := n4_; have NB659_660 := n5_; have NB660_659 := n6_; clear n0_ n1_ n2_ n3_ n4_ n5_ n6_; clear hb hbox hg; have hnb19 := NB659_660.out; have hnc19 := NB660_659.out; have hcz20_0 : w18.cell? ⟨gb659, 0, none⟩ = some (.int .u64 a0_0) := (zs BK659.out 0).trans rfl; have hcz20_1 : w18.cell? ⟨gb659, 1, none⟩ = some (.int .u32 a0_1) := (zs BK659.out 1).trans rfl; have hcz20_2 : w18.cell? ⟨gb659, 2, none⟩ = some (.slice A0_2 l0_2.length c0_2) := (zs BK659.out 2).trans rfl; have hfz20_0 := zx BK659.out 0; have hfz20_1 := zx BK659.out 1; have hfz20_2 := zx BK659.out 2; have hcz21_0 : w18.cell? ⟨gb660, 0, none⟩ = some (.int .u64 a1_0) := (zs BK660.out 0).trans rfl; have hcz21_1 : w18.cell? ⟨gb660, 1, none⟩ = some (.int .u32 a1_1) := (zs BK660.out 1).trans rfl; have hcz21_2 : w18.cell? ⟨gb660, 2, none⟩ = some (.slice A1_2 l1_2.length c1_2) := (zs BK660.out 2).trans rfl; have hcz21_3 : w18.cell? ⟨gb660, 3, none⟩ = some (.int .i64 a1_3) := (zs BK660.out 3).trans rfl; have hfz21_0 := zx BK660.out 0; have hfz21_1 := zx BK660.out 1; have hfz21_2 := zx BK660.out 2; have hfz21_3 := zx BK660.out 3))
    go_ret
    exact ⟨by first | rfl | (simp [errW_none, errW_some] <;> rfl) | (simp [*, errW_none, errW_some] <;> rfl), by repeat (first | (with_reducible first | exact HB.out | apply ze | apply zd | apply zf | refine zk ?_ GE659.out | refine zk ?_ GE660.out) | exact HB.out)⟩
   ·
    rw [if_neg c16] at H
    have c16b0 : decide (100 < (l2.length : Int)) = false := decide_eq_false c16
    have c16b1 : decide (100 < l2.length) = false := decide_eq_false (by omega)
    clear c16
    obtain rfl := Option.some.inj H
    go_enter Try.func41, Try.ntmps41
    go_wp2_with (first | ((with_reducible refine gate_dst (N := 4) rfl ?_); (try (refine gate_guard (by rfl) ?_; dsimp only)); refine box_event ?hg (N := 4) ?hd (cs := #[.int .u64 a0_0, .int .u32 a0_1, .slice A0_2 l0_2.length c0_2]) (t := 26) ?hr ?_; (case hd => rfl); (case hg => rfl); (case hr => first | (go_simp; done) | (go_simp; rfl)); intro gb659 hg w22 hbox hb; have n0_ := zm (zJ (by repeat (first | (with_reducible first | exact HB.out | apply ze | apply zd | apply zf) | exact HB.out)) hb); have n1_ := zm (hbox); have n2_ := zm ((by rw [hg]; exact (zE (by repeat (first | (with_reducible first | exact HB.out | apply ze | apply zd | apply zf) | exact HB.out))) : w.heap.size ≤ gb659)); have n3_ := zm ((by rw [hg]; exact (zE (by repeat (first | (with_reducible first | exact HB.out | apply ze | apply zd | apply zf) | exact HB.out))) : w.heap.size ≤ gb659)); clear HB; have HB := n0_; have BK659 := n1_; have GW659 := n2_; have GE659 := n3_; clear n0_ n1_ n2_ n3_; clear hb hbox hg) | ((with_reducible refine gate_dst (N := 5) rfl ?_); (try (refine gate_guard (by rfl) ?_; dsimp only)); refine box_event ?hg (N := 5) ?hd (cs := #[.int .u64 a1_0, .int .u32 a1_1, .slice A1_2 l1_2.length c1_2, .int .i64 a1_3]) (t := 43) ?hr ?_; (case hd => rfl); (case hg => rfl); (case hr => first | (go_simp; done) | (go_simp; rfl)); intro gb660 hg w23 hbox hb; have n0_ := zm (zF (g := gb659) (o := .cells #[.int .u64 a0_0, .int .u32 a0_1, .slice A0_2 l0_2.length c0_2] 26 (0, 0)) (by (with_reducible repeat (first | refine zh ?_ _ | refine zj ?_ | refine zi ?_ _)); exact BK659.out) hb); have n1_ := zm (zJ (by repeat (first | (with_reducible first | exact HB.out | apply ze | apply zd | apply zf | refine zk ?_ GE659.out) | exact HB.out)) hb); have n2_ := zm (hbox); have n3_ := zm ((by rw [hg]; exact (zE (by repeat (first | (with_reducible first | exact HB.out | apply ze | apply zd | apply zf | refine zk ?_ GE659.out) | exact HB.out))) : w.heap.size ≤ gb660)); have n4_ := zm ((by rw [hg]; exact (zE (by repeat (first | (with_reducible first | exact HB.out | apply ze | apply zd | apply zf | refine zk ?_ GE659.out) | exact HB.out))) : w.heap.size ≤ gb660)); have n5_ := zm ((by rw [hg]; exact zn (zD (g := gb659) (o := .cells #[.int .u64 a0_0, .int .u32 a0_1, .slice A0_2 l0_2.length c0_2] 26 (0, 0)) (by (with_reducible repeat (first | refine zh ?_ _ | refine zj ?_ | refine zi ?_ _)); exact BK659.out)) : gb659 ≠ gb660)); have n6_ := zm ((by rw [hg]; exact zg (zD (g := gb659) (o := .cells #[.int .u64 a0_0, .int .u32 a0_1, .slice A0_2 l0_2.length c0_2] 26 (0, 0)) (by (with_reducible repeat (first | refine zh ?_ _ | refine zj ?_ | refine zi ?_ _)); exact BK659.out)) : gb660 ≠ gb659)); clear BK659; clear HB; have BK659 := n0_; have HB := n1_; have BK660 := n2_; have GW660 := n3_; have GE660 := n4_; have NB659_660 := n5_; have NB660_659 := n6_; clear n0_ n1_ n2_ n3_ n4_ n5_ n6_; clear hb hbox hg; have hnb24 := NB659_660.out; have hnc24 := NB660_659.out; have hcz25_0 : w23.cell? ⟨gb659, 0, none⟩ = some (.int .u64 a0_0) := (zs BK659.out 0).trans rfl; have hcz25_1 : w23.cell? ⟨gb659, 1, none⟩ = some (.int .u32 a0_1) := (zs BK659.out 1).trans rfl; have hcz25_2 : w23.cell? ⟨gb659, 2, none⟩ = some (.slice A0_2 l0_2.length c0_2) := (zs BK659.out 2).trans rfl; have hfz25_0 := zx BK659.out 0; have hfz25_1 := zx BK659.out 1; have hfz25_2 := zx BK659.out 2; have hcz26_0 : w23.cell? ⟨gb660, 0, none⟩ = some (.int .u64 a1_0) := (zs BK660.out 0).trans rfl; have hcz26_1 : w23.cell? ⟨gb660, 1, none⟩ = some (.int .u32 a1_1) := (zs BK660.out 1).trans rfl; have hcz26_2 : w23.cell? ⟨gb660, 2, none⟩ = some (.slice A1_2 l1_2.length c1_2) := (zs BK660.out 2).trans rfl; have hcz26_3 : w23.cell? ⟨gb660, 3, none⟩ = some (.int .i64 a1_3) := (zs BK660.out 3).trans rfl; have hfz26_0 := zx BK660.out 0; have hfz26_1 := zx BK660.out 1; have hfz26_2 := zx BK660.out 2; have hfz26_3 := zx BK660.out 3))
    go_ret
    exact ⟨by first | rfl | (simp [errW_none, errW_some] <;> rfl) | (simp [*, errW_none, errW_some] <;> rfl), by repeat (first | (with_reducible first | exact HB.out | apply ze | apply zd | apply zf | refine zk ?_ GE659.out | refine zk ?_ GE660.out) | exact HB.out)⟩

end Go.Proofs.Ytkaoiblgfpphoaa.Prt

namespace Go.Proofs.Ytkaoiblgfpphoaa.Prt
open Go.RowKit Go.Proofs.YtkaoiblgfpphoaaW.PrintWords Go.Proofs.YtkaoiblgfpphoaaW.PrintLast Go.Proofs.YtkaoiblgfpphoaaW.PrintMore
attribute [local go_sem] max2_int min2_int max_two min_two max_three min_three max_four min_four   -- for this text's walks alone
set_option linter.unusedVariables false
set_option linter.unusedSimpArgs false

/-! ### coder_New: function 29 -/
def coder_New.f  : Option (Int × Int × List Int) := some (0, 4294967295, ([] : List Int))
set_option maxHeartbeats 8000000 in
set_option maxRecDepth 100000 in
theorem coder_New.calls  (r1 : Int) (r2 : Int) (r3 : List Int) (w : World) (h : coder_New.f  = some (r1, r2, r3)) :
  Calls Try.prog 29 #[] w fun e w' => ∃ v2_ : Value, e = .returned (.agg #[.int .u64 r1, .int .u32 r2, v2_]) ∧ Kd.R (Kd.int .u8) 5 w' w.heap.size (fun _ => True) v2_ r3 ∧ Below w.heap.size w w' := by
 have hu26 := Try.underlying26
 have HB := zm (Below.refl w.heap.size w)
 have H : (some (0, 4294967295, ([] : List Int))) = some (r1, r2, r3) := h
 clear h
 simp only [Option.some.injEq, Prod.mk.injEq] at H
 obtain ⟨rfl, rfl, rfl⟩ := H
 go_enter Try.func29, Try.ntmps29
 go_wp2_with (first | ((with_reducible refine gate_dst (N := 0) rfl ?_); refine box_event ?hg (N := 0) ?hd (cs := #[.int .u64 0, .int .u32 0, .slice none 0 0]) (t := 26) ?hr ?_; (case hd => rfl); (case hg => rfl); (case hr => first | (go_simp; done) | (go_simp; rfl)); intro gb102 hg w1 hbox hb; have n0_ := zm (zJ (by repeat (first | (with_reducible first | exact HB.out | apply ze | apply zd | apply zf) | exact HB.out)) hb); have n1_ := zm (hbox); have n2_ := zm ((by rw [hg]; exact (zE (by repeat (first | (with_reducible first | exact HB.out | apply ze | apply zd | apply zf) | exact HB.out))) : w.heap.size ≤ gb102)); have n3_ := zm ((by rw [hg]; exact (zE (by repeat (first | (with_reducible first | exact HB.out | apply ze | apply zd | apply zf) | exact HB.out))) : w.heap.size ≤ gb102)); clear HB; have HB := n0_; have BK102 := n1_; have GW102 := n2_; have GE102 := n3_; clear n0_ n1_ n2_ n3_; clear hb hbox hg; have hcz2_0 : w1.cell? ⟨gb102, 0, none⟩ = some (.int .u64 0) := (zs BK102.out 0).trans rfl; have hcz2_1 : w1.cell? ⟨gb102, 1, none⟩ = some (.int .u32 0) := (zs BK102.out 1).trans rfl; have hcz2_2 : w1.cell? ⟨gb102, 2, none⟩ = some (.slice none 0 0) := (zs BK102.out 2).trans rfl; have hfz2_0 := zx BK102.out 0; have hfz2_1 := zx BK102.out 1; have hfz2_2 := zx BK102.out 2))
 refine bodyPost_ret (results_cell_row rfl _ _ gb102 26 #[.int .u64 0, .int .u32 4294967295, .slice none 0 0] (0, 0) _ rfl (by (with_reducible repeat (first | refine zh ?_ _ | refine zj ?_ | refine zi ?_ _)); refine zw (cs := #[.int .u64 0, .int .u32 4294967295, .slice none 0 0]) ?_ 2 _ rfl; (with_reducible repeat (first | refine zh ?_ _ | refine zj ?_ | refine zi ?_ _)); refine zw (cs := #[.int .u64 0, .int .u32 0, .slice none 0 0]) ?_ 1 _ rfl; (with_reducible repeat (first | refine zh ?_ _ | refine zj ?_ | refine zi ?_ _)); refine zw (cs := #[.int .u64 0, .int .u32 0, .slice none 0 0]) ?_ 0 _ rfl; (with_reducible repeat (first | refine zh ?_ _ | refine zj ?_ | refine zi ?_ _)); exact BK102.out) Try.underlying26 rfl (by kernel_rfl)) rfl ?_
 exact ⟨_, by first | rfl | (simp [errW_none, errW_some] <;> rfl) | (simp [*, errW_none, errW_some] <;> rfl), by first | exact Kd.R_nil _ _ _ _ _ | exact Kd.N_nil _ _ _ _ _ | exact Kd.V_nil _ _ _ _ _ | exact Kd.Q_nil _ _ _ _ _ | exact Kd.S_nil _ _ _ _ _, by repeat (first | (with_reducible first | exact HB.out | apply ze | apply zd | apply zf | refine zk ?_ GE102.out) | exact HB.out)⟩

end Go.Proofs.Ytkaoiblgfpphoaa.Prt

namespace Go.Proofs.Ytkaoiblgfpphoaa.Prt
open Go.RowKit Go.Proofs.YtkaoiblgfpphoaaW.PrintWords Go.Proofs.YtkaoiblgfpphoaaW.PrintLast Go.Proofs.YtkaoiblgfpphoaaW.PrintMore
attribute [local go_sem] max2_int min2_int max_two min_two max_three min_three max_four min_four   -- for this text's walks alone
set_option linter.unusedVariables false
set_option linter.unusedSimpArgs false

/-! ### coder_RightEnc: function 21 -/
def coder_RightEnc.f (a0_0 : Int) (a0_1 : Int) (l0_2 : List Int) : Option (Bool) := if a0_0 ≤ 4294967295 then (if a0_1 ≥ 16777216 then (some (decide ((l0_2.length : Int) ≤ 4000))) else (some false)) else (some false)
set_option maxHeartbeats 8000000 in
set_option maxRecDepth 100000 in
theorem coder_RightEnc.calls (a0_0 : Int) (a0_1 : Int) (A0_2 : Option Addr) (c0_2 : Nat) (l0_2 : List Int) (r : Bool) (w : World) (hr0_2 : Kd.C (Kd.int .u8) w A0_2 l0_2.length l0_2) (hc0_2 : l0_2.length ≤ c0_2) (h : coder_RightEnc.f a0_0 a0_1 l0_2 = some r) :
  Calls Try.prog 21 #[.agg #[.int .u64 a0_0, .int .u32 a0_1, .slice A0_2 l0_2.length c0_2]] w fun e w' => e = .returned (.bool r) ∧ Below w.heap.size w w' := by
 have hu26 := Try.underlying26
 have HR0_2 := zm hr0_2
 have HC0_2 := zm hc0_2
 clear hr0_2 hc0_2
 have HB := zm (Below.refl w.heap.size w)
 have H : (if a0_0 ≤ 4294967295 then (if a0_1 ≥ 16777216 then (some (decide ((l0_2.length : Int) ≤ 4000))) else (some false)) else (some false)) = some r := h
 clear h
 by_cases c2 : a0_0 ≤ 4294967295
 ·
  rw [if_pos c2] at H
  have c2b0 : decide (a0_0 ≤ 4294967295) = true := decide_eq_true c2
  clear c2
  by_cases c3 : a0_1 ≥ 16777216
  ·
   rw [if_pos c3] at H
   have c3b0 : decide (16777216 ≤ a0_1) = true := decide_eq_true c3
   clear c3
   obtain rfl := Option.some.inj H
   go_enter Try.func21, Try.ntmps21
   go_wp2_with (first | ((with_reducible refine gate_dst (N := 1) rfl ?_); (try (refine gate_guard (by rfl) ?_; dsimp only)); refine box_event ?hg (N := 1) ?hd (cs := #[.int .u64 a0_0, .int .u32 a0_1, .slice A0_2 l0_2.length c0_2]) (t := 26) ?hr ?_; (case hd => rfl); (case hg => rfl); (case hr => first | (go_simp; done) | (go_simp; rfl)); intro gb101 hg w4 hbox hb; have n0_ := zm (zJ (by repeat (first | (with_reducible first | exact HB.out | apply ze | apply zd | apply zf) | exact HB.out)) hb); have n1_ := zm (hbox); have n2_ := zm ((by rw [hg]; exact (zE (by repeat (first | (with_reducible first | exact HB.out | apply ze | apply zd | apply zf) | exact HB.out))) : w.heap.size ≤ gb101)); have n3_ := zm ((by rw [hg]; exact (zE (by repeat (first | (with_reducible first | exact HB.out | apply ze | apply zd | apply zf) | exact HB.out))) : w.heap.size ≤ gb101)); clear HB; have HB := n0_; have BK101 := n1_; have GW101 := n2_; have GE101 := n3_; clear n0_ n1_ n2_ n3_; clear hb hbox hg; have hcz5_0 : w4.cell? ⟨gb101, 0, none⟩ = some (.int .u64 a0_0) := (zs BK101.out 0).trans rfl; have hcz5_1 : w4.cell? ⟨gb101, 1, none⟩ = some (.int .u32 a0_1) := (zs BK101.out 1).trans rfl; have hcz5_2 : w4.cell? ⟨gb101, 2, none⟩ = some (.slice A0_2 l0_2.length c0_2) := (zs BK101.out 2).trans rfl; have hfz5_0 := zx BK101.out 0; have hfz5_1 := zx BK101.out 1; have hfz5_2 := zx BK101.out 2))
   go_ret
   exact ⟨by first | rfl | (simp [errW_none, errW_some] <;> rfl) | (simp [*, errW_none, errW_some] <;> rfl), by repeat (first | (with_reducible first | exact HB.out | apply ze | apply zd | apply zf | refine zk ?_ GE101.out) | exact HB.out)⟩
  ·
   rw [if_neg c3] at H
   have c3b0 : decide (16777216 ≤ a0_1) = false := decide_eq_false c3
   clear c3
   obtain rfl := Option.some.inj H
   go_enter Try.func21, Try.ntmps21
   go_wp2_with (first | ((with_reducible refine gate_dst (N := 1) rfl ?_); (try (refine gate_guard (by rfl) ?_; dsimp only)); refine box_event ?hg (N := 1) ?hd (cs := #[.int .u64 a0_0, .int .u32 a0_1, .slice A0_2 l0_2.length c0_2]) (t := 26) ?hr ?_; (case hd => rfl); (case hg => rfl); (case hr => first | (go_simp; done) | (go_simp; rfl)); intro gb101 hg w6 hbox hb; have n0_ := zm (zJ (by repeat (first | (with_reducible first | exact HB.out | apply ze | apply zd | apply zf) | exact HB.out)) hb); have n1_ := zm (hbox); have n2_ := zm ((by rw [hg]; exact (zE (by repeat (first | (with_reducible first | exact HB.out | apply ze | apply zd | apply zf) | exact HB.out))) : w.heap.size ≤ gb101)); have n3_ := zm ((by rw [hg]; exact (zE (by repeat (first | (with_reducible first | exact HB.out | apply ze | apply zd | apply zf) | exact HB.out))) : w.heap.size ≤ gb101)); clear HB; have HB := n0_; have BK101 := n1_; have GW101 := n2_; have GE101 := n3_; clear n0_ n1_ n2_ n3_; clear hb hbox hg; have hcz7_0 : w6.cell? ⟨gb101, 0, none⟩ = some (.int .u64 a0_0) := (zs BK101.out 0).trans rfl; have hcz7_1 : w6.cell? ⟨gb101, 1, none⟩ = some (.int .u32 a0_1) := (zs BK101.out 1).trans rfl; have hcz7_2 : w6.cell? ⟨gb101, 2, none⟩ = some (.slice A0_2 l0_2.length c0_2) := (zs BK101.out 2).trans rfl; have hfz7_0 := zx BK101.out 0; have hfz7_1 := zx BK101.out 1; have hfz7_2 := zx BK101.out 2))
   go_ret
   exact ⟨by first | rfl | (simp [errW_none, errW_some] <;> rfl) | (simp [*, errW_none, errW_some] <;> rfl), by repeat (first | (with_reducible first | exact HB.out | apply ze | apply zd | apply zf | refine zk ?_ GE101.out) | exact HB.out)⟩
 ·
  rw [if_neg c2] at H
  have c2b0 : decide (a0_0 ≤ 4294967295) = false := decide_eq_false c2
  clear c2
  obtain rfl := Option.some.inj H
  go_enter Try.func21, Try.ntmps21
  go_wp2_with (first | ((with_reducible refine gate_dst (N := 1) rfl ?_); (try (refine gate_guard (by rfl) ?_; dsimp only)); refine box_event ?hg (N := 1) ?hd (cs := #[.int .u64 a0_0, .int .u32 a0_1, .slice A0_2 l0_2.length c0_2]) (t := 26) ?hr ?_; (case hd => rfl); (case hg => rfl); (case hr => first | (go_simp; done) | (go_simp; rfl)); intro gb101 hg w8 hbox hb; have n0_ := zm (zJ (by repeat (first | (with_reducible first | exact HB.out | apply ze | apply zd | apply zf) | exact HB.out)) hb); have n1_ := zm (hbox); have n2_ := zm ((by rw [hg]; exact (zE (by repeat (first | (with_reducible first | exact HB.out | apply ze | apply zd | apply zf) | exact HB.out))) : w.heap.size ≤ gb101)); have n3_ := zm ((by rw [hg]; exact (zE (by repeat (first | (with_reducible first | exact HB.out | apply ze | apply zd | apply zf) | exact HB.out))) : w.heap.size ≤ gb101)); clear HB; have HB := n0_; have BK101 := n1_; have GW101 := n2_; have GE101 := n3_; clear n0_ n1_ n2_ n3_; clear hb hbox hg; have hcz9_0 : w8.cell? ⟨gb101, 0, none⟩ = some (.int .u64 a0_0) := (zs BK101.out 0).trans rfl; have hcz9_1 : w8.cell? ⟨gb101, 1, none⟩ = some (.int .u32 a0_1) := (zs BK101.out 1).trans rfl; have hcz9_2 : w8.cell? ⟨gb101, 2, none⟩ = some (.slice A0_2 l0_2.length c0_2) := (zs BK101.out 2).trans rfl; have hfz9_0 := zx BK101.out 0; have hfz9_1 := zx BK101.out 1; have hfz9_2 := zx BK101.out 2))
  go_ret
  exact ⟨by first | rfl | (simp [errW_none, errW_some] <;> rfl) | (simp [*, errW_none, errW_some] <;> rfl), by repeat (first | (with_reducible first | exact HB.out | apply ze | apply zd | apply zf | refine zk ?_ GE101.out) | exact HB.out)⟩

end Go.Proofs.Ytkaoiblgfpphoaa.Prt
