-- Functions of the program and of the document as plain Lean, each with the proof that the code comes to it. Written by a program of this session (wip/tools/myprint.py, pack.py) over the kit's printer; Lean checks it.
import Derived.Test.YtkaoiblgfpphoaaZCoderBackPrt0
import Derived.Test.YtkaoiblgfpphoaaZCoderBackM1
namespace Go.Proofs.Ytkaoiblgfpphoaa.Prt
open Go.RowKit Go.Proofs.YtkaoiblgfpphoaaW.PrintWords Go.Proofs.YtkaoiblgfpphoaaW.PrintLast Go.Proofs.YtkaoiblgfpphoaaW.PrintMore
attribute [local go_sem] max2_int min2_int max_two min_two max_three min_three max_four min_four   -- for this text's walks alone
set_option linter.unusedVariables false
set_option linter.unusedSimpArgs false

/-! ### coder_Take: function 34 -/
def coder_Take.l0 : Nat → Int → Int → Int → List Int → Int → Option (Int × Int × List Int × Int × Int)
 | 0, _, _, _, _, _ => none
 | k + 1, x10, x354000, x354001, x354002, x354003 => if x10 < 16777216 then ((coder_at.f x354002 x354003).bind fun t364 => (if x354003 < (x354002.length : Int) then (coder_Take.l0 k ((x10 * 256) % 4294967296) (Go.bits .or .u64 (Go.bits .and .u64 (IntKind.u64.wrap (x354000 * 256)) 4294967295) t364) x354001 x354002 (wrap64 (x354003 + 1))) else (coder_Take.l0 k ((x10 * 256) % 4294967296) (Go.bits .or .u64 (Go.bits .and .u64 (IntKind.u64.wrap (x354000 * 256)) 4294967295) t364) x354001 x354002 x354003))) else (some (x354000, x10, x354002, x354003, 0))
def coder_Take.f (k : Nat) (a0_0 : Int) (a0_1 : Int) (l0_2 : List Int) (a0_3 : Int) (a1 : Int) (a2 : Int) (a3 : Int) : Option (Int × Int × List Int × Int × Int) := (coder_good.f a0_0 a0_1 l0_2 a0_3).bind fun bt355 => ((coder_fair.f a1 a2 a3).bind fun t361 => (if t361 = true then ((coder_part.f bt355.2.1 a1 a2 a3).bind fun bt362 => (coder_Take.l0 k bt362.1 (IntKind.u64.wrap (bt355.1 - (mn bt355.1 bt362.2))) bt355.2.1 bt355.2.2.1 bt355.2.2.2)) else (some (bt355.1, bt355.2.1, bt355.2.2.1, bt355.2.2.2, 1))))
theorem coder_Take.mono_l : ∀ k, (∀ y0 y1 y2 y3 y4, LeO (coder_Take.l0 k y0 y1 y2 y3 y4) (coder_Take.l0 (k + 1) y0 y1 y2 y3 y4))
 | 0 => fun _ _ _ _ _ r h => by simp [coder_Take.l0] at h
 | k + 1 => by
  have ih0 := coder_Take.mono_l k
  ·
   intro y0 y1 y2 y3 y4
   unfold coder_Take.l0
   repeat' first
   | (with_reducible exact ih0 _ _ _ _ _)
   | (with_reducible exact LeO.refl _)
   | (with_reducible exact LeO.none _)
   | (with_reducible refine LeO.ite ?_ ?_)
   | (with_reducible refine LeO.bind ?_ (fun _ => ?_))
   | exact ih0 _ _ _ _ _
   | exact LeO.none _
   | refine LeO.ite ?_ ?_
   | refine LeO.bind ?_ (fun _ => ?_)
theorem coder_Take.mono : ∀ a0 a1 a2 a3 a4 a5 a6 k, LeO (coder_Take.f k a0 a1 a2 a3 a4 a5 a6) (coder_Take.f (k + 1) a0 a1 a2 a3 a4 a5 a6) := by
 intro a0 a1 a2 a3 a4 a5 a6 k
 have ih0 := coder_Take.mono_l k
 unfold coder_Take.f
 repeat' first
   | (with_reducible exact ih0 _ _ _ _ _)
   | (with_reducible exact LeO.refl _)
   | (with_reducible exact LeO.none _)
   | (with_reducible refine LeO.ite ?_ ?_)
   | (with_reducible refine LeO.bind ?_ (fun _ => ?_))
   | exact ih0 _ _ _ _ _
   | exact LeO.none _
   | refine LeO.ite ?_ ?_
   | refine LeO.bind ?_ (fun _ => ?_)
def coder_Take.T7 : Bool × List (List Nat × List Nat) := (true, [([], []), ([0], [0]), ([1], [1]), ([2], [2]), ([], []), ([4], [4]), ([], []), ([6], [6]), ([5, 7], [5, 7]), ([3, 8], [3, 8]), ([0, 1, 2, 3, 4, 5, 6, 7, 8, 9], []), ([10, 9, 8, 0, 1, 2, 3, 4, 5, 6, 7, 8, 9], [9, 10])])
def coder_Take.B7 : List Nat := [0, 1, 3, 7, 0, 16, 0, 64, 240, 511, 1023, 2047]
theorem coder_Take.tab7 : rtab .any (opsOf Try.f34 7) = coder_Take.T7 := by kernel_rfl
theorem coder_Take.bits7 : waitsOk coder_Take.T7.2 coder_Take.B7 = true := by kernel_rfl
set_option maxHeartbeats 8000000 in
set_option maxRecDepth 100000 in
theorem coder_Take.calls (k : Nat) (a0_0 : Int) (a0_1 : Int) (P0_2_ : Nat → Prop) (A0_2 : Option Addr) (c0_2 : Nat) (l0_2 : List Int) (a0_3 : Int) (a1 : Int) (a2 : Int) (a3 : Int) (r1 : Int) (r2 : Int) (r3 : List Int) (r4 : Int) (r5 : Int) (w : World) (hs0_2 : Kd.V (Kd.int .u8) 5 w w.heap.size (fun k_ => P0_2_ k_) (.slice A0_2 l0_2.length c0_2) l0_2) (h : coder_Take.f k a0_0 a0_1 l0_2 a0_3 a1 a2 a3 = some (r1, r2, r3, r4, r5)) :
  Calls Try.prog 34 #[.agg #[.int .u64 a0_0, .int .u32 a0_1, .slice A0_2 l0_2.length c0_2, .int .i64 a0_3], .int .i64 a1, .int .i64 a2, .int .i64 a3] w fun e w' => ∃ v2_ : Value, e = .returned (.tuple #[.agg #[.int .u64 r1, .int .u32 r2, v2_, .int .i64 r4], .int .i64 r5]) ∧ Kd.V (Kd.int .u8) 5 w' w.heap.size (fun k_ => (P0_2_ k_ ∨ w.heap.size ≤ k_)) v2_ r3 ∧ Below w.heap.size w w' := by
 have hu43 := Try.underlying43
 have HO0_2 := zm (show Kd.V (Kd.int .u8) 5 w w.heap.size (fun k_ => (P0_2_ k_ ∨ w.heap.size ≤ k_)) (.slice A0_2 l0_2.length c0_2) l0_2 from zy hs0_2 (fun k_ hk => .inl hk))
 have HB := zm (Below.refl w.heap.size w)
 have H : ((coder_good.f a0_0 a0_1 l0_2 a0_3).bind fun bt355 => ((coder_fair.f a1 a2 a3).bind fun t361 => (if t361 = true then ((coder_part.f bt355.2.1 a1 a2 a3).bind fun bt362 => (coder_Take.l0 k bt362.1 (IntKind.u64.wrap (bt355.1 - (mn bt355.1 bt362.2))) bt355.2.1 bt355.2.2.1 bt355.2.2.2)) else (some (bt355.1, bt355.2.1, bt355.2.2.1, bt355.2.2.2, 1))))) = some (r1, r2, r3, r4, r5) := h
 clear h
 replace H := Option.bind_eq_some_iff.mp H
 obtain ⟨⟨t355, t356, t357, t360⟩, A50, H⟩ := H
 replace H : ((coder_fair.f a1 a2 a3).bind fun t361 => (if t361 = true then ((coder_part.f t356 a1 a2 a3).bind fun bt362 => (coder_Take.l0 k bt362.1 (IntKind.u64.wrap (t355 - (mn t355 bt362.2))) t356 t357 t360)) else (some (t355, t356, t357, t360, 1)))) = some (r1, r2, r3, r4, r5) := H
 have A5 := zm A50
 clear A50
 replace H := Option.bind_eq_some_iff.mp H
 obtain ⟨t361, A60, H⟩ := H
 replace H : (if t361 = true then ((coder_part.f t356 a1 a2 a3).bind fun bt362 => (coder_Take.l0 k bt362.1 (IntKind.u64.wrap (t355 - (mn t355 bt362.2))) t356 t357 t360)) else (some (t355, t356, t357, t360, 1))) = some (r1, r2, r3, r4, r5) := H
 have A6 := zm A60
 clear A60
 by_cases c7 : t361 = true
 ·
  subst c7
  have H1 : ((coder_part.f t356 a1 a2 a3).bind fun bt362 => (coder_Take.l0 k bt362.1 (IntKind.u64.wrap (t355 - (mn t355 bt362.2))) t356 t357 t360)) = some (r1, r2, r3, r4, r5) := by rw [if_pos rfl] at H; exact H
  clear H
  have H := H1
  clear H1
  replace H := Option.bind_eq_some_iff.mp H
  obtain ⟨⟨t362, t363⟩, A80, H⟩ := H
  replace H : (coder_Take.l0 k t362 (IntKind.u64.wrap (t355 - (mn t355 t363))) t356 t357 t360) = some (r1, r2, r3, r4, r5) := H
  have A8 := zm A80
  clear A80
  obtain ⟨ji9, hji9⟩ : ∃ j_ : Int, (mn t355 t363) = j_ := ⟨_, rfl⟩
  replace H : (coder_Take.l0 k t362 (IntKind.u64.wrap (t355 - (ji9))) t356 t357 t360) = some (r1, r2, r3, r4, r5) := by first | (rw [hji9] at H; exact H) | (simp only [hji9] at H ⊢; exact H)
  (try rw [hji9] at A5)
  (try rw [hji9] at A6)
  (try rw [hji9] at A8)
  have hji9_ : (if t363 < t355 then t363 else t355) = ji9 := hji9
  have H' := zm H
  clear H
  go_enter Try.func34, Try.ntmps34
  go_wp2_with (first | ((with_reducible refine gate_dst (N := 4) rfl ?_); refine box_event ?hg (N := 4) ?hd (cs := #[.int .u64 a0_0, .int .u32 a0_1, .slice A0_2 l0_2.length c0_2, .int .i64 a0_3]) (t := 43) ?hr ?_; (case hd => rfl); (case hg => rfl); (case hr => first | (go_simp; done) | (go_simp; rfl)); intro gb353 hg w10 hbox hb; have n0_ := zm (Kd.V_below (Kd.V_elderB (by (with_reducible repeat (first | apply zA | apply zB | apply zC)); exact HO0_2.out) gb353 (Nat.le_of_eq hg.symm)) hb); have n1_ := zm (zJ (by repeat (first | (with_reducible first | exact HB.out | apply ze | apply zd | apply zf) | exact HB.out)) hb); have n2_ := zm (hbox); have n3_ := zm ((by rw [hg]; exact (zE (by repeat (first | (with_reducible first | exact HB.out | apply ze | apply zd | apply zf) | exact HB.out))) : w.heap.size ≤ gb353)); have n4_ := zm ((by rw [hg]; exact (zE (by repeat (first | (with_reducible first | exact HB.out | apply ze | apply zd | apply zf) | exact HB.out))) : w.heap.size ≤ gb353)); clear HO0_2; clear HB; have HO0_2 := n0_; have HB := n1_; have BK353 := n2_; have GW353 := n3_; have GE353 := n4_; clear n0_ n1_ n2_ n3_ n4_; clear hb hbox hg) | ((with_reducible refine gate_dst (N := 8) rfl ?_); refine box_event ?hg (N := 8) ?hd (cs := #[.int .u64 0, .int .u32 0, .slice none 0 0, .int .i64 0]) (t := 43) ?hr ?_; (case hd => rfl); (case hg => rfl); (case hr => first | (go_simp; done) | (go_simp; rfl)); intro gb354 hg w11 hbox hb; have n0_ := zm (Kd.V_below (Kd.V_elderB (by (with_reducible repeat (first | apply zA | apply zB | apply zC)); exact HO0_2.out) gb354 (Nat.le_of_eq hg.symm)) hb); have n1_ := zm (zF (g := gb353) (o := .cells #[.int .u64 a0_0, .int .u32 a0_1, .slice A0_2 l0_2.length c0_2, .int .i64 a0_3] 43 (0, 0)) (by (with_reducible repeat (first | refine zh ?_ _ | refine zj ?_ | refine zi ?_ _)); exact BK353.out) hb); have n2_ := zm (zJ (by repeat (first | (with_reducible first | exact HB.out | apply ze | apply zd | apply zf | refine zk ?_ GE353.out) | exact HB.out)) hb); have n3_ := zm (hbox); have n4_ := zm ((by rw [hg]; exact (zE (by repeat (first | (with_reducible first | exact HB.out | apply ze | apply zd | apply zf | refine zk ?_ GE353.out) | exact HB.out))) : w.heap.size ≤ gb354)); have n5_ := zm ((by rw [hg]; exact (zE (by repeat (first | (with_reducible first | exact HB.out | apply ze | apply zd | apply zf | refine zk ?_ GE353.out) | exact HB.out))) : w.heap.size ≤ gb354)); have n6_ := zm ((by rw [hg]; exact zn (zD (g := gb353) (o := .cells #[.int .u64 a0_0, .int .u32 a0_1, .slice A0_2 l0_2.length c0_2, .int .i64 a0_3] 43 (0, 0)) (by (with_reducible repeat (first | refine zh ?_ _ | refine zj ?_ | refine zi ?_ _)); exact BK353.out)) : gb353 ≠ gb354)); have n7_ := zm ((by rw [hg]; exact zg (zD (g := gb353) (o := .cells #[.int .u64 a0_0, .int .u32 a0_1, .slice A0_2 l0_2.length c0_2, .int .i64 a0_3] 43 (0, 0)) (by (with_reducible repeat (first | refine zh ?_ _ | refine zj ?_ | refine zi ?_ _)); exact BK353.out)) : gb354 ≠ gb353)); clear HO0_2; clear BK353; clear HB; have HO0_2 := n0_; have BK353 := n1_; have HB := n2_; have BK354 := n3_; have GW354 := n4_; have GE354 := n5_; have NB353_354 := n6_; have NB354_353 := n7_; clear n0_ n1_ n2_ n3_ n4_ n5_ n6_ n7_; clear hb hbox hg; have hnb12 := NB353_354.out; have hnc12 := NB354_353.out; have hcz13_0 : w11.cell? ⟨gb353, 0, none⟩ = some (.int .u64 a0_0) := (zs BK353.out 0).trans rfl; have hcz13_1 : w11.cell? ⟨gb353, 1, none⟩ = some (.int .u32 a0_1) := (zs BK353.out 1).trans rfl; have hcz13_2 : w11.cell? ⟨gb353, 2, none⟩ = some (.slice A0_2 l0_2.length c0_2) := (zs BK353.out 2).trans rfl; have hcz13_3 : w11.cell? ⟨gb353, 3, none⟩ = some (.int .i64 a0_3) := (zs BK353.out 3).trans rfl; have hfz13_0 := zx BK353.out 0; have hfz13_1 := zx BK353.out 1; have hfz13_2 := zx BK353.out 2; have hfz13_3 := zx BK353.out 3) | ((with_reducible refine gate_callee (f := 60) rfl ?_); refine goesL_ (some 13) rfl rfl Try.func60 (by kernel_rfl) rfl #[.agg #[.int .u64 a0_0, .int .u32 a0_1, .slice A0_2 l0_2.length c0_2, .int .i64 a0_3]] rfl (by (try simp only [List.map_toArray, List.map_cons, List.map_nil]); first | done | rfl | (simp only [List.length_drop, List.length_take]; rfl)) ?_; (with_reducible refine (coder_good.calls a0_0 a0_1 (fun k_ => (((P0_2_ k_ ∨ w.heap.size ≤ k_) ∧ k_ ≠ gb353) ∧ k_ ≠ gb354)) _ _ l0_2 a0_3 t355 t356 t357 t360 _ ?side1 A5.out).mono ?_); (case side1 => exact HO0_2.out); rintro e w14 ⟨v358, rfl, ho0, hb⟩; refine ⟨_, rfl, ?_⟩; have n0_ := zm (Kd.V_below (by (with_reducible repeat (first | apply zA | apply zB | apply zC)); exact HO0_2.out) hb); have n1_ := zm (Kd.V_lower (zy (ok' := fun k_ => (P0_2_ k_ ∨ w.heap.size ≤ k_) ∧ k_ ≠ gb353 ∧ k_ ≠ gb354) ho0 (fun k_ hk_ => ⟨Or.elim hk_ (fun hs_ => hs_.1.1) (fun hn_ => (.inr (Nat.le_trans (zE (by repeat (first | (with_reducible first | exact HB.out | apply ze | apply zd | apply zf | refine zk ?_ GE353.out | refine zk ?_ GE354.out) | exact HB.out))) hn_))), Or.elim hk_ (fun hs_ => hs_.1.2) (fun hn_ => (Kd.freshB (g := gb353) (o := .cells #[.int .u64 a0_0, .int .u32 a0_1, .slice A0_2 l0_2.length c0_2, .int .i64 a0_3] 43 (0, 0)) (by (with_reducible repeat (first | refine zh ?_ _ | refine zj ?_ | refine zi ?_ _)); exact BK353.out) k_ hn_)), Or.elim hk_ (fun hs_ => hs_.2) (fun hn_ => (Kd.freshB (g := gb354) (o := .cells #[.int .u64 0, .int .u32 0, .slice none 0 0, .int .i64 0] 43 (0, 0)) (by (with_reducible repeat (first | refine zh ?_ _ | refine zj ?_ | refine zi ?_ _)); exact BK354.out) k_ hn_))⟩)) (zE (by repeat (first | (with_reducible first | exact HB.out | apply ze | apply zd | apply zf | refine zk ?_ GE353.out | refine zk ?_ GE354.out) | exact HB.out)))); have n2_ := zm (zF (g := gb353) (o := .cells #[.int .u64 a0_0, .int .u32 a0_1, .slice A0_2 l0_2.length c0_2, .int .i64 a0_3] 43 (0, 0)) (by (with_reducible repeat (first | refine zh ?_ _ | refine zj ?_ | refine zi ?_ _)); exact BK353.out) hb); have n3_ := zm (zF (g := gb354) (o := .cells #[.int .u64 0, .int .u32 0, .slice none 0 0, .int .i64 0] 43 (0, 0)) (by (with_reducible repeat (first | refine zh ?_ _ | refine zj ?_ | refine zi ?_ _)); exact BK354.out) hb); have n4_ := zm (zJ (by repeat (first | (with_reducible first | exact HB.out | apply ze | apply zd | apply zf | refine zk ?_ GE353.out | refine zk ?_ GE354.out) | exact HB.out)) hb); clear HO0_2; clear BK353; clear BK354; clear HB; have HO0_2 := n0_; have HO359 := n1_; have BK353 := n2_; have BK354 := n3_; have HB := n4_; clear n0_ n1_ n2_ n3_ n4_; (try clear hb); (try clear hb2); (try clear hk); (try clear hi); (try clear ho0); have hcz15_0 : w14.cell? ⟨gb353, 0, none⟩ = some (.int .u64 a0_0) := (zs BK353.out 0).trans rfl; have hcz15_1 : w14.cell? ⟨gb353, 1, none⟩ = some (.int .u32 a0_1) := (zs BK353.out 1).trans rfl; have hcz15_2 : w14.cell? ⟨gb353, 2, none⟩ = some (.slice A0_2 l0_2.length c0_2) := (zs BK353.out 2).trans rfl; have hcz15_3 : w14.cell? ⟨gb353, 3, none⟩ = some (.int .i64 a0_3) := (zs BK353.out 3).trans rfl; have hfz15_0 := zx BK353.out 0; have hfz15_1 := zx BK353.out 1; have hfz15_2 := zx BK353.out 2; have hfz15_3 := zx BK353.out 3; obtain ⟨Ao16, co16, eo16⟩ := Kd.V_slice HO359.out; subst eo16) | ((with_reducible refine gate_store (t := 43) (p := 4) rfl ?_); refine store_event (t := 43) (p := 4) (v := ?vo_w17) (w1 := ((((w14.setCell ⟨gb353, 0, none⟩ (.int .u64 t355)).setCell ⟨gb353, 1, none⟩ (.int .u32 t356)).setCell ⟨gb353, 2, none⟩ (.slice Ao16 t357.length co16)).setCell ⟨gb353, 3, none⟩ (.int .i64 t360))) ?hg ?ho ?hn ?hr ?_; (case ho => rfl); (case hg => rfl); (case hn => rfl); (case hr => first | (go_simp; done) | (go_simp; rfl)); intro w17 hw; have n0_ : Aside0 (Kd.V (Kd.int .u8) 5 w17 w.heap.size (fun k_ => (P0_2_ k_ ∨ w.heap.size ≤ k_) ∧ k_ ≠ gb353 ∧ k_ ≠ gb354) (.slice A0_2 l0_2.length c0_2) l0_2) := ⟨(by rw [hw]; exact (by (with_reducible repeat (first | apply zA | apply zB | apply zC)); exact zy (zI (p := ⟨gb353, 3, none⟩) (zI (p := ⟨gb353, 2, none⟩) (zI (p := ⟨gb353, 1, none⟩) (zI (p := ⟨gb353, 0, none⟩) (zy HO0_2.out (fun k_ hk => (⟨hk, hk.1.2⟩ : _ ∧ k_ ≠ gb353))) (fun _ hk => hk.2) (.int .u64 t355)) (fun _ hk => hk.2) (.int .u32 t356)) (fun _ hk => hk.2) (.slice Ao16 t357.length co16)) (fun _ hk => hk.2) (.int .i64 t360)) (fun _ hk => ⟨hk.1.1.1, ⟨hk.1.1.2, hk.1.2⟩⟩)))⟩; have n1_ : Aside0 (Kd.V (Kd.int .u8) 5 w17 w.heap.size (fun k_ => (P0_2_ k_ ∨ w.heap.size ≤ k_) ∧ k_ ≠ gb353 ∧ k_ ≠ gb354) (.slice Ao16 t357.length co16) t357) := ⟨(by rw [hw]; exact (by (with_reducible repeat (first | apply zA | apply zB | apply zC)); exact zy (zI (p := ⟨gb353, 3, none⟩) (zI (p := ⟨gb353, 2, none⟩) (zI (p := ⟨gb353, 1, none⟩) (zI (p := ⟨gb353, 0, none⟩) (zy HO359.out (fun k_ hk => (⟨hk, hk.2.1⟩ : _ ∧ k_ ≠ gb353))) (fun _ hk => hk.2) (.int .u64 t355)) (fun _ hk => hk.2) (.int .u32 t356)) (fun _ hk => hk.2) (.slice Ao16 t357.length co16)) (fun _ hk => hk.2) (.int .i64 t360)) (fun _ hk => ⟨hk.1.1, ⟨hk.1.2.1, hk.1.2.2⟩⟩)))⟩; have n2_ : Aside0 (w17.heap[gb353]? = some (.cells #[.int .u64 t355, .int .u32 t356, .slice Ao16 t357.length co16, .int .i64 t360] 43 (0, 0))) := ⟨(by rw [hw]; exact (by (with_reducible repeat (first | refine zh ?_ _ | refine zj ?_ | refine zi ?_ _)); refine zw (cs := #[.int .u64 t355, .int .u32 t356, .slice Ao16 t357.length co16, .int .i64 a0_3]) ?_ 3 _ rfl; (with_reducible repeat (first | refine zh ?_ _ | refine zj ?_ | refine zi ?_ _)); refine zw (cs := #[.int .u64 t355, .int .u32 t356, .slice A0_2 l0_2.length c0_2, .int .i64 a0_3]) ?_ 2 _ rfl; (with_reducible repeat (first | refine zh ?_ _ | refine zj ?_ | refine zi ?_ _)); refine zw (cs := #[.int .u64 t355, .int .u32 a0_1, .slice A0_2 l0_2.length c0_2, .int .i64 a0_3]) ?_ 1 _ rfl; (with_reducible repeat (first | refine zh ?_ _ | refine zj ?_ | refine zi ?_ _)); refine zw (cs := #[.int .u64 a0_0, .int .u32 a0_1, .slice A0_2 l0_2.length c0_2, .int .i64 a0_3]) ?_ 0 _ rfl; (with_reducible repeat (first | refine zh ?_ _ | refine zj ?_ | refine zi ?_ _)); exact BK353.out))⟩; have n3_ : Aside0 (w17.heap[gb354]? = some (.cells #[.int .u64 0, .int .u32 0, .slice none 0 0, .int .i64 0] 43 (0, 0))) := ⟨(by rw [hw]; exact (by (with_reducible repeat (first | refine zh ?_ _ | refine zj ?_ | refine zi ?_ _)); refine zv ?_ NB354_353.out _; (with_reducible repeat (first | refine zh ?_ _ | refine zj ?_ | refine zi ?_ _)); refine zv ?_ NB354_353.out _; (with_reducible repeat (first | refine zh ?_ _ | refine zj ?_ | refine zi ?_ _)); refine zv ?_ NB354_353.out _; (with_reducible repeat (first | refine zh ?_ _ | refine zj ?_ | refine zi ?_ _)); refine zv ?_ NB354_353.out _; (with_reducible repeat (first | refine zh ?_ _ | refine zj ?_ | refine zi ?_ _)); exact BK354.out))⟩; have n4_ : Aside0 (Below w.heap.size w w17) := ⟨(by rw [hw]; exact (by repeat (first | (with_reducible first | exact HB.out | apply ze | apply zd | apply zf | refine zk ?_ GE353.out | refine zk ?_ GE354.out) | exact HB.out)))⟩; clear hw; clear HO0_2; clear HO359; clear BK353; clear BK354; clear HB; have HO0_2 := n0_; have HO359 := n1_; have BK353 := n2_; have BK354 := n3_; have HB := n4_; clear n0_ n1_ n2_ n3_ n4_) | ((with_reducible refine gate_callee (f := 52) rfl ?_); refine goesL_ (some 17) rfl rfl Try.func52 (by kernel_rfl) rfl #[.int .i64 a1, .int .i64 a2, .int .i64 a3] rfl (by (try simp only [List.map_toArray, List.map_cons, List.map_nil]); first | done | rfl | (simp only [List.length_drop, List.length_take]; rfl)) ?_; (with_reducible refine (coder_fair.calls a1 a2 a3 true _ A6.out).mono ?_); rintro e w' ⟨rfl, ⟨nd, rfl⟩⟩; refine ⟨_, rfl, ?_⟩; (try (rw [drewN_self w17]; generalize hq_ : World.drewN w17 _ = w17; have n0_ : Aside0 (Kd.V (Kd.int .u8) 5 w17 w.heap.size (fun k_ => (P0_2_ k_ ∨ w.heap.size ≤ k_) ∧ k_ ≠ gb353 ∧ k_ ≠ gb354) (.slice A0_2 l0_2.length c0_2) l0_2) := ⟨by rw [← hq_]; exact (by (with_reducible repeat (first | apply zA | apply zB | apply zC)); exact HO0_2.out)⟩; have n1_ : Aside0 (Kd.V (Kd.int .u8) 5 w17 w.heap.size (fun k_ => (P0_2_ k_ ∨ w.heap.size ≤ k_) ∧ k_ ≠ gb353 ∧ k_ ≠ gb354) (.slice Ao16 t357.length co16) t357) := ⟨by rw [← hq_]; exact (by (with_reducible repeat (first | apply zA | apply zB | apply zC)); exact HO359.out)⟩; have n2_ : Aside0 (w17.heap[gb353]? = some (.cells #[.int .u64 t355, .int .u32 t356, .slice Ao16 t357.length co16, .int .i64 t360] 43 (0, 0))) := ⟨by rw [← hq_]; exact (by (with_reducible repeat (first | refine zh ?_ _ | refine zj ?_ | refine zi ?_ _)); exact BK353.out)⟩; have n3_ : Aside0 (w17.heap[gb354]? = some (.cells #[.int .u64 0, .int .u32 0, .slice none 0 0, .int .i64 0] 43 (0, 0))) := ⟨by rw [← hq_]; exact (by (with_reducible repeat (first | refine zh ?_ _ | refine zj ?_ | refine zi ?_ _)); exact BK354.out)⟩; have n4_ : Aside0 (Below w.heap.size w w17) := ⟨by rw [← hq_]; exact (by repeat (first | (with_reducible first | exact HB.out | apply ze | apply zd | apply zf | refine zk ?_ GE353.out | refine zk ?_ GE354.out) | exact HB.out))⟩; clear HO0_2 HO359 BK353 BK354 HB hq_; have HO0_2 := n0_; have HO359 := n1_; have BK353 := n2_; have BK354 := n3_; have HB := n4_; clear n0_ n1_ n2_ n3_ n4_)); have hcz18_0 : w17.cell? ⟨gb353, 0, none⟩ = some (.int .u64 t355) := (zs BK353.out 0).trans rfl; have hcz18_1 : w17.cell? ⟨gb353, 1, none⟩ = some (.int .u32 t356) := (zs BK353.out 1).trans rfl; have hcz18_2 : w17.cell? ⟨gb353, 2, none⟩ = some (.slice Ao16 t357.length co16) := (zs BK353.out 2).trans rfl; have hcz18_3 : w17.cell? ⟨gb353, 3, none⟩ = some (.int .i64 t360) := (zs BK353.out 3).trans rfl; have hfz18_0 := zx BK353.out 0; have hfz18_1 := zx BK353.out 1; have hfz18_2 := zx BK353.out 2; have hfz18_3 := zx BK353.out 3) | ((with_reducible refine gate_callee (f := 53) rfl ?_); refine goesL_ (some 26) rfl rfl Try.func53 (by kernel_rfl) rfl #[.int .u32 t356, .int .i64 a1, .int .i64 a2, .int .i64 a3] rfl (by (try simp only [List.map_toArray, List.map_cons, List.map_nil]); first | done | rfl | (simp only [List.length_drop, List.length_take]; rfl)) ?_; (with_reducible refine (coder_part.calls t356 a1 a2 a3 t362 t363 _ A8.out).mono ?_); rintro e w' ⟨rfl, ⟨nd, rfl⟩⟩; refine ⟨_, rfl, ?_⟩; (try (rw [drewN_self w17]; generalize hq_ : World.drewN w17 _ = w17; have n0_ : Aside0 (Kd.V (Kd.int .u8) 5 w17 w.heap.size (fun k_ => (P0_2_ k_ ∨ w.heap.size ≤ k_) ∧ k_ ≠ gb353 ∧ k_ ≠ gb354) (.slice A0_2 l0_2.length c0_2) l0_2) := ⟨by rw [← hq_]; exact (by (with_reducible repeat (first | apply zA | apply zB | apply zC)); exact HO0_2.out)⟩; have n1_ : Aside0 (Kd.V (Kd.int .u8) 5 w17 w.heap.size (fun k_ => (P0_2_ k_ ∨ w.heap.size ≤ k_) ∧ k_ ≠ gb353 ∧ k_ ≠ gb354) (.slice Ao16 t357.length co16) t357) := ⟨by rw [← hq_]; exact (by (with_reducible repeat (first | apply zA | apply zB | apply zC)); exact HO359.out)⟩; have n2_ : Aside0 (w17.heap[gb353]? = some (.cells #[.int .u64 t355, .int .u32 t356, .slice Ao16 t357.length co16, .int .i64 t360] 43 (0, 0))) := ⟨by rw [← hq_]; exact (by (with_reducible repeat (first | refine zh ?_ _ | refine zj ?_ | refine zi ?_ _)); exact BK353.out)⟩; have n3_ : Aside0 (w17.heap[gb354]? = some (.cells #[.int .u64 0, .int .u32 0, .slice none 0 0, .int .i64 0] 43 (0, 0))) := ⟨by rw [← hq_]; exact (by (with_reducible repeat (first | refine zh ?_ _ | refine zj ?_ | refine zi ?_ _)); exact BK354.out)⟩; have n4_ : Aside0 (Below w.heap.size w w17) := ⟨by rw [← hq_]; exact (by repeat (first | (with_reducible first | exact HB.out | apply ze | apply zd | apply zf | refine zk ?_ GE353.out | refine zk ?_ GE354.out) | exact HB.out))⟩; clear HO0_2 HO359 BK353 BK354 HB hq_; have HO0_2 := n0_; have HO359 := n1_; have BK353 := n2_; have BK354 := n3_; have HB := n4_; clear n0_ n1_ n2_ n3_ n4_)); have hcz19_0 : w17.cell? ⟨gb353, 0, none⟩ = some (.int .u64 t355) := (zs BK353.out 0).trans rfl; have hcz19_1 : w17.cell? ⟨gb353, 1, none⟩ = some (.int .u32 t356) := (zs BK353.out 1).trans rfl; have hcz19_2 : w17.cell? ⟨gb353, 2, none⟩ = some (.slice Ao16 t357.length co16) := (zs BK353.out 2).trans rfl; have hcz19_3 : w17.cell? ⟨gb353, 3, none⟩ = some (.int .i64 t360) := (zs BK353.out 3).trans rfl; have hfz19_0 := zx BK353.out 0; have hfz19_1 := zx BK353.out 1; have hfz19_2 := zx BK353.out 2; have hfz19_3 := zx BK353.out 3))
  go_loopg [10] k (fun kq v10 w' => ∃ (x10_1 : Int) (x354000_1 : Int) (x354003_1 : Int), v10 = .int .u32 x10_1 ∧ Aside0 (coder_Take.l0 kq x10_1 x354000_1 t356 t357 x354003_1 = some (r1, r2, r3, r4, r5)) ∧ Aside0 (kq ≤ k) ∧ Aside0 (Kd.V (Kd.int .u8) 5 w' w.heap.size (fun k_ => (P0_2_ k_ ∨ w.heap.size ≤ k_) ∧ k_ ≠ gb353 ∧ k_ ≠ gb354) (.slice Ao16 t357.length co16) t357) ∧ Aside0 (w'.heap[gb353]? = some (.cells #[.int .u64 x354000_1, .int .u32 t356, (.slice Ao16 t357.length co16), .int .i64 x354003_1] 43 (0, 0))) ∧ Aside0 (w'.heap[gb354]? = some (.cells #[.int .u64 0, .int .u32 0, (.slice none 0 0), .int .i64 0] 43 (0, 0))) ∧ Aside0 (Below w.heap.size w w'))
  case atStart => exact ⟨(t362), (IntKind.u64.wrap (t355 - (ji9))), (t360), (by first | rfl | (simp; done) | (simp [*]; done)), H', ⟨Nat.le_refl _⟩, ⟨by (with_reducible repeat (first | apply zA | apply zB | apply zC)); exact zy (zI (p := ⟨gb353, 0, none⟩) (zy HO359.out (fun k_ hk => (⟨hk, hk.2.1⟩ : _ ∧ k_ ≠ gb353))) (fun _ hk => hk.2) (.int .u64 (IntKind.u64.wrap (t355 - (ji9))))) (fun _ hk => ⟨hk.1.1, ⟨hk.1.2.1, hk.1.2.2⟩⟩)⟩, ⟨by (with_reducible repeat (first | refine zh ?_ _ | refine zj ?_ | refine zi ?_ _)); refine zw (cs := #[.int .u64 t355, .int .u32 t356, .slice Ao16 t357.length co16, .int .i64 t360]) ?_ 0 _ rfl; (with_reducible repeat (first | refine zh ?_ _ | refine zj ?_ | refine zi ?_ _)); exact BK353.out⟩, ⟨by (with_reducible repeat (first | refine zh ?_ _ | refine zj ?_ | refine zi ?_ _)); refine zv ?_ NB354_353.out _; (with_reducible repeat (first | refine zh ?_ _ | refine zj ?_ | refine zi ?_ _)); exact BK354.out⟩, ⟨by repeat (first | (with_reducible first | exact HB.out | apply ze | apply zd | apply zf | refine zk ?_ GE353.out | refine zk ?_ GE354.out) | exact HB.out)⟩⟩
  case round =>
   clear H'
   try clear c1
   try clear p2
   try clear c3
   try clear c5
   try clear c6
   try clear c7
   try clear c12
   try clear hcz13_0
   try clear hcz13_1
   try clear hcz13_2
   try clear hcz13_3
   try clear hcz15_0
   try clear hcz15_1
   try clear hcz15_2
   try clear hcz15_3
   try clear hcz18_0
   try clear hcz18_1
   try clear hcz18_2
   try clear hcz18_3
   try clear hcz19_0
   try clear hcz19_1
   try clear hcz19_2
   try clear hcz19_3
   try clear hfz13_0
   try clear hfz13_1
   try clear hfz13_2
   try clear hfz13_3
   try clear hfz15_0
   try clear hfz15_1
   try clear hfz15_2
   try clear hfz15_3
   try clear hfz18_0
   try clear hfz18_1
   try clear hfz18_2
   try clear hfz18_3
   try clear hfz19_0
   try clear hfz19_1
   try clear hfz19_2
   try clear hfz19_3
   obtain ⟨x10_1, x354000_1, x354003_1, rfl, HA, HK1, HO_354002, BK353, BK354, HB⟩ := hrel
   cases gk with
   | zero => exact absurd HA.out (by simp [coder_Take.l0])
   | succ k1 =>
    have H := HA.out
    clear HA
    simp only [coder_Take.l0] at H
    by_cases c20 : x10_1 < 16777216
    ·
     rw [if_pos c20] at H
     have c20b0 : decide (x10_1 < 16777216) = true := decide_eq_true c20
     clear c20
     replace H := Option.bind_eq_some_iff.mp H
     obtain ⟨t364, A210, H⟩ := H
     replace H : (if x354003_1 < (t357.length : Int) then (coder_Take.l0 k1 ((x10_1 * 256) % 4294967296) (Go.bits .or .u64 (Go.bits .and .u64 (IntKind.u64.wrap (x354000_1 * 256)) 4294967295) t364) t356 t357 (wrap64 (x354003_1 + 1))) else (coder_Take.l0 k1 ((x10_1 * 256) % 4294967296) (Go.bits .or .u64 (Go.bits .and .u64 (IntKind.u64.wrap (x354000_1 * 256)) 4294967295) t364) t356 t357 x354003_1)) = some (r1, r2, r3, r4, r5) := H
     have A21 := zm A210
     clear A210
     by_cases c22 : x354003_1 < (t357.length : Int)
     ·
      rw [if_pos c22] at H
      have c22b0 : decide (x354003_1 < (t357.length : Int)) = true := decide_eq_true c22
      clear c22
      have H' := zm H
      clear H
      try go_wp2
      have n0_ := zm (zC HO_354002.out)
      have n1_ := zm (zj BK353.out)
      have n2_ := zm (zj BK354.out)
      have n3_ := zm (zf HB.out)
      clear HO_354002
      clear BK353
      clear BK354
      clear HB
      have HO_354002 := n0_
      have BK353 := n1_
      have BK354 := n2_
      have HB := n3_
      clear n0_ n1_ n2_ n3_
      refine start_ (n := 12) (S := fun w' => w'.cell? ⟨gb353, 0, none⟩ = some (.int .u64 x354000_1) ∧ w'.cell? ⟨gb353, 1, none⟩ = some (.int .u32 t356) ∧ w'.cell? ⟨gb353, 2, none⟩ = some (.slice Ao16 t357.length co16) ∧ w'.cell? ⟨gb353, 3, none⟩ = some (.int .i64 x354003_1)) (ds := [11]) #[false, false, false, false, false, false, false, false, false, false, false, false] (by kernel_rfl) rfl rfl ⟨(zs BK353.out 0).trans rfl, (zs BK353.out 1).trans rfl, (zs BK353.out 2).trans rfl, (zs BK353.out 3).trans rfl⟩ (fun hHeld => ?_); refine with_tabW coder_Take.tab7 coder_Take.bits7 (fun HT_ HW_ => ?_)
      generalize wr.drew = w23 at HO_354002 BK353 BK354 HB hHeld ⊢
      refine pure_ (i := 0) (N := some 39) (v := ?_) (a' := ?_) #[true, false, false, false, false, false, false, false, false, false, false, false] rfl rfl (any_of HT_.out (by kernel_rfl)) (fun _ _ _ h => h) (Or.inl ⟨by rfl, ?_⟩) ?_ ?_
      rotate_left
      ·
       intro w'
       go_simp
       with_reducible rfl
      rotate_left
      ·
       simp only [Act.put, List.setIfInBounds_toArray, List.set_cons_zero, List.set_cons_succ, i64_w, i32_w]
       rfl
      refine pure_ (i := 4) (N := some 43) (v := ?_) (a' := ?_) #[true, false, false, false, true, false, false, false, false, false, false, false] rfl rfl (any_of HT_.out (by kernel_rfl)) (fun _ _ _ h => h) (Or.inl ⟨by rfl, ?_⟩) ?_ ?_
      rotate_left
      ·
       intro w'
       go_simp
       with_reducible rfl
      rotate_left
      ·
       simp only [Act.put, List.setIfInBounds_toArray, List.set_cons_zero, List.set_cons_succ, i64_w, i32_w]
       rfl
      refine pure_ (i := 6) (N := some 45) (v := ?_) (a' := ?_) #[true, false, false, false, true, false, true, false, false, false, false, false] rfl rfl (any_of HT_.out (by kernel_rfl)) (fun _ _ _ h => h) (Or.inl ⟨by rfl, ?_⟩) ?_ ?_
      rotate_left
      ·
       intro w'
       go_simp
       with_reducible rfl
      rotate_left
      ·
       simp only [Act.put, List.setIfInBounds_toArray, List.set_cons_zero, List.set_cons_succ, i64_w, i32_w]
       rfl
      refine take_ (i := 1) (N := some 40) (v := ?_) (a' := ?_) #[true, true, false, false, true, false, true, false, false, false, false, false] rfl rfl (take_ofW HT_.out HW_.out (by kernel_rfl)) (fun _ _ _ h => h) (Or.inl ⟨by rfl, ?_⟩) hHeld ?_ ?_
      rotate_left
      ·
       rintro w' ⟨s0, s1, s2, s3⟩
       go_simp
       with_reducible rfl
      rotate_left
      ·
       simp only [Act.put, List.setIfInBounds_toArray, List.set_cons_zero, List.set_cons_succ, i64_w, i32_w]
       rfl
      refine pure_ (i := 2) (N := some 41) (v := ?_) (a' := ?_) #[true, true, true, false, true, false, true, false, false, false, false, false] rfl rfl (any_of HT_.out (by kernel_rfl)) (fun _ _ _ h => h) (Or.inl ⟨by rfl, ?_⟩) ?_ ?_
      rotate_left
      ·
       intro w'
       go_simp
       with_reducible rfl
      rotate_left
      ·
       simp only [Act.put, List.setIfInBounds_toArray, List.set_cons_zero, List.set_cons_succ, i64_w, i32_w]
       rfl
      refine pure_ (i := 3) (N := some 42) (v := ?_) (a' := ?_) #[true, true, true, true, true, false, true, false, false, false, false, false] rfl rfl (any_of HT_.out (by kernel_rfl)) (fun _ _ _ h => h) (Or.inl ⟨by rfl, ?_⟩) ?_ ?_
      rotate_left
      ·
       intro w'
       go_simp
       with_reducible rfl
      rotate_left
      ·
       simp only [Act.put, List.setIfInBounds_toArray, List.set_cons_zero, List.set_cons_succ, i64_w, i32_w]
       rfl
      refine take_ (i := 5) (N := some 44) (v := ?_) (a' := ?_) #[true, true, true, true, true, true, true, false, false, false, false, false] rfl rfl (take_ofW HT_.out HW_.out (by kernel_rfl)) (fun _ _ _ h => h) (Or.inl ⟨by rfl, ?_⟩) hHeld ?_ ?_
      rotate_left
      ·
       rintro w' ⟨s0, s1, s2, s3⟩
       go_simp
       with_reducible rfl
      rotate_left
      ·
       simp only [Act.put, List.setIfInBounds_toArray, List.set_cons_zero, List.set_cons_succ, i64_w, i32_w]
       rfl
      refine take_ (i := 7) (N := some 46) (v := ?_) (a' := ?_) #[true, true, true, true, true, true, true, true, false, false, false, false] rfl rfl (take_ofW HT_.out HW_.out (by kernel_rfl)) (fun _ _ _ h => h) (Or.inl ⟨by rfl, ?_⟩) hHeld ?_ ?_
      rotate_left
      ·
       rintro w' ⟨s0, s1, s2, s3⟩
       go_simp
       with_reducible rfl
      rotate_left
      ·
       simp only [Act.put, List.setIfInBounds_toArray, List.set_cons_zero, List.set_cons_succ, i64_w, i32_w]
       rfl
      refine one_ (i := 8) (N := some 47) #[true, true, true, true, true, true, true, true, true, false, false, false] rfl rfl (one_of HT_.out (by kernel_rfl)) (by decide) (fun K hK => ?_)
      refine goes_ Try.func58 (by kernel_rfl) rfl #[.slice Ao16 t357.length co16, .int .i64 x354003_1] (by rfl) rfl rfl (by (try simp only [List.map_toArray, List.map_cons, List.map_nil]); first | done | rfl | (simp only [List.length_drop, List.length_take]; rfl)) ?_
      with_reducible refine (coder_at.calls _ _ t357 x354003_1 t364 _ ?side1 ?side2 A21.out).mono ?_
      (case side1 => repeat (first | exact (Kd.V_reads' HO_354002.out).2.2 | (with_reducible refine Kd.C_alloc ?_ _) | (with_reducible refine Kd.C_drewN ?_ _) | (with_reducible refine Kd.C_drew ?_)))
      (case side2 => exact (Kd.V_reads' HO_354002.out).2.1)
      rintro e w' ⟨rfl, ⟨nd, rfl⟩⟩
      refine ⟨_, rfl, ?_⟩
      refine hK.out _ _ ⟨(zs BK353.out 0).trans rfl, (zs BK353.out 1).trans rfl, (zs BK353.out 2).trans rfl, (zs BK353.out 3).trans rfl⟩ (fun hHeld => ?_)
      clear hK K
      refine norm_ (a' := ?_) ?_ ?_
      rotate_left
      ·
       show Act.put _ (some 47) _ = _
       simp only [Act.put, List.setIfInBounds_toArray, List.set_cons_zero, List.set_cons_succ, i64_w, i32_w]
       rfl
      refine pure_ (i := 9) (N := some 48) (v := ?_) (a' := ?_) #[true, true, true, true, true, true, true, true, true, true, false, false] rfl rfl (any_of HT_.out (by kernel_rfl)) (fun _ _ _ h => h) (Or.inl ⟨by rfl, ?_⟩) ?_ ?_
      rotate_left
      ·
       intro w'
       go_simp
       with_reducible rfl
      rotate_left
      ·
       simp only [Act.put, List.setIfInBounds_toArray, List.set_cons_zero, List.set_cons_succ, i64_w, i32_w]
       rfl
      refine pure_ (i := 10) (N := some 49) (v := ?_) (a' := ?_) #[true, true, true, true, true, true, true, true, true, true, true, false] rfl rfl (any_of HT_.out (by kernel_rfl)) (fun _ _ _ h => h) (Or.inl ⟨by rfl, ?_⟩) ?_ ?_
      rotate_left
      ·
       intro w'
       go_simp
       with_reducible rfl
      rotate_left
      ·
       simp only [Act.put, List.setIfInBounds_toArray, List.set_cons_zero, List.set_cons_succ, i64_w, i32_w]
       rfl
      refine last_ (i := 11) (N := none) #[true, true, true, true, true, true, true, true, true, true, true, true] rfl rfl (one_of HT_.out (by kernel_rfl)) (by decide) (fun K hK => ?_)
      have hs24 : w23.cell? ⟨gb353, 0, none⟩ = some (.int .u64 x354000_1) := (zs BK353.out 0).trans rfl
      have hfs24 := zx BK353.out 0
      have hns24_1 := NB354_353.out
      have hms24_1 := NB353_354.out
      refine skip_ (w1 := ?_) (by rfl) rfl ?_ ?_
      rotate_left
      ·
       go_simp
       rfl
      refine hK.out _ _ ?_
      clear hK K
      refine done_ (done_of HT_.out (by kernel_rfl)) ?_
      have hnb25 := NB353_354.out
      have hnc25 := NB354_353.out
      have hcz26_0 : w23.cell? ⟨gb353, 0, none⟩ = some (.int .u64 x354000_1) := (zs BK353.out 0).trans rfl
      have hcz26_1 : w23.cell? ⟨gb353, 1, none⟩ = some (.int .u32 t356) := (zs BK353.out 1).trans rfl
      have hcz26_2 : w23.cell? ⟨gb353, 2, none⟩ = some (.slice Ao16 t357.length co16) := (zs BK353.out 2).trans rfl
      have hcz26_3 : w23.cell? ⟨gb353, 3, none⟩ = some (.int .i64 x354003_1) := (zs BK353.out 3).trans rfl
      have hfz26_0 := zx BK353.out 0
      have hfz26_1 := zx BK353.out 1
      have hfz26_2 := zx BK353.out 2
      have hfz26_3 := zx BK353.out 3
      try go_wp2
      go_roundg k1
      case measure => have := HK1.out; omega
      case rel => exact ⟨((x10_1 * 256) % 4294967296), (Go.bits .or .u64 (Go.bits .and .u64 (IntKind.u64.wrap (x354000_1 * 256)) 4294967295) t364), (wrap64 (x354003_1 + 1)), (by first | rfl | (simp; done) | (simp [*]; done)), H', ⟨by have := HK1.out; omega⟩, ⟨by (with_reducible repeat (first | apply zA | apply zB | apply zC)); exact zy (zI (p := ⟨gb353, 3, none⟩) (zI (p := ⟨gb353, 0, none⟩) (zy HO_354002.out (fun k_ hk => (⟨hk, hk.2.1⟩ : _ ∧ k_ ≠ gb353))) (fun _ hk => hk.2) (.int .u64 (Go.bits .or .u64 (Go.bits .and .u64 (IntKind.u64.wrap (x354000_1 * 256)) 4294967295) t364))) (fun _ hk => hk.2) (.int .i64 (wrap64 (x354003_1 + 1)))) (fun _ hk => ⟨hk.1.1, ⟨hk.1.2.1, hk.1.2.2⟩⟩)⟩, ⟨by (with_reducible repeat (first | refine zh ?_ _ | refine zj ?_ | refine zi ?_ _)); refine zw (cs := #[.int .u64 (Go.bits .or .u64 (Go.bits .and .u64 (IntKind.u64.wrap (x354000_1 * 256)) 4294967295) t364), .int .u32 t356, .slice Ao16 t357.length co16, .int .i64 x354003_1]) ?_ 3 _ rfl; (with_reducible repeat (first | refine zh ?_ _ | refine zj ?_ | refine zi ?_ _)); refine zw (cs := #[.int .u64 x354000_1, .int .u32 t356, .slice Ao16 t357.length co16, .int .i64 x354003_1]) ?_ 0 _ rfl; (with_reducible repeat (first | refine zh ?_ _ | refine zj ?_ | refine zi ?_ _)); exact BK353.out⟩, ⟨by (with_reducible repeat (first | refine zh ?_ _ | refine zj ?_ | refine zi ?_ _)); refine zv ?_ NB354_353.out _; (with_reducible repeat (first | refine zh ?_ _ | refine zj ?_ | refine zi ?_ _)); refine zv ?_ NB354_353.out _; (with_reducible repeat (first | refine zh ?_ _ | refine zj ?_ | refine zi ?_ _)); exact BK354.out⟩, ⟨by repeat (first | (with_reducible first | exact HB.out | apply ze | apply zd | apply zf | refine zk ?_ GE353.out | refine zk ?_ GE354.out) | exact HB.out)⟩⟩
     ·
      rw [if_neg c22] at H
      have c22b0 : decide (x354003_1 < (t357.length : Int)) = false := decide_eq_false c22
      clear c22
      have H' := zm H
      clear H
      try go_wp2
      have n0_ := zm (zC HO_354002.out)
      have n1_ := zm (zj BK353.out)
      have n2_ := zm (zj BK354.out)
      have n3_ := zm (zf HB.out)
      clear HO_354002
      clear BK353
      clear BK354
      clear HB
      have HO_354002 := n0_
      have BK353 := n1_
      have BK354 := n2_
      have HB := n3_
      clear n0_ n1_ n2_ n3_
      refine start_ (n := 12) (S := fun w' => w'.cell? ⟨gb353, 0, none⟩ = some (.int .u64 x354000_1) ∧ w'.cell? ⟨gb353, 1, none⟩ = some (.int .u32 t356) ∧ w'.cell? ⟨gb353, 2, none⟩ = some (.slice Ao16 t357.length co16) ∧ w'.cell? ⟨gb353, 3, none⟩ = some (.int .i64 x354003_1)) (ds := [11]) #[false, false, false, false, false, false, false, false, false, false, false, false] (by kernel_rfl) rfl rfl ⟨(zs BK353.out 0).trans rfl, (zs BK353.out 1).trans rfl, (zs BK353.out 2).trans rfl, (zs BK353.out 3).trans rfl⟩ (fun hHeld => ?_); refine with_tabW coder_Take.tab7 coder_Take.bits7 (fun HT_ HW_ => ?_)
      generalize wr.drew = w27 at HO_354002 BK353 BK354 HB hHeld ⊢
      refine pure_ (i := 0) (N := some 39) (v := ?_) (a' := ?_) #[true, false, false, false, false, false, false, false, false, false, false, false] rfl rfl (any_of HT_.out (by kernel_rfl)) (fun _ _ _ h => h) (Or.inl ⟨by rfl, ?_⟩) ?_ ?_
      rotate_left
      ·
       intro w'
       go_simp
       with_reducible rfl
      rotate_left
      ·
       simp only [Act.put, List.setIfInBounds_toArray, List.set_cons_zero, List.set_cons_succ, i64_w, i32_w]
       rfl
      refine pure_ (i := 4) (N := some 43) (v := ?_) (a' := ?_) #[true, false, false, false, true, false, false, false, false, false, false, false] rfl rfl (any_of HT_.out (by kernel_rfl)) (fun _ _ _ h => h) (Or.inl ⟨by rfl, ?_⟩) ?_ ?_
      rotate_left
      ·
       intro w'
       go_simp
       with_reducible rfl
      rotate_left
      ·
       simp only [Act.put, List.setIfInBounds_toArray, List.set_cons_zero, List.set_cons_succ, i64_w, i32_w]
       rfl
      refine pure_ (i := 6) (N := some 45) (v := ?_) (a' := ?_) #[true, false, false, false, true, false, true, false, false, false, false, false] rfl rfl (any_of HT_.out (by kernel_rfl)) (fun _ _ _ h => h) (Or.inl ⟨by rfl, ?_⟩) ?_ ?_
      rotate_left
      ·
       intro w'
       go_simp
       with_reducible rfl
      rotate_left
      ·
       simp only [Act.put, List.setIfInBounds_toArray, List.set_cons_zero, List.set_cons_succ, i64_w, i32_w]
       rfl
      refine take_ (i := 1) (N := some 40) (v := ?_) (a' := ?_) #[true, true, false, false, true, false, true, false, false, false, false, false] rfl rfl (take_ofW HT_.out HW_.out (by kernel_rfl)) (fun _ _ _ h => h) (Or.inl ⟨by rfl, ?_⟩) hHeld ?_ ?_
      rotate_left
      ·
       rintro w' ⟨s0, s1, s2, s3⟩
       go_simp
       with_reducible rfl
      rotate_left
      ·
       simp only [Act.put, List.setIfInBounds_toArray, List.set_cons_zero, List.set_cons_succ, i64_w, i32_w]
       rfl
      refine pure_ (i := 2) (N := some 41) (v := ?_) (a' := ?_) #[true, true, true, false, true, false, true, false, false, false, false, false] rfl rfl (any_of HT_.out (by kernel_rfl)) (fun _ _ _ h => h) (Or.inl ⟨by rfl, ?_⟩) ?_ ?_
      rotate_left
      ·
       intro w'
       go_simp
       with_reducible rfl
      rotate_left
      ·
       simp only [Act.put, List.setIfInBounds_toArray, List.set_cons_zero, List.set_cons_succ, i64_w, i32_w]
       rfl
      refine pure_ (i := 3) (N := some 42) (v := ?_) (a' := ?_) #[true, true, true, true, true, false, true, false, false, false, false, false] rfl rfl (any_of HT_.out (by kernel_rfl)) (fun _ _ _ h => h) (Or.inl ⟨by rfl, ?_⟩) ?_ ?_
      rotate_left
      ·
       intro w'
       go_simp
       with_reducible rfl
      rotate_left
      ·
       simp only [Act.put, List.setIfInBounds_toArray, List.set_cons_zero, List.set_cons_succ, i64_w, i32_w]
       rfl
      refine take_ (i := 5) (N := some 44) (v := ?_) (a' := ?_) #[true, true, true, true, true, true, true, false, false, false, false, false] rfl rfl (take_ofW HT_.out HW_.out (by kernel_rfl)) (fun _ _ _ h => h) (Or.inl ⟨by rfl, ?_⟩) hHeld ?_ ?_
      rotate_left
      ·
       rintro w' ⟨s0, s1, s2, s3⟩
       go_simp
       with_reducible rfl
      rotate_left
      ·
       simp only [Act.put, List.setIfInBounds_toArray, List.set_cons_zero, List.set_cons_succ, i64_w, i32_w]
       rfl
      refine take_ (i := 7) (N := some 46) (v := ?_) (a' := ?_) #[true, true, true, true, true, true, true, true, false, false, false, false] rfl rfl (take_ofW HT_.out HW_.out (by kernel_rfl)) (fun _ _ _ h => h) (Or.inl ⟨by rfl, ?_⟩) hHeld ?_ ?_
      rotate_left
      ·
       rintro w' ⟨s0, s1, s2, s3⟩
       go_simp
       with_reducible rfl
      rotate_left
      ·
       simp only [Act.put, List.setIfInBounds_toArray, List.set_cons_zero, List.set_cons_succ, i64_w, i32_w]
       rfl
      refine one_ (i := 8) (N := some 47) #[true, true, true, true, true, true, true, true, true, false, false, false] rfl rfl (one_of HT_.out (by kernel_rfl)) (by decide) (fun K hK => ?_)
      refine goes_ Try.func58 (by kernel_rfl) rfl #[.slice Ao16 t357.length co16, .int .i64 x354003_1] (by rfl) rfl rfl (by (try simp only [List.map_toArray, List.map_cons, List.map_nil]); first | done | rfl | (simp only [List.length_drop, List.length_take]; rfl)) ?_
      with_reducible refine (coder_at.calls _ _ t357 x354003_1 t364 _ ?side1 ?side2 A21.out).mono ?_
      (case side1 => repeat (first | exact (Kd.V_reads' HO_354002.out).2.2 | (with_reducible refine Kd.C_alloc ?_ _) | (with_reducible refine Kd.C_drewN ?_ _) | (with_reducible refine Kd.C_drew ?_)))
      (case side2 => exact (Kd.V_reads' HO_354002.out).2.1)
      rintro e w' ⟨rfl, ⟨nd, rfl⟩⟩
      refine ⟨_, rfl, ?_⟩
      refine hK.out _ _ ⟨(zs BK353.out 0).trans rfl, (zs BK353.out 1).trans rfl, (zs BK353.out 2).trans rfl, (zs BK353.out 3).trans rfl⟩ (fun hHeld => ?_)
      clear hK K
      refine norm_ (a' := ?_) ?_ ?_
      rotate_left
      ·
       show Act.put _ (some 47) _ = _
       simp only [Act.put, List.setIfInBounds_toArray, List.set_cons_zero, List.set_cons_succ, i64_w, i32_w]
       rfl
      refine pure_ (i := 9) (N := some 48) (v := ?_) (a' := ?_) #[true, true, true, true, true, true, true, true, true, true, false, false] rfl rfl (any_of HT_.out (by kernel_rfl)) (fun _ _ _ h => h) (Or.inl ⟨by rfl, ?_⟩) ?_ ?_
      rotate_left
      ·
       intro w'
       go_simp
       with_reducible rfl
      rotate_left
      ·
       simp only [Act.put, List.setIfInBounds_toArray, List.set_cons_zero, List.set_cons_succ, i64_w, i32_w]
       rfl
      refine pure_ (i := 10) (N := some 49) (v := ?_) (a' := ?_) #[true, true, true, true, true, true, true, true, true, true, true, false] rfl rfl (any_of HT_.out (by kernel_rfl)) (fun _ _ _ h => h) (Or.inl ⟨by rfl, ?_⟩) ?_ ?_
      rotate_left
      ·
       intro w'
       go_simp
       with_reducible rfl
      rotate_left
      ·
       simp only [Act.put, List.setIfInBounds_toArray, List.set_cons_zero, List.set_cons_succ, i64_w, i32_w]
       rfl
      refine last_ (i := 11) (N := none) #[true, true, true, true, true, true, true, true, true, true, true, true] rfl rfl (one_of HT_.out (by kernel_rfl)) (by decide) (fun K hK => ?_)
      have hs28 : w27.cell? ⟨gb353, 0, none⟩ = some (.int .u64 x354000_1) := (zs BK353.out 0).trans rfl
      have hfs28 := zx BK353.out 0
      have hns28_1 := NB354_353.out
      have hms28_1 := NB353_354.out
      refine skip_ (w1 := ?_) (by rfl) rfl ?_ ?_
      rotate_left
      ·
       go_simp
       rfl
      refine hK.out _ _ ?_
      clear hK K
      refine done_ (done_of HT_.out (by kernel_rfl)) ?_
      have hnb29 := NB353_354.out
      have hnc29 := NB354_353.out
      have hcz30_0 : w27.cell? ⟨gb353, 0, none⟩ = some (.int .u64 x354000_1) := (zs BK353.out 0).trans rfl
      have hcz30_1 : w27.cell? ⟨gb353, 1, none⟩ = some (.int .u32 t356) := (zs BK353.out 1).trans rfl
      have hcz30_2 : w27.cell? ⟨gb353, 2, none⟩ = some (.slice Ao16 t357.length co16) := (zs BK353.out 2).trans rfl
      have hcz30_3 : w27.cell? ⟨gb353, 3, none⟩ = some (.int .i64 x354003_1) := (zs BK353.out 3).trans rfl
      have hfz30_0 := zx BK353.out 0
      have hfz30_1 := zx BK353.out 1
      have hfz30_2 := zx BK353.out 2
      have hfz30_3 := zx BK353.out 3
      try go_wp2
      go_roundg k1
      case measure => have := HK1.out; omega
      case rel => exact ⟨((x10_1 * 256) % 4294967296), (Go.bits .or .u64 (Go.bits .and .u64 (IntKind.u64.wrap (x354000_1 * 256)) 4294967295) t364), (x354003_1), (by first | rfl | (simp; done) | (simp [*]; done)), H', ⟨by have := HK1.out; omega⟩, ⟨by (with_reducible repeat (first | apply zA | apply zB | apply zC)); exact zy (zI (p := ⟨gb353, 0, none⟩) (zy HO_354002.out (fun k_ hk => (⟨hk, hk.2.1⟩ : _ ∧ k_ ≠ gb353))) (fun _ hk => hk.2) (.int .u64 (Go.bits .or .u64 (Go.bits .and .u64 (IntKind.u64.wrap (x354000_1 * 256)) 4294967295) t364))) (fun _ hk => ⟨hk.1.1, ⟨hk.1.2.1, hk.1.2.2⟩⟩)⟩, ⟨by (with_reducible repeat (first | refine zh ?_ _ | refine zj ?_ | refine zi ?_ _)); refine zw (cs := #[.int .u64 x354000_1, .int .u32 t356, .slice Ao16 t357.length co16, .int .i64 x354003_1]) ?_ 0 _ rfl; (with_reducible repeat (first | refine zh ?_ _ | refine zj ?_ | refine zi ?_ _)); exact BK353.out⟩, ⟨by (with_reducible repeat (first | refine zh ?_ _ | refine zj ?_ | refine zi ?_ _)); refine zv ?_ NB354_353.out _; (with_reducible repeat (first | refine zh ?_ _ | refine zj ?_ | refine zi ?_ _)); exact BK354.out⟩, ⟨by repeat (first | (with_reducible first | exact HB.out | apply ze | apply zd | apply zf | refine zk ?_ GE353.out | refine zk ?_ GE354.out) | exact HB.out)⟩⟩
    ·
     rw [if_neg c20] at H
     have c20b0 : decide (x10_1 < 16777216) = false := decide_eq_false c20
     clear c20
     simp only [Option.some.injEq, Prod.mk.injEq] at H
     obtain ⟨rfl, rfl, rfl, rfl, rfl⟩ := H
     have hnb31 := NB353_354.out
     have hnc31 := NB354_353.out
     have hcz32_0 : wr.cell? ⟨gb353, 0, none⟩ = some (.int .u64 x354000_1) := (zs BK353.out 0).trans rfl
     have hcz32_1 : wr.cell? ⟨gb353, 1, none⟩ = some (.int .u32 t356) := (zs BK353.out 1).trans rfl
     have hcz32_2 : wr.cell? ⟨gb353, 2, none⟩ = some (.slice Ao16 t357.length co16) := (zs BK353.out 2).trans rfl
     have hcz32_3 : wr.cell? ⟨gb353, 3, none⟩ = some (.int .i64 x354003_1) := (zs BK353.out 3).trans rfl
     have hfz32_0 := zx BK353.out 0
     have hfz32_1 := zx BK353.out 1
     have hfz32_2 := zx BK353.out 2
     have hfz32_3 := zx BK353.out 3
     have hcz33_0 : wr.cell? ⟨gb354, 0, none⟩ = some (.int .u64 0) := (zs BK354.out 0).trans rfl
     have hcz33_1 : wr.cell? ⟨gb354, 1, none⟩ = some (.int .u32 0) := (zs BK354.out 1).trans rfl
     have hcz33_2 : wr.cell? ⟨gb354, 2, none⟩ = some (.slice none 0 0) := (zs BK354.out 2).trans rfl
     have hcz33_3 : wr.cell? ⟨gb354, 3, none⟩ = some (.int .i64 0) := (zs BK354.out 3).trans rfl
     have hfz33_0 := zx BK354.out 0
     have hfz33_1 := zx BK354.out 1
     have hfz33_2 := zx BK354.out 2
     have hfz33_3 := zx BK354.out 3
     go_wp2
     refine bodyPost_ret (results_ct rfl _ _ gb354 43 #[.int .u64 x354000_1, .int .u32 x10_1, .slice Ao16 t357.length co16, .int .i64 x354003_1] (0, 0) _ rfl (by (with_reducible repeat (first | refine zh ?_ _ | refine zj ?_ | refine zi ?_ _)); refine zw (cs := #[.int .u64 x354000_1, .int .u32 x10_1, .slice Ao16 t357.length co16, .int .i64 0]) ?_ 3 _ rfl; (with_reducible repeat (first | refine zh ?_ _ | refine zj ?_ | refine zi ?_ _)); refine zw (cs := #[.int .u64 x354000_1, .int .u32 x10_1, .slice none 0 0, .int .i64 0]) ?_ 2 _ rfl; (with_reducible repeat (first | refine zh ?_ _ | refine zj ?_ | refine zi ?_ _)); refine zw (cs := #[.int .u64 x354000_1, .int .u32 0, .slice none 0 0, .int .i64 0]) ?_ 1 _ rfl; (with_reducible repeat (first | refine zh ?_ _ | refine zj ?_ | refine zi ?_ _)); refine zw (cs := #[.int .u64 0, .int .u32 0, .slice none 0 0, .int .i64 0]) ?_ 0 _ rfl; (with_reducible repeat (first | refine zh ?_ _ | refine zj ?_ | refine zi ?_ _)); refine zv ?_ NB354_353.out _; (with_reducible repeat (first | refine zh ?_ _ | refine zj ?_ | refine zi ?_ _)); exact BK354.out) Try.underlying43 rfl (by kernel_rfl)) rfl ?_
     exact ⟨_, by first | rfl | (simp [errW_none, errW_some] <;> rfl) | (simp only [← hji9]; first | rfl | (simp [errW_none, errW_some] <;> rfl)) | (simp [*, errW_none, errW_some] <;> rfl), by (with_reducible repeat (first | apply zA | apply zB | apply zC)); exact zy (zI (p := ⟨gb354, 3, none⟩) (zI (p := ⟨gb354, 2, none⟩) (zI (p := ⟨gb354, 1, none⟩) (zI (p := ⟨gb354, 0, none⟩) (zI (p := ⟨gb353, 1, none⟩) (zy (zy HO_354002.out (fun k_ hk => (⟨hk, hk.2.1⟩ : _ ∧ k_ ≠ gb353))) (fun k_ hk => (⟨hk, hk.1.2.2⟩ : _ ∧ k_ ≠ gb354))) (fun _ hk => hk.1.2) (.int .u32 x10_1)) (fun _ hk => hk.2) (.int .u64 x354000_1)) (fun _ hk => hk.2) (.int .u32 x10_1)) (fun _ hk => hk.2) (.slice Ao16 t357.length co16)) (fun _ hk => hk.2) (.int .i64 x354003_1)) (fun _ hk => hk.1.1.1), by repeat (first | (with_reducible first | exact HB.out | apply ze | apply zd | apply zf | refine zk ?_ GE353.out | refine zk ?_ GE354.out) | exact HB.out)⟩
 ·
  replace c7 := Bool.eq_false_iff.mpr c7
  subst c7
  have H1 : (some (t355, t356, t357, t360, 1)) = some (r1, r2, r3, r4, r5) := by rw [if_neg (show ¬ (false = true) by decide)] at H; exact H
  clear H
  have H := H1
  clear H1
  simp only [Option.some.injEq, Prod.mk.injEq] at H
  obtain ⟨rfl, rfl, rfl, rfl, rfl⟩ := H
  go_enter Try.func34, Try.ntmps34
  go_wp2_with (first | ((with_reducible refine gate_dst (N := 4) rfl ?_); refine box_event ?hg (N := 4) ?hd (cs := #[.int .u64 a0_0, .int .u32 a0_1, .slice A0_2 l0_2.length c0_2, .int .i64 a0_3]) (t := 43) ?hr ?_; (case hd => rfl); (case hg => rfl); (case hr => first | (go_simp; done) | (go_simp; rfl)); intro gb353 hg w34 hbox hb; have n0_ := zm (Kd.V_below (Kd.V_elderB (by (with_reducible repeat (first | apply zA | apply zB | apply zC)); exact HO0_2.out) gb353 (Nat.le_of_eq hg.symm)) hb); have n1_ := zm (zJ (by repeat (first | (with_reducible first | exact HB.out | apply ze | apply zd | apply zf) | exact HB.out)) hb); have n2_ := zm (hbox); have n3_ := zm ((by rw [hg]; exact (zE (by repeat (first | (with_reducible first | exact HB.out | apply ze | apply zd | apply zf) | exact HB.out))) : w.heap.size ≤ gb353)); have n4_ := zm ((by rw [hg]; exact (zE (by repeat (first | (with_reducible first | exact HB.out | apply ze | apply zd | apply zf) | exact HB.out))) : w.heap.size ≤ gb353)); clear HO0_2; clear HB; have HO0_2 := n0_; have HB := n1_; have BK353 := n2_; have GW353 := n3_; have GE353 := n4_; clear n0_ n1_ n2_ n3_ n4_; clear hb hbox hg) | ((with_reducible refine gate_dst (N := 8) rfl ?_); refine box_event ?hg (N := 8) ?hd (cs := #[.int .u64 0, .int .u32 0, .slice none 0 0, .int .i64 0]) (t := 43) ?hr ?_; (case hd => rfl); (case hg => rfl); (case hr => first | (go_simp; done) | (go_simp; rfl)); intro gb354 hg w35 hbox hb; have n0_ := zm (Kd.V_below (Kd.V_elderB (by (with_reducible repeat (first | apply zA | apply zB | apply zC)); exact HO0_2.out) gb354 (Nat.le_of_eq hg.symm)) hb); have n1_ := zm (zF (g := gb353) (o := .cells #[.int .u64 a0_0, .int .u32 a0_1, .slice A0_2 l0_2.length c0_2, .int .i64 a0_3] 43 (0, 0)) (by (with_reducible repeat (first | refine zh ?_ _ | refine zj ?_ | refine zi ?_ _)); exact BK353.out) hb); have n2_ := zm (zJ (by repeat (first | (with_reducible first | exact HB.out | apply ze | apply zd | apply zf | refine zk ?_ GE353.out) | exact HB.out)) hb); have n3_ := zm (hbox); have n4_ := zm ((by rw [hg]; exact (zE (by repeat (first | (with_reducible first | exact HB.out | apply ze | apply zd | apply zf | refine zk ?_ GE353.out) | exact HB.out))) : w.heap.size ≤ gb354)); have n5_ := zm ((by rw [hg]; exact (zE (by repeat (first | (with_reducible first | exact HB.out | apply ze | apply zd | apply zf | refine zk ?_ GE353.out) | exact HB.out))) : w.heap.size ≤ gb354)); have n6_ := zm ((by rw [hg]; exact zn (zD (g := gb353) (o := .cells #[.int .u64 a0_0, .int .u32 a0_1, .slice A0_2 l0_2.length c0_2, .int .i64 a0_3] 43 (0, 0)) (by (with_reducible repeat (first | refine zh ?_ _ | refine zj ?_ | refine zi ?_ _)); exact BK353.out)) : gb353 ≠ gb354)); have n7_ := zm ((by rw [hg]; exact zg (zD (g := gb353) (o := .cells #[.int .u64 a0_0, .int .u32 a0_1, .slice A0_2 l0_2.length c0_2, .int .i64 a0_3] 43 (0, 0)) (by (with_reducible repeat (first | refine zh ?_ _ | refine zj ?_ | refine zi ?_ _)); exact BK353.out)) : gb354 ≠ gb353)); clear HO0_2; clear BK353; clear HB; have HO0_2 := n0_; have BK353 := n1_; have HB := n2_; have BK354 := n3_; have GW354 := n4_; have GE354 := n5_; have NB353_354 := n6_; have NB354_353 := n7_; clear n0_ n1_ n2_ n3_ n4_ n5_ n6_ n7_; clear hb hbox hg; have hnb36 := NB353_354.out; have hnc36 := NB354_353.out; have hcz37_0 : w35.cell? ⟨gb353, 0, none⟩ = some (.int .u64 a0_0) := (zs BK353.out 0).trans rfl; have hcz37_1 : w35.cell? ⟨gb353, 1, none⟩ = some (.int .u32 a0_1) := (zs BK353.out 1).trans rfl; have hcz37_2 : w35.cell? ⟨gb353, 2, none⟩ = some (.slice A0_2 l0_2.length c0_2) := (zs BK353.out 2).trans rfl; have hcz37_3 : w35.cell? ⟨gb353, 3, none⟩ = some (.int .i64 a0_3) := (zs BK353.out 3).trans rfl; have hfz37_0 := zx BK353.out 0; have hfz37_1 := zx BK353.out 1; have hfz37_2 := zx BK353.out 2; have hfz37_3 := zx BK353.out 3) | ((with_reducible refine gate_callee (f := 60) rfl ?_); refine goesL_ (some 13) rfl rfl Try.func60 (by kernel_rfl) rfl #[.agg #[.int .u64 a0_0, .int .u32 a0_1, .slice A0_2 l0_2.length c0_2, .int .i64 a0_3]] rfl (by (try simp only [List.map_toArray, List.map_cons, List.map_nil]); first | done | rfl | (simp only [List.length_drop, List.length_take]; rfl)) ?_; (with_reducible refine (coder_good.calls a0_0 a0_1 (fun k_ => (((P0_2_ k_ ∨ w.heap.size ≤ k_) ∧ k_ ≠ gb353) ∧ k_ ≠ gb354)) _ _ l0_2 a0_3 t355 t356 t357 t360 _ ?side1 A5.out).mono ?_); (case side1 => exact HO0_2.out); rintro e w38 ⟨v358, rfl, ho0, hb⟩; refine ⟨_, rfl, ?_⟩; have n0_ := zm (Kd.V_below (by (with_reducible repeat (first | apply zA | apply zB | apply zC)); exact HO0_2.out) hb); have n1_ := zm (Kd.V_lower (zy (ok' := fun k_ => (P0_2_ k_ ∨ w.heap.size ≤ k_) ∧ k_ ≠ gb353 ∧ k_ ≠ gb354) ho0 (fun k_ hk_ => ⟨Or.elim hk_ (fun hs_ => hs_.1.1) (fun hn_ => (.inr (Nat.le_trans (zE (by repeat (first | (with_reducible first | exact HB.out | apply ze | apply zd | apply zf | refine zk ?_ GE353.out | refine zk ?_ GE354.out) | exact HB.out))) hn_))), Or.elim hk_ (fun hs_ => hs_.1.2) (fun hn_ => (Kd.freshB (g := gb353) (o := .cells #[.int .u64 a0_0, .int .u32 a0_1, .slice A0_2 l0_2.length c0_2, .int .i64 a0_3] 43 (0, 0)) (by (with_reducible repeat (first | refine zh ?_ _ | refine zj ?_ | refine zi ?_ _)); exact BK353.out) k_ hn_)), Or.elim hk_ (fun hs_ => hs_.2) (fun hn_ => (Kd.freshB (g := gb354) (o := .cells #[.int .u64 0, .int .u32 0, .slice none 0 0, .int .i64 0] 43 (0, 0)) (by (with_reducible repeat (first | refine zh ?_ _ | refine zj ?_ | refine zi ?_ _)); exact BK354.out) k_ hn_))⟩)) (zE (by repeat (first | (with_reducible first | exact HB.out | apply ze | apply zd | apply zf | refine zk ?_ GE353.out | refine zk ?_ GE354.out) | exact HB.out)))); have n2_ := zm (zF (g := gb353) (o := .cells #[.int .u64 a0_0, .int .u32 a0_1, .slice A0_2 l0_2.length c0_2, .int .i64 a0_3] 43 (0, 0)) (by (with_reducible repeat (first | refine zh ?_ _ | refine zj ?_ | refine zi ?_ _)); exact BK353.out) hb); have n3_ := zm (zF (g := gb354) (o := .cells #[.int .u64 0, .int .u32 0, .slice none 0 0, .int .i64 0] 43 (0, 0)) (by (with_reducible repeat (first | refine zh ?_ _ | refine zj ?_ | refine zi ?_ _)); exact BK354.out) hb); have n4_ := zm (zJ (by repeat (first | (with_reducible first | exact HB.out | apply ze | apply zd | apply zf | refine zk ?_ GE353.out | refine zk ?_ GE354.out) | exact HB.out)) hb); clear HO0_2; clear BK353; clear BK354; clear HB; have HO0_2 := n0_; have HO359 := n1_; have BK353 := n2_; have BK354 := n3_; have HB := n4_; clear n0_ n1_ n2_ n3_ n4_; (try clear hb); (try clear hb2); (try clear hk); (try clear hi); (try clear ho0); have hcz39_0 : w38.cell? ⟨gb353, 0, none⟩ = some (.int .u64 a0_0) := (zs BK353.out 0).trans rfl; have hcz39_1 : w38.cell? ⟨gb353, 1, none⟩ = some (.int .u32 a0_1) := (zs BK353.out 1).trans rfl; have hcz39_2 : w38.cell? ⟨gb353, 2, none⟩ = some (.slice A0_2 l0_2.length c0_2) := (zs BK353.out 2).trans rfl; have hcz39_3 : w38.cell? ⟨gb353, 3, none⟩ = some (.int .i64 a0_3) := (zs BK353.out 3).trans rfl; have hfz39_0 := zx BK353.out 0; have hfz39_1 := zx BK353.out 1; have hfz39_2 := zx BK353.out 2; have hfz39_3 := zx BK353.out 3; obtain ⟨Ao40, co40, eo40⟩ := Kd.V_slice HO359.out; subst eo40) | ((with_reducible refine gate_store (t := 43) (p := 4) rfl ?_); refine store_event (t := 43) (p := 4) (v := ?vo_w41) (w1 := ((((w38.setCell ⟨gb353, 0, none⟩ (.int .u64 t355)).setCell ⟨gb353, 1, none⟩ (.int .u32 t356)).setCell ⟨gb353, 2, none⟩ (.slice Ao40 t357.length co40)).setCell ⟨gb353, 3, none⟩ (.int .i64 t360))) ?hg ?ho ?hn ?hr ?_; (case ho => rfl); (case hg => rfl); (case hn => rfl); (case hr => first | (go_simp; done) | (go_simp; rfl)); intro w41 hw; have n0_ : Aside0 (Kd.V (Kd.int .u8) 5 w41 w.heap.size (fun k_ => (P0_2_ k_ ∨ w.heap.size ≤ k_) ∧ k_ ≠ gb353 ∧ k_ ≠ gb354) (.slice A0_2 l0_2.length c0_2) l0_2) := ⟨(by rw [hw]; exact (by (with_reducible repeat (first | apply zA | apply zB | apply zC)); exact zy (zI (p := ⟨gb353, 3, none⟩) (zI (p := ⟨gb353, 2, none⟩) (zI (p := ⟨gb353, 1, none⟩) (zI (p := ⟨gb353, 0, none⟩) (zy HO0_2.out (fun k_ hk => (⟨hk, hk.1.2⟩ : _ ∧ k_ ≠ gb353))) (fun _ hk => hk.2) (.int .u64 t355)) (fun _ hk => hk.2) (.int .u32 t356)) (fun _ hk => hk.2) (.slice Ao40 t357.length co40)) (fun _ hk => hk.2) (.int .i64 t360)) (fun _ hk => ⟨hk.1.1.1, ⟨hk.1.1.2, hk.1.2⟩⟩)))⟩; have n1_ : Aside0 (Kd.V (Kd.int .u8) 5 w41 w.heap.size (fun k_ => (P0_2_ k_ ∨ w.heap.size ≤ k_) ∧ k_ ≠ gb353 ∧ k_ ≠ gb354) (.slice Ao40 t357.length co40) t357) := ⟨(by rw [hw]; exact (by (with_reducible repeat (first | apply zA | apply zB | apply zC)); exact zy (zI (p := ⟨gb353, 3, none⟩) (zI (p := ⟨gb353, 2, none⟩) (zI (p := ⟨gb353, 1, none⟩) (zI (p := ⟨gb353, 0, none⟩) (zy HO359.out (fun k_ hk => (⟨hk, hk.2.1⟩ : _ ∧ k_ ≠ gb353))) (fun _ hk => hk.2) (.int .u64 t355)) (fun _ hk => hk.2) (.int .u32 t356)) (fun _ hk => hk.2) (.slice Ao40 t357.length co40)) (fun _ hk => hk.2) (.int .i64 t360)) (fun _ hk => ⟨hk.1.1, ⟨hk.1.2.1, hk.1.2.2⟩⟩)))⟩; have n2_ : Aside0 (w41.heap[gb353]? = some (.cells #[.int .u64 t355, .int .u32 t356, .slice Ao40 t357.length co40, .int .i64 t360] 43 (0, 0))) := ⟨(by rw [hw]; exact (by (with_reducible repeat (first | refine zh ?_ _ | refine zj ?_ | refine zi ?_ _)); refine zw (cs := #[.int .u64 t355, .int .u32 t356, .slice Ao40 t357.length co40, .int .i64 a0_3]) ?_ 3 _ rfl; (with_reducible repeat (first | refine zh ?_ _ | refine zj ?_ | refine zi ?_ _)); refine zw (cs := #[.int .u64 t355, .int .u32 t356, .slice A0_2 l0_2.length c0_2, .int .i64 a0_3]) ?_ 2 _ rfl; (with_reducible repeat (first | refine zh ?_ _ | refine zj ?_ | refine zi ?_ _)); refine zw (cs := #[.int .u64 t355, .int .u32 a0_1, .slice A0_2 l0_2.length c0_2, .int .i64 a0_3]) ?_ 1 _ rfl; (with_reducible repeat (first | refine zh ?_ _ | refine zj ?_ | refine zi ?_ _)); refine zw (cs := #[.int .u64 a0_0, .int .u32 a0_1, .slice A0_2 l0_2.length c0_2, .int .i64 a0_3]) ?_ 0 _ rfl; (with_reducible repeat (first | refine zh ?_ _ | refine zj ?_ | refine zi ?_ _)); exact BK353.out))⟩; have n3_ : Aside0 (w41.heap[gb354]? = some (.cells #[.int .u64 0, .int .u32 0, .slice none 0 0, .int .i64 0] 43 (0, 0))) := ⟨(by rw [hw]; exact (by (with_reducible repeat (first | refine zh ?_ _ | refine zj ?_ | refine zi ?_ _)); refine zv ?_ NB354_353.out _; (with_reducible repeat (first | refine zh ?_ _ | refine zj ?_ | refine zi ?_ _)); refine zv ?_ NB354_353.out _; (with_reducible repeat (first | refine zh ?_ _ | refine zj ?_ | refine zi ?_ _)); refine zv ?_ NB354_353.out _; (with_reducible repeat (first | refine zh ?_ _ | refine zj ?_ | refine zi ?_ _)); refine zv ?_ NB354_353.out _; (with_reducible repeat (first | refine zh ?_ _ | refine zj ?_ | refine zi ?_ _)); exact BK354.out))⟩; have n4_ : Aside0 (Below w.heap.size w w41) := ⟨(by rw [hw]; exact (by repeat (first | (with_reducible first | exact HB.out | apply ze | apply zd | apply zf | refine zk ?_ GE353.out | refine zk ?_ GE354.out) | exact HB.out)))⟩; clear hw; clear HO0_2; clear HO359; clear BK353; clear BK354; clear HB; have HO0_2 := n0_; have HO359 := n1_; have BK353 := n2_; have BK354 := n3_; have HB := n4_; clear n0_ n1_ n2_ n3_ n4_) | ((with_reducible refine gate_callee (f := 52) rfl ?_); refine goesL_ (some 17) rfl rfl Try.func52 (by kernel_rfl) rfl #[.int .i64 a1, .int .i64 a2, .int .i64 a3] rfl (by (try simp only [List.map_toArray, List.map_cons, List.map_nil]); first | done | rfl | (simp only [List.length_drop, List.length_take]; rfl)) ?_; (with_reducible refine (coder_fair.calls a1 a2 a3 false _ A6.out).mono ?_); rintro e w' ⟨rfl, ⟨nd, rfl⟩⟩; refine ⟨_, rfl, ?_⟩; (try (rw [drewN_self w41]; generalize hq_ : World.drewN w41 _ = w41; have n0_ : Aside0 (Kd.V (Kd.int .u8) 5 w41 w.heap.size (fun k_ => (P0_2_ k_ ∨ w.heap.size ≤ k_) ∧ k_ ≠ gb353 ∧ k_ ≠ gb354) (.slice A0_2 l0_2.length c0_2) l0_2) := ⟨by rw [← hq_]; exact (by (with_reducible repeat (first | apply zA | apply zB | apply zC)); exact HO0_2.out)⟩; have n1_ : Aside0 (Kd.V (Kd.int .u8) 5 w41 w.heap.size (fun k_ => (P0_2_ k_ ∨ w.heap.size ≤ k_) ∧ k_ ≠ gb353 ∧ k_ ≠ gb354) (.slice Ao40 t357.length co40) t357) := ⟨by rw [← hq_]; exact (by (with_reducible repeat (first | apply zA | apply zB | apply zC)); exact HO359.out)⟩; have n2_ : Aside0 (w41.heap[gb353]? = some (.cells #[.int .u64 t355, .int .u32 t356, .slice Ao40 t357.length co40, .int .i64 t360] 43 (0, 0))) := ⟨by rw [← hq_]; exact (by (with_reducible repeat (first | refine zh ?_ _ | refine zj ?_ | refine zi ?_ _)); exact BK353.out)⟩; have n3_ : Aside0 (w41.heap[gb354]? = some (.cells #[.int .u64 0, .int .u32 0, .slice none 0 0, .int .i64 0] 43 (0, 0))) := ⟨by rw [← hq_]; exact (by (with_reducible repeat (first | refine zh ?_ _ | refine zj ?_ | refine zi ?_ _)); exact BK354.out)⟩; have n4_ : Aside0 (Below w.heap.size w w41) := ⟨by rw [← hq_]; exact (by repeat (first | (with_reducible first | exact HB.out | apply ze | apply zd | apply zf | refine zk ?_ GE353.out | refine zk ?_ GE354.out) | exact HB.out))⟩; clear HO0_2 HO359 BK353 BK354 HB hq_; have HO0_2 := n0_; have HO359 := n1_; have BK353 := n2_; have BK354 := n3_; have HB := n4_; clear n0_ n1_ n2_ n3_ n4_)); have hcz42_0 : w41.cell? ⟨gb353, 0, none⟩ = some (.int .u64 t355) := (zs BK353.out 0).trans rfl; have hcz42_1 : w41.cell? ⟨gb353, 1, none⟩ = some (.int .u32 t356) := (zs BK353.out 1).trans rfl; have hcz42_2 : w41.cell? ⟨gb353, 2, none⟩ = some (.slice Ao40 t357.length co40) := (zs BK353.out 2).trans rfl; have hcz42_3 : w41.cell? ⟨gb353, 3, none⟩ = some (.int .i64 t360) := (zs BK353.out 3).trans rfl; have hfz42_0 := zx BK353.out 0; have hfz42_1 := zx BK353.out 1; have hfz42_2 := zx BK353.out 2; have hfz42_3 := zx BK353.out 3; have hcz43_0 : w41.cell? ⟨gb354, 0, none⟩ = some (.int .u64 0) := (zs BK354.out 0).trans rfl; have hcz43_1 : w41.cell? ⟨gb354, 1, none⟩ = some (.int .u32 0) := (zs BK354.out 1).trans rfl; have hcz43_2 : w41.cell? ⟨gb354, 2, none⟩ = some (.slice none 0 0) := (zs BK354.out 2).trans rfl; have hcz43_3 : w41.cell? ⟨gb354, 3, none⟩ = some (.int .i64 0) := (zs BK354.out 3).trans rfl; have hfz43_0 := zx BK354.out 0; have hfz43_1 := zx BK354.out 1; have hfz43_2 := zx BK354.out 2; have hfz43_3 := zx BK354.out 3))
  refine bodyPost_ret (results_ct rfl _ _ gb354 43 #[.int .u64 t355, .int .u32 t356, .slice Ao40 t357.length co40, .int .i64 t360] (0, 0) _ rfl (by (with_reducible repeat (first | refine zh ?_ _ | refine zj ?_ | refine zi ?_ _)); refine zw (cs := #[.int .u64 t355, .int .u32 t356, .slice Ao40 t357.length co40, .int .i64 0]) ?_ 3 _ rfl; (with_reducible repeat (first | refine zh ?_ _ | refine zj ?_ | refine zi ?_ _)); refine zw (cs := #[.int .u64 t355, .int .u32 t356, .slice none 0 0, .int .i64 0]) ?_ 2 _ rfl; (with_reducible repeat (first | refine zh ?_ _ | refine zj ?_ | refine zi ?_ _)); refine zw (cs := #[.int .u64 t355, .int .u32 0, .slice none 0 0, .int .i64 0]) ?_ 1 _ rfl; (with_reducible repeat (first | refine zh ?_ _ | refine zj ?_ | refine zi ?_ _)); refine zw (cs := #[.int .u64 0, .int .u32 0, .slice none 0 0, .int .i64 0]) ?_ 0 _ rfl; (with_reducible repeat (first | refine zh ?_ _ | refine zj ?_ | refine zi ?_ _)); exact BK354.out) Try.underlying43 rfl (by kernel_rfl)) rfl ?_
  exact ⟨_, by first | rfl | (simp [errW_none, errW_some] <;> rfl) | (simp [*, errW_none, errW_some] <;> rfl), by (with_reducible repeat (first | apply zA | apply zB | apply zC)); exact zy (zI (p := ⟨gb354, 3, none⟩) (zI (p := ⟨gb354, 2, none⟩) (zI (p := ⟨gb354, 1, none⟩) (zI (p := ⟨gb354, 0, none⟩) (zy HO359.out (fun k_ hk => (⟨hk, hk.2.2⟩ : _ ∧ k_ ≠ gb354))) (fun _ hk => hk.2) (.int .u64 t355)) (fun _ hk => hk.2) (.int .u32 t356)) (fun _ hk => hk.2) (.slice Ao40 t357.length co40)) (fun _ hk => hk.2) (.int .i64 t360)) (fun _ hk => hk.1.1), by repeat (first | (with_reducible first | exact HB.out | apply ze | apply zd | apply zf | refine zk ?_ GE353.out | refine zk ?_ GE354.out) | exact HB.out)⟩

end Go.Proofs.Ytkaoiblgfpphoaa.Prt

namespace Go.Proofs.Ytkaoiblgfpphoaa.Prt
open Go.RowKit Go.Proofs.YtkaoiblgfpphoaaW.PrintWords Go.Proofs.YtkaoiblgfpphoaaW.PrintLast Go.Proofs.YtkaoiblgfpphoaaW.PrintMore
attribute [local go_sem] max2_int min2_int max_two min_two max_three min_three max_four min_four   -- for this text's walks alone
set_option linter.unusedVariables false
set_option linter.unusedSimpArgs false

/-! ### psalterylaw05_knows: function 17 -/
def psalterylaw05_knows.f (k : Nat)  : Option (Bool) := (coder_New.f).bind fun bt170 => ((coder_Put.f k bt170.1 bt170.2.1 bt170.2.2 1 2 2).bind fun bt175 => ((coder_Finish.f bt175.1 bt175.2.1 bt175.2.2.1).bind fun t182 => ((coder_Open.f t182).bind fun bt185 => ((coder_Get.f bt185.1 bt185.2.1 bt185.2.2.1 bt185.2.2.2 2).bind fun bt191 => (if bt175.1 = 2147483647 then (if bt175.2.1 = 2147483648 then (if bt175.2.2.2 = 0 then (if (strOfNums t182).toList = ([127, 255, 255, 255] : List UInt8) then (if bt191.1 = 1 then (if bt191.2 = 0 then ((coder_RightEnc.f bt175.1 bt175.2.1 bt175.2.2.1).bind fun t193 => (if t193 = true then ((coder_Open.f ([] : List Int)).bind fun bt194 => ((coder_RightDec.f bt194.1 bt194.2.1 bt194.2.2.1 bt194.2.2.2).bind fun t200 => (some t200))) else (none))) else (none)) else (none)) else (none)) else (none)) else (none)) else (none))))))
theorem psalterylaw05_knows.mono : ∀ k, LeO (psalterylaw05_knows.f k ) (psalterylaw05_knows.f (k + 1) ) := by
 intro  k
 unfold psalterylaw05_knows.f
 repeat' first
   | (with_reducible exact coder_Put.mono _ _ _ _ _ _ _)
   | (with_reducible exact LeO.refl _)
   | (with_reducible exact LeO.none _)
   | (with_reducible refine LeO.ite ?_ ?_)
   | (with_reducible refine LeO.bind ?_ (fun _ => ?_))
   | exact coder_Put.mono _ _ _ _ _ _ _
   | exact LeO.none _
   | refine LeO.ite ?_ ?_
   | refine LeO.bind ?_ (fun _ => ?_)
set_option maxHeartbeats 8000000 in
set_option maxRecDepth 100000 in
theorem psalterylaw05_knows.calls (k : Nat)  (r : Bool) (w : World) (h : psalterylaw05_knows.f k  = some r) :
  Calls Try.prog 17 #[] w fun e w' => e = .returned (.bool r) ∧ Below w.heap.size w w' := by
 have hu26 := Try.underlying26
 have HB := zm (Below.refl w.heap.size w)
 have H : ((coder_New.f).bind fun bt170 => ((coder_Put.f k bt170.1 bt170.2.1 bt170.2.2 1 2 2).bind fun bt175 => ((coder_Finish.f bt175.1 bt175.2.1 bt175.2.2.1).bind fun t182 => ((coder_Open.f t182).bind fun bt185 => ((coder_Get.f bt185.1 bt185.2.1 bt185.2.2.1 bt185.2.2.2 2).bind fun bt191 => (if bt175.1 = 2147483647 then (if bt175.2.1 = 2147483648 then (if bt175.2.2.2 = 0 then (if (strOfNums t182).toList = ([127, 255, 255, 255] : List UInt8) then (if bt191.1 = 1 then (if bt191.2 = 0 then ((coder_RightEnc.f bt175.1 bt175.2.1 bt175.2.2.1).bind fun t193 => (if t193 = true then ((coder_Open.f ([] : List Int)).bind fun bt194 => ((coder_RightDec.f bt194.1 bt194.2.1 bt194.2.2.1 bt194.2.2.2).bind fun t200 => (some t200))) else (none))) else (none)) else (none)) else (none)) else (none)) else (none)) else (none))))))) = some r := h
 clear h
 replace H := Option.bind_eq_some_iff.mp H
 obtain ⟨⟨t170, t171, t172⟩, A10, H⟩ := H
 replace H : ((coder_Put.f k t170 t171 t172 1 2 2).bind fun bt175 => ((coder_Finish.f bt175.1 bt175.2.1 bt175.2.2.1).bind fun t182 => ((coder_Open.f t182).bind fun bt185 => ((coder_Get.f bt185.1 bt185.2.1 bt185.2.2.1 bt185.2.2.2 2).bind fun bt191 => (if bt175.1 = 2147483647 then (if bt175.2.1 = 2147483648 then (if bt175.2.2.2 = 0 then (if (strOfNums t182).toList = ([127, 255, 255, 255] : List UInt8) then (if bt191.1 = 1 then (if bt191.2 = 0 then ((coder_RightEnc.f bt175.1 bt175.2.1 bt175.2.2.1).bind fun t193 => (if t193 = true then ((coder_Open.f ([] : List Int)).bind fun bt194 => ((coder_RightDec.f bt194.1 bt194.2.1 bt194.2.2.1 bt194.2.2.2).bind fun t200 => (some t200))) else (none))) else (none)) else (none)) else (none)) else (none)) else (none)) else (none)))))) = some r := H
 have A1 := zm A10
 clear A10
 replace H := Option.bind_eq_some_iff.mp H
 obtain ⟨⟨t175, t176, t177, t180⟩, A20, H⟩ := H
 replace H : ((coder_Finish.f t175 t176 t177).bind fun t182 => ((coder_Open.f t182).bind fun bt185 => ((coder_Get.f bt185.1 bt185.2.1 bt185.2.2.1 bt185.2.2.2 2).bind fun bt191 => (if t175 = 2147483647 then (if t176 = 2147483648 then (if t180 = 0 then (if (strOfNums t182).toList = ([127, 255, 255, 255] : List UInt8) then (if bt191.1 = 1 then (if bt191.2 = 0 then ((coder_RightEnc.f t175 t176 t177).bind fun t193 => (if t193 = true then ((coder_Open.f ([] : List Int)).bind fun bt194 => ((coder_RightDec.f bt194.1 bt194.2.1 bt194.2.2.1 bt194.2.2.2).bind fun t200 => (some t200))) else (none))) else (none)) else (none)) else (none)) else (none)) else (none)) else (none))))) = some r := H
 have A2 := zm A20
 clear A20
 replace H := Option.bind_eq_some_iff.mp H
 obtain ⟨t182, A30, H⟩ := H
 replace H : ((coder_Open.f t182).bind fun bt185 => ((coder_Get.f bt185.1 bt185.2.1 bt185.2.2.1 bt185.2.2.2 2).bind fun bt191 => (if t175 = 2147483647 then (if t176 = 2147483648 then (if t180 = 0 then (if (strOfNums t182).toList = ([127, 255, 255, 255] : List UInt8) then (if bt191.1 = 1 then (if bt191.2 = 0 then ((coder_RightEnc.f t175 t176 t177).bind fun t193 => (if t193 = true then ((coder_Open.f ([] : List Int)).bind fun bt194 => ((coder_RightDec.f bt194.1 bt194.2.1 bt194.2.2.1 bt194.2.2.2).bind fun t200 => (some t200))) else (none))) else (none)) else (none)) else (none)) else (none)) else (none)) else (none)))) = some r := H
 have A3 := zm A30
 clear A30
 replace H := Option.bind_eq_some_iff.mp H
 obtain ⟨⟨t185, t186, t187, t190⟩, A40, H⟩ := H
 replace H : ((coder_Get.f t185 t186 t187 t190 2).bind fun bt191 => (if t175 = 2147483647 then (if t176 = 2147483648 then (if t180 = 0 then (if (strOfNums t182).toList = ([127, 255, 255, 255] : List UInt8) then (if bt191.1 = 1 then (if bt191.2 = 0 then ((coder_RightEnc.f t175 t176 t177).bind fun t193 => (if t193 = true then ((coder_Open.f ([] : List Int)).bind fun bt194 => ((coder_RightDec.f bt194.1 bt194.2.1 bt194.2.2.1 bt194.2.2.2).bind fun t200 => (some t200))) else (none))) else (none)) else (none)) else (none)) else (none)) else (none)) else (none))) = some r := H
 have A4 := zm A40
 clear A40
 replace H := Option.bind_eq_some_iff.mp H
 obtain ⟨⟨t191, t192⟩, A50, H⟩ := H
 replace H : (if t175 = 2147483647 then (if t176 = 2147483648 then (if t180 = 0 then (if (strOfNums t182).toList = ([127, 255, 255, 255] : List UInt8) then (if t191 = 1 then (if t192 = 0 then ((coder_RightEnc.f t175 t176 t177).bind fun t193 => (if t193 = true then ((coder_Open.f ([] : List Int)).bind fun bt194 => ((coder_RightDec.f bt194.1 bt194.2.1 bt194.2.2.1 bt194.2.2.2).bind fun t200 => (some t200))) else (none))) else (none)) else (none)) else (none)) else (none)) else (none)) else (none)) = some r := H
 have A5 := zm A50
 clear A50
 by_cases c6 : t175 = 2147483647
 ·
  rw [if_pos c6] at H
  have c6b0 : (t175 == 2147483647) = true := beq_iff_eq.mpr c6
  have c6b1 : (t175 != 2147483647) = false := bne_eq_false_iff_eq.mpr c6
  clear c6
  by_cases c7 : t176 = 2147483648
  ·
   rw [if_pos c7] at H
   have c7b0 : (t176 == 2147483648) = true := beq_iff_eq.mpr c7
   have c7b1 : (t176 != 2147483648) = false := bne_eq_false_iff_eq.mpr c7
   clear c7
   by_cases c8 : t180 = 0
   ·
    rw [if_pos c8] at H
    have c8b0 : (t180 == 0) = true := beq_iff_eq.mpr c8
    have c8b1 : (t180 != 0) = false := bne_eq_false_iff_eq.mpr c8
    clear c8
    by_cases c9 : (strOfNums t182).toList = ([127, 255, 255, 255] : List UInt8)
    ·
     rw [if_pos c9] at H
     have c9b0 : ((strOfNums t182).toList == ([127, 255, 255, 255] : List UInt8)) = true := beq_iff_eq.mpr c9
     have c9b1 : ((strOfNums t182).toList != ([127, 255, 255, 255] : List UInt8)) = false := bne_eq_false_iff_eq.mpr c9
     clear c9
     by_cases c10 : t191 = 1
     ·
      rw [if_pos c10] at H
      have c10b0 : (t191 == 1) = true := beq_iff_eq.mpr c10
      have c10b1 : (t191 != 1) = false := bne_eq_false_iff_eq.mpr c10
      clear c10
      by_cases c11 : t192 = 0
      ·
       rw [if_pos c11] at H
       have c11b0 : (t192 == 0) = true := beq_iff_eq.mpr c11
       have c11b1 : (t192 != 0) = false := bne_eq_false_iff_eq.mpr c11
       clear c11
       replace H := Option.bind_eq_some_iff.mp H
       obtain ⟨t193, A120, H⟩ := H
       replace H : (if t193 = true then ((coder_Open.f ([] : List Int)).bind fun bt194 => ((coder_RightDec.f bt194.1 bt194.2.1 bt194.2.2.1 bt194.2.2.2).bind fun t200 => (some t200))) else (none)) = some r := H
       have A12 := zm A120
       clear A120
       by_cases c13 : t193 = true
       ·
        subst c13
        have H1 : ((coder_Open.f ([] : List Int)).bind fun bt194 => ((coder_RightDec.f bt194.1 bt194.2.1 bt194.2.2.1 bt194.2.2.2).bind fun t200 => (some t200))) = some r := by rw [if_pos rfl] at H; exact H
        clear H
        have H := H1
        clear H1
        replace H := Option.bind_eq_some_iff.mp H
        obtain ⟨⟨t194, t195, t196, t199⟩, A140, H⟩ := H
        replace H : ((coder_RightDec.f t194 t195 t196 t199).bind fun t200 => (some t200)) = some r := H
        have A14 := zm A140
        clear A140
        replace H := Option.bind_eq_some_iff.mp H
        obtain ⟨t200, A150, H⟩ := H
        replace H : (some t200) = some r := H
        have A15 := zm A150
        clear A150
        obtain rfl := Option.some.inj H
        go_enter Try.func17, Try.ntmps17
        go_wp2_with (first | ((with_reducible refine gate_callee (f := 29) rfl ?_); refine goesL_ (some 7) rfl rfl Try.func29 (by kernel_rfl) rfl #[] rfl (by (try simp only [List.map_toArray, List.map_cons, List.map_nil]); first | done | rfl | (simp only [List.length_drop, List.length_take]; rfl)) ?_; (with_reducible refine (coder_New.calls  t170 t171 t172 _ A1.out).mono ?_); rintro e w16 ⟨v173, rfl, ho0, hb⟩; refine ⟨_, rfl, ?_⟩; have n0_ := zm (Kd.R_lower ho0 (zE (by repeat (first | (with_reducible first | exact HB.out | apply ze | apply zd | apply zf) | exact HB.out)))); have n1_ := zm (zJ (by repeat (first | (with_reducible first | exact HB.out | apply ze | apply zd | apply zf) | exact HB.out)) hb); clear HB; have HO174 := n0_; have HB := n1_; clear n0_ n1_; (try clear hb); (try clear hb2); (try clear hk); (try clear hi); (try clear ho0); obtain ⟨Ao17, co17, eo17⟩ := Kd.R_slice HO174.out; subst eo17) | ((with_reducible refine gate_callee (f := 18) rfl ?_); refine goesL_ (some 8) rfl rfl Try.func18 (by kernel_rfl) rfl #[.agg #[.int .u64 t170, .int .u32 t171, .slice Ao17 t172.length co17], .int .i64 1, .int .i64 2, .int .i64 2] rfl (by (try simp only [List.map_toArray, List.map_cons, List.map_nil]); first | done | rfl | (simp only [List.length_drop, List.length_take]; rfl)) ?_; (with_reducible refine (coder_Put.calls k t170 t171 _ _ t172 1 2 2 t175 t176 t177 t180 _ ?side1 ?side2 A2.out).mono ?_); (case side1 => repeat (first | exact (Kd.R_reads' HO174.out).2.2 | (with_reducible refine Kd.C_alloc ?_ _) | (with_reducible refine Kd.C_drewN ?_ _) | (with_reducible refine Kd.C_drew ?_))); (case side2 => exact (Kd.R_reads' HO174.out).2.1); rintro e w18 ⟨v178, rfl, ho0, hb⟩; refine ⟨_, rfl, ?_⟩; have n0_ := zm (Kd.R_elder' (by (with_reducible repeat (first | apply zo | apply zp | apply zq)); exact HO174.out) (Kd.R_base ho0) hb); have n1_ := zm (Kd.R_lower (Kd.R_new' ho0 (Kd.R_lt (by (with_reducible repeat (first | apply zo | apply zp | apply zq)); exact HO174.out))) (zE (by repeat (first | (with_reducible first | exact HB.out | apply ze | apply zd | apply zf) | exact HB.out)))); have n2_ := zm (zJ (by repeat (first | (with_reducible first | exact HB.out | apply ze | apply zd | apply zf) | exact HB.out)) hb); clear HO174; clear HB; have HO174 := n0_; have HO179 := n1_; have HB := n2_; clear n0_ n1_ n2_; (try clear hb); (try clear hb2); (try clear hk); (try clear hi); (try clear ho0)) | ((with_reducible refine gate_dst (N := 1) rfl ?_); refine box_event ?hg (N := 1) ?hd (cs := #[.int .u64 0, .int .u32 0, .slice none 0 0]) (t := 26) ?hr ?_; (case hd => rfl); (case hg => rfl); (case hr => first | (go_simp; done) | (go_simp; rfl)); intro gb181 hg w19 hbox hb; have n0_ := zm (Kd.R_below (by (with_reducible repeat (first | apply zo | apply zp | apply zq)); exact HO174.out) hb); have n1_ := zm (Kd.R_below (by (with_reducible repeat (first | apply zo | apply zp | apply zq)); exact HO179.out) hb); have n2_ := zm (zJ (by repeat (first | (with_reducible first | exact HB.out | apply ze | apply zd | apply zf) | exact HB.out)) hb); have n3_ := zm (hbox); have n4_ := zm ((by rw [hg]; exact (zE (by repeat (first | (with_reducible first | exact HB.out | apply ze | apply zd | apply zf) | exact HB.out))) : w.heap.size ≤ gb181)); have n5_ := zm ((by rw [hg]; exact (zE (by repeat (first | (with_reducible first | exact HB.out | apply ze | apply zd | apply zf) | exact HB.out))) : w.heap.size ≤ gb181)); clear HO174; clear HO179; clear HB; have HO174 := n0_; have HO179 := n1_; have HB := n2_; have BK181 := n3_; have GW181 := n4_; have GE181 := n5_; clear n0_ n1_ n2_ n3_ n4_ n5_; clear hb hbox hg; have hcz20_0 : w19.cell? ⟨gb181, 0, none⟩ = some (.int .u64 0) := (zs BK181.out 0).trans rfl; have hcz20_1 : w19.cell? ⟨gb181, 1, none⟩ = some (.int .u32 0) := (zs BK181.out 1).trans rfl; have hcz20_2 : w19.cell? ⟨gb181, 2, none⟩ = some (.slice none 0 0) := (zs BK181.out 2).trans rfl; have hfz20_0 := zx BK181.out 0; have hfz20_1 := zx BK181.out 1; have hfz20_2 := zx BK181.out 2; obtain ⟨Ao21, co21, eo21⟩ := Kd.R_slice HO179.out; subst eo21) | ((with_reducible refine gate_callee (f := 24) rfl ?_); refine goesL_ (some 12) rfl rfl Try.func24 (by kernel_rfl) rfl #[.agg #[.int .u64 t175, .int .u32 t176, .slice Ao21 t177.length co21]] rfl (by (try simp only [List.map_toArray, List.map_cons, List.map_nil]); first | done | rfl | (simp only [List.length_drop, List.length_take]; rfl)) ?_; (with_reducible refine (coder_Finish.calls t175 t176 _ _ t177 t182 _ ?side1 ?side2 A3.out).mono ?_); (case side1 => refine (Kd.R_reads' (e := 5) (base := w.heap.size) (ok := fun k_ => (True ∧ some k_ ≠ (.slice Ao17 t172.length co17 : Value).ownBlock)) (n := t177.length) (c := co21) ?_).2.2; exact (by (with_reducible repeat (first | apply zo | apply zp | apply zq)); exact (zG (zH (p := ⟨gb181, 2, none⟩) (zH (p := ⟨gb181, 1, none⟩) (zH (p := ⟨gb181, 0, none⟩) (Kd.R_types HO179.out BK181.out (by decide)) (fun _ hk => hk.2) (.int .u64 t175)) (fun _ hk => hk.2) (.int .u32 t176)) (fun _ hk => hk.2) (.slice Ao21 t177.length co21)) (fun _ h_ => h_.1)))); (case side2 => exact (Kd.R_reads' HO179.out).2.1); rintro e w22 ⟨v183, rfl, ho0, hb⟩; refine ⟨_, rfl, ?_⟩; have n0_ := zm (Kd.R_elder' (by (with_reducible repeat (first | apply zo | apply zp | apply zq)); exact (zG (zH (p := ⟨gb181, 2, none⟩) (zH (p := ⟨gb181, 1, none⟩) (zH (p := ⟨gb181, 0, none⟩) (Kd.R_types HO174.out BK181.out (by decide)) (fun _ hk => hk.2) (.int .u64 t175)) (fun _ hk => hk.2) (.int .u32 t176)) (fun _ hk => hk.2) (.slice Ao21 t177.length co21)) (fun _ h_ => h_.1))) (Kd.R_base ho0) hb); have n1_ := zm (Kd.R_elder' (by (with_reducible repeat (first | apply zo | apply zp | apply zq)); exact (zG (zH (p := ⟨gb181, 2, none⟩) (zH (p := ⟨gb181, 1, none⟩) (zH (p := ⟨gb181, 0, none⟩) (Kd.R_types HO179.out BK181.out (by decide)) (fun _ hk => hk.2) (.int .u64 t175)) (fun _ hk => hk.2) (.int .u32 t176)) (fun _ hk => hk.2) (.slice Ao21 t177.length co21)) (fun _ h_ => h_.1))) (Kd.R_base ho0) hb); have n2_ := zm (Kd.R_lower (Kd.R_new' (Kd.R_new' ho0 (Kd.R_lt (by (with_reducible repeat (first | apply zo | apply zp | apply zq)); exact (zG (zH (p := ⟨gb181, 2, none⟩) (zH (p := ⟨gb181, 1, none⟩) (zH (p := ⟨gb181, 0, none⟩) (Kd.R_types HO174.out BK181.out (by decide)) (fun _ hk => hk.2) (.int .u64 t175)) (fun _ hk => hk.2) (.int .u32 t176)) (fun _ hk => hk.2) (.slice Ao21 t177.length co21)) (fun _ h_ => h_.1))))) (Kd.R_lt (by (with_reducible repeat (first | apply zo | apply zp | apply zq)); exact (zG (zH (p := ⟨gb181, 2, none⟩) (zH (p := ⟨gb181, 1, none⟩) (zH (p := ⟨gb181, 0, none⟩) (Kd.R_types HO179.out BK181.out (by decide)) (fun _ hk => hk.2) (.int .u64 t175)) (fun _ hk => hk.2) (.int .u32 t176)) (fun _ hk => hk.2) (.slice Ao21 t177.length co21)) (fun _ h_ => h_.1))))) (zE (by repeat (first | (with_reducible first | exact HB.out | apply ze | apply zd | apply zf | refine zk ?_ GE181.out) | exact HB.out)))); have n3_ := zm (zF (g := gb181) (o := .cells #[.int .u64 t175, .int .u32 t176, .slice Ao21 t177.length co21] 26 (0, 0)) (by (with_reducible repeat (first | refine zh ?_ _ | refine zj ?_ | refine zi ?_ _)); refine zw (cs := #[.int .u64 t175, .int .u32 t176, .slice none 0 0]) ?_ 2 _ rfl; (with_reducible repeat (first | refine zh ?_ _ | refine zj ?_ | refine zi ?_ _)); refine zw (cs := #[.int .u64 t175, .int .u32 0, .slice none 0 0]) ?_ 1 _ rfl; (with_reducible repeat (first | refine zh ?_ _ | refine zj ?_ | refine zi ?_ _)); refine zw (cs := #[.int .u64 0, .int .u32 0, .slice none 0 0]) ?_ 0 _ rfl; (with_reducible repeat (first | refine zh ?_ _ | refine zj ?_ | refine zi ?_ _)); exact BK181.out) hb); have n4_ := zm (zJ (by repeat (first | (with_reducible first | exact HB.out | apply ze | apply zd | apply zf | refine zk ?_ GE181.out) | exact HB.out)) hb); clear HO174; clear HO179; clear BK181; clear HB; have HO174 := n0_; have HO179 := n1_; have HO184 := n2_; have BK181 := n3_; have HB := n4_; clear n0_ n1_ n2_ n3_ n4_; (try clear hb); (try clear hb2); (try clear hk); (try clear hi); (try clear ho0); obtain ⟨Ao23, co23, eo23⟩ := Kd.R_slice HO184.out; subst eo23) | ((with_reducible refine gate_callee (f := 26) rfl ?_); refine goesL_ (some 15) rfl rfl Try.func26 (by kernel_rfl) rfl #[.slice Ao23 t182.length co23] rfl (by (try simp only [List.map_toArray, List.map_cons, List.map_nil]); first | done | rfl | (simp only [List.length_drop, List.length_take]; rfl)) ?_; (with_reducible refine (coder_Open.calls (fun k_ => some k_ = (.slice Ao23 t182.length co23 : Value).ownBlock) _ _ t182 t185 t186 t187 t190 _ ?side1 A4.out).mono ?_); (case side1 => exact Kd.R_V (Kd.R_tight rfl (Kd.R_types (HO184.out) BK181.out (by decide)))); rintro e w24 ⟨v188, rfl, ho0, hb⟩; refine ⟨_, rfl, ?_⟩; have n0_ := zm (Kd.R_below (by (with_reducible repeat (first | apply zo | apply zp | apply zq)); exact HO174.out) hb); have n1_ := zm (Kd.R_below (by (with_reducible repeat (first | apply zo | apply zp | apply zq)); exact HO179.out) hb); have n2_ := zm (Kd.R_below (by (with_reducible repeat (first | apply zo | apply zp | apply zq)); exact HO184.out) hb); have n3_ := zm (Kd.V_lower (zy (ok' := fun k_ => some k_ ≠ (.slice Ao17 t172.length co17 : Value).ownBlock ∧ some k_ ≠ (.slice Ao21 t177.length co21 : Value).ownBlock ∧ k_ ≠ gb181) ho0 (fun k_ hk_ => ⟨Or.elim hk_ (fun hs_ => ((Kd.R_types (HO184.out) BK181.out (by decide)).1 k_ hs_.symm).1.1.2) (fun hn_ => (Kd.fresh' (Kd.R_lt (by (with_reducible repeat (first | apply zo | apply zp | apply zq)); exact HO174.out)) k_ hn_)), Or.elim hk_ (fun hs_ => ((Kd.R_types (HO184.out) BK181.out (by decide)).1 k_ hs_.symm).1.2) (fun hn_ => (Kd.fresh' (Kd.R_lt (by (with_reducible repeat (first | apply zo | apply zp | apply zq)); exact HO179.out)) k_ hn_)), Or.elim hk_ (fun hs_ => ((Kd.R_types (HO184.out) BK181.out (by decide)).1 k_ hs_.symm).2) (fun hn_ => (Kd.freshB (g := gb181) (o := .cells #[.int .u64 t175, .int .u32 t176, .slice Ao21 t177.length co21] 26 (0, 0)) (by (with_reducible repeat (first | refine zh ?_ _ | refine zj ?_ | refine zi ?_ _)); exact BK181.out) k_ hn_))⟩)) (zE (by repeat (first | (with_reducible first | exact HB.out | apply ze | apply zd | apply zf | refine zk ?_ GE181.out) | exact HB.out)))); have n4_ := zm (zF (g := gb181) (o := .cells #[.int .u64 t175, .int .u32 t176, .slice Ao21 t177.length co21] 26 (0, 0)) (by (with_reducible repeat (first | refine zh ?_ _ | refine zj ?_ | refine zi ?_ _)); exact BK181.out) hb); have n5_ := zm (zJ (by repeat (first | (with_reducible first | exact HB.out | apply ze | apply zd | apply zf | refine zk ?_ GE181.out) | exact HB.out)) hb); clear HO174; clear HO179; clear HO184; clear BK181; clear HB; have HO174 := n0_; have HO179 := n1_; have HO184 := n2_; have HO189 := n3_; have BK181 := n4_; have HB := n5_; clear n0_ n1_ n2_ n3_ n4_ n5_; (try clear hb); (try clear hb2); (try clear hk); (try clear hi); (try clear ho0); obtain ⟨Ao25, co25, eo25⟩ := Kd.V_slice HO189.out; subst eo25) | ((with_reducible refine gate_callee (f := 32) rfl ?_); refine goesL_ (some 16) rfl rfl Try.func32 (by kernel_rfl) rfl #[.agg #[.int .u64 t185, .int .u32 t186, .slice Ao25 t187.length co25, .int .i64 t190], .int .i64 2] rfl (by (try simp only [List.map_toArray, List.map_cons, List.map_nil]); first | done | rfl | (simp only [List.length_drop, List.length_take]; rfl)) ?_; (with_reducible refine (coder_Get.calls t185 t186 _ _ t187 t190 2 t191 t192 _ ?side1 ?side2 A5.out).mono ?_); (case side1 => repeat (first | exact (Kd.V_reads' HO189.out).2.2 | (with_reducible refine Kd.C_alloc ?_ _) | (with_reducible refine Kd.C_drewN ?_ _) | (with_reducible refine Kd.C_drew ?_))); (case side2 => exact (Kd.V_reads' HO189.out).2.1); rintro e w26 ⟨rfl, hb⟩; refine ⟨_, rfl, ?_⟩; have n0_ := zm (Kd.R_below (by (with_reducible repeat (first | apply zo | apply zp | apply zq)); exact HO174.out) hb); have n1_ := zm (Kd.R_below (by (with_reducible repeat (first | apply zo | apply zp | apply zq)); exact HO179.out) hb); have n2_ := zm (Kd.R_below (by (with_reducible repeat (first | apply zo | apply zp | apply zq)); exact HO184.out) hb); have n3_ := zm (Kd.V_below (by (with_reducible repeat (first | apply zA | apply zB | apply zC)); exact HO189.out) hb); have n4_ := zm (zF (g := gb181) (o := .cells #[.int .u64 t175, .int .u32 t176, .slice Ao21 t177.length co21] 26 (0, 0)) (by (with_reducible repeat (first | refine zh ?_ _ | refine zj ?_ | refine zi ?_ _)); exact BK181.out) hb); have n5_ := zm (zJ (by repeat (first | (with_reducible first | exact HB.out | apply ze | apply zd | apply zf | refine zk ?_ GE181.out) | exact HB.out)) hb); clear HO174; clear HO179; clear HO184; clear HO189; clear BK181; clear HB; have HO174 := n0_; have HO179 := n1_; have HO184 := n2_; have HO189 := n3_; have BK181 := n4_; have HB := n5_; clear n0_ n1_ n2_ n3_ n4_ n5_; (try clear hb); (try clear hb2); (try clear hk); (try clear hi); have hcz27_0 : w26.cell? ⟨gb181, 0, none⟩ = some (.int .u64 t175) := (zs BK181.out 0).trans rfl; have hcz27_1 : w26.cell? ⟨gb181, 1, none⟩ = some (.int .u32 t176) := (zs BK181.out 1).trans rfl; have hcz27_2 : w26.cell? ⟨gb181, 2, none⟩ = some (.slice Ao21 t177.length co21) := (zs BK181.out 2).trans rfl; have hfz27_0 := zx BK181.out 0; have hfz27_1 := zx BK181.out 1; have hfz27_2 := zx BK181.out 2; have hcv28 := own_string (P := Try.prog) Try.underlying24 Try.underlying5 Try.underlying9 (Kd.own_of_R HO184.out)) | (go_at_call 21; (with_reducible refine (coder_RightEnc.calls t175 t176 _ _ t177 true _ ?side1 ?side2 A12.out).mono ?_); (case side1 => repeat (first | exact (Kd.R_reads' HO179.out).2.2 | (with_reducible refine Kd.C_alloc ?_ _) | (with_reducible refine Kd.C_drewN ?_ _) | (with_reducible refine Kd.C_drew ?_))); (case side2 => exact (Kd.R_reads' HO179.out).2.1); rintro e w29 ⟨rfl, hb⟩; have n0_ := zm (Kd.R_below (by (with_reducible repeat (first | apply zo | apply zp | apply zq)); exact HO174.out) hb); have n1_ := zm (Kd.R_below (by (with_reducible repeat (first | apply zo | apply zp | apply zq)); exact HO179.out) hb); have n2_ := zm (Kd.R_below (by (with_reducible repeat (first | apply zo | apply zp | apply zq)); exact HO184.out) hb); have n3_ := zm (Kd.V_below (by (with_reducible repeat (first | apply zA | apply zB | apply zC)); exact HO189.out) hb); have n4_ := zm (zF (g := gb181) (o := .cells #[.int .u64 t175, .int .u32 t176, .slice Ao21 t177.length co21] 26 (0, 0)) (by (with_reducible repeat (first | refine zh ?_ _ | refine zj ?_ | refine zi ?_ _)); exact BK181.out) hb); have n5_ := zm (zJ (by repeat (first | (with_reducible first | exact HB.out | apply ze | apply zd | apply zf | refine zk ?_ GE181.out) | exact HB.out)) hb); clear HO174; clear HO179; clear HO184; clear HO189; clear BK181; clear HB; have HO174 := n0_; have HO179 := n1_; have HO184 := n2_; have HO189 := n3_; have BK181 := n4_; have HB := n5_; clear n0_ n1_ n2_ n3_ n4_ n5_; (try clear hb); (try clear hb2); (try clear hk); (try clear hi)) | (go_at_call 26; (refine (coder_Open.calls (fun k_ => False) _ _ ([] : List Int) t194 t195 t196 t199 _ ?side1 A14.out).mono ?_); (case side1 => exact Kd.V_nil _ _ _ _ _); rintro e w30 ⟨v197, rfl, ho0, hb⟩; have n0_ := zm (Kd.R_below (by (with_reducible repeat (first | apply zo | apply zp | apply zq)); exact HO174.out) hb); have n1_ := zm (Kd.R_below (by (with_reducible repeat (first | apply zo | apply zp | apply zq)); exact HO179.out) hb); have n2_ := zm (Kd.R_below (by (with_reducible repeat (first | apply zo | apply zp | apply zq)); exact HO184.out) hb); have n3_ := zm (Kd.V_below (by (with_reducible repeat (first | apply zA | apply zB | apply zC)); exact HO189.out) hb); have n4_ := zm (Kd.V_lower (zy (ok' := fun k_ => some k_ ≠ (.slice Ao17 t172.length co17 : Value).ownBlock ∧ some k_ ≠ (.slice Ao21 t177.length co21 : Value).ownBlock ∧ some k_ ≠ (.slice Ao23 t182.length co23 : Value).ownBlock ∧ k_ ≠ gb181) ho0 (fun k_ hk_ => ⟨Or.elim hk_ (fun hs_ => (hs_).elim) (fun hn_ => (Kd.fresh' (Kd.R_lt (by (with_reducible repeat (first | apply zo | apply zp | apply zq)); exact HO174.out)) k_ hn_)), Or.elim hk_ (fun hs_ => (hs_).elim) (fun hn_ => (Kd.fresh' (Kd.R_lt (by (with_reducible repeat (first | apply zo | apply zp | apply zq)); exact HO179.out)) k_ hn_)), Or.elim hk_ (fun hs_ => (hs_).elim) (fun hn_ => (Kd.fresh' (Kd.R_lt (by (with_reducible repeat (first | apply zo | apply zp | apply zq)); exact HO184.out)) k_ hn_)), Or.elim hk_ (fun hs_ => (hs_).elim) (fun hn_ => (Kd.freshB (g := gb181) (o := .cells #[.int .u64 t175, .int .u32 t176, .slice Ao21 t177.length co21] 26 (0, 0)) (by (with_reducible repeat (first | refine zh ?_ _ | refine zj ?_ | refine zi ?_ _)); exact BK181.out) k_ hn_))⟩)) (zE (by repeat (first | (with_reducible first | exact HB.out | apply ze | apply zd | apply zf | refine zk ?_ GE181.out) | exact HB.out)))); have n5_ := zm (zF (g := gb181) (o := .cells #[.int .u64 t175, .int .u32 t176, .slice Ao21 t177.length co21] 26 (0, 0)) (by (with_reducible repeat (first | refine zh ?_ _ | refine zj ?_ | refine zi ?_ _)); exact BK181.out) hb); have n6_ := zm (zJ (by repeat (first | (with_reducible first | exact HB.out | apply ze | apply zd | apply zf | refine zk ?_ GE181.out) | exact HB.out)) hb); clear HO174; clear HO179; clear HO184; clear HO189; clear BK181; clear HB; have HO174 := n0_; have HO179 := n1_; have HO184 := n2_; have HO189 := n3_; have HO198 := n4_; have BK181 := n5_; have HB := n6_; clear n0_ n1_ n2_ n3_ n4_ n5_ n6_; (try clear hb); (try clear hb2); (try clear hk); (try clear hi); (try clear ho0); obtain ⟨Ao31, co31, eo31⟩ := Kd.V_slice HO198.out; subst eo31) | (go_at_call 28; (with_reducible refine (coder_RightDec.calls t194 t195 _ _ t196 t199 t200 _ ?side1 ?side2 A15.out).mono ?_); (case side1 => repeat (first | exact (Kd.V_reads' HO198.out).2.2 | (with_reducible refine Kd.C_alloc ?_ _) | (with_reducible refine Kd.C_drewN ?_ _) | (with_reducible refine Kd.C_drew ?_))); (case side2 => exact (Kd.V_reads' HO198.out).2.1); rintro e w32 ⟨rfl, hb⟩; have n0_ := zm (Kd.R_below (by (with_reducible repeat (first | apply zo | apply zp | apply zq)); exact HO174.out) hb); have n1_ := zm (Kd.R_below (by (with_reducible repeat (first | apply zo | apply zp | apply zq)); exact HO179.out) hb); have n2_ := zm (Kd.R_below (by (with_reducible repeat (first | apply zo | apply zp | apply zq)); exact HO184.out) hb); have n3_ := zm (Kd.V_below (by (with_reducible repeat (first | apply zA | apply zB | apply zC)); exact HO189.out) hb); have n4_ := zm (Kd.V_below (by (with_reducible repeat (first | apply zA | apply zB | apply zC)); exact HO198.out) hb); have n5_ := zm (zF (g := gb181) (o := .cells #[.int .u64 t175, .int .u32 t176, .slice Ao21 t177.length co21] 26 (0, 0)) (by (with_reducible repeat (first | refine zh ?_ _ | refine zj ?_ | refine zi ?_ _)); exact BK181.out) hb); have n6_ := zm (zJ (by repeat (first | (with_reducible first | exact HB.out | apply ze | apply zd | apply zf | refine zk ?_ GE181.out) | exact HB.out)) hb); clear HO174; clear HO179; clear HO184; clear HO189; clear HO198; clear BK181; clear HB; have HO174 := n0_; have HO179 := n1_; have HO184 := n2_; have HO189 := n3_; have HO198 := n4_; have BK181 := n5_; have HB := n6_; clear n0_ n1_ n2_ n3_ n4_ n5_ n6_; (try clear hb); (try clear hb2); (try clear hk); (try clear hi)))
        go_ret
        exact ⟨by first | rfl | (simp [errW_none, errW_some] <;> rfl) | (simp [*, errW_none, errW_some] <;> rfl), by repeat (first | (with_reducible first | exact HB.out | apply ze | apply zd | apply zf | refine zk ?_ GE181.out) | exact HB.out)⟩
       ·
        replace c13 := Bool.eq_false_iff.mpr c13
        subst c13
        have H1 : (none) = some r := by rw [if_neg (show ¬ (false = true) by decide)] at H; exact H
        clear H
        have H := H1
        clear H1
        exact absurd H (by simp)
      ·
       rw [if_neg c11] at H
       exact absurd H (by simp)
     ·
      rw [if_neg c10] at H
      exact absurd H (by simp)
    ·
     rw [if_neg c9] at H
     exact absurd H (by simp)
   ·
    rw [if_neg c8] at H
    exact absurd H (by simp)
  ·
   rw [if_neg c7] at H
   exact absurd H (by simp)
 ·
  rw [if_neg c6] at H
  exact absurd H (by simp)

end Go.Proofs.Ytkaoiblgfpphoaa.Prt
