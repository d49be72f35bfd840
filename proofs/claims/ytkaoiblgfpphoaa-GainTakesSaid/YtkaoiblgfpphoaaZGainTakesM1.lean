-- Functions of the program and of the document as plain Lean, each with the proof that the code comes to it. Written by a program of this session (wip/tools/myprint.py, pack.py) over the kit's printer; Lean checks it.
import Derived.Test.YtkaoiblgfpphoaaZGainTakesPrt0
namespace Go.Proofs.Ytkaoiblgfpphoaa.Prt
open Go.RowKit Go.Proofs.YtkaoiblgfpphoaaW.PrintWords Go.Proofs.YtkaoiblgfpphoaaW.PrintLast Go.Proofs.YtkaoiblgfpphoaaW.PrintMore
attribute [local go_sem] max2_int min2_int max_two min_two max_three min_three max_four min_four   -- for this text's walks alone
set_option linter.unusedVariables false
set_option linter.unusedSimpArgs false

/-! ### coder_at: function 58 -/
def coder_at.f (l0 : List Int) (a1 : Int) : Option (Int) := if a1 ≥ (l0.length : Int) then (some 0) else (if 0 ≤ a1 then (if a1 < (l0.length : Int) then (some (IntKind.u64.wrap (rd l0 a1))) else (none)) else (none))
set_option maxHeartbeats 8000000 in
set_option maxRecDepth 100000 in
theorem coder_at.calls (A0 : Option Addr) (c0 : Nat) (l0 : List Int) (a1 : Int) (r : Int) (w : World) (hr0 : Kd.C (Kd.int .u8) w A0 l0.length l0) (hc0 : l0.length ≤ c0) (h : coder_at.f l0 a1 = some r) :
  Calls Try.prog 58 #[.slice A0 l0.length c0, .int .i64 a1] w fun e w' => e = .returned (.int .u64 r) ∧ Drawn0 w w' := by
 have HR0 := zm hr0
 have HC0 := zm hc0
 clear hr0 hc0
 have H : (if a1 ≥ (l0.length : Int) then (some 0) else (if 0 ≤ a1 then (if a1 < (l0.length : Int) then (some (IntKind.u64.wrap (rd l0 a1))) else (none)) else (none))) = some r := h
 clear h
 by_cases c3 : a1 ≥ (l0.length : Int)
 ·
  rw [if_pos c3] at H
  have c3b0 : decide ((l0.length : Int) ≤ a1) = true := decide_eq_true c3
  clear c3
  obtain rfl := Option.some.inj H
  go_enter Try.func58, Try.ntmps58
  go_wp2
  go_ret
  exact ⟨by first | rfl | (simp; done) | (simp [*]; done), by repeat (first | exact Drawn0.refl _ | apply Drawn0.step)⟩
 ·
  rw [if_neg c3] at H
  have c3b0 : decide ((l0.length : Int) ≤ a1) = false := decide_eq_false c3
  clear c3
  by_cases c4 : 0 ≤ a1
  ·
   rw [if_pos c4] at H
   have c4b0 : decide (0 ≤ a1) = true := decide_eq_true c4
   clear c4
   by_cases c5 : a1 < (l0.length : Int)
   ·
    rw [if_pos c5] at H
    have c5b0 : decide (a1 < (l0.length : Int)) = true := decide_eq_true c5
    clear c5
    obtain rfl := Option.some.inj H
    have p146 : 0 ≤ (a1 : Int) := of_decide_eq_true (by first | (with_reducible assumption) | assumption)
    have q146 : a1 < (l0.length : Int) := of_decide_eq_true (by first | (with_reducible assumption) | assumption)
    obtain ⟨ad146, e146, hx146_0⟩ := Kd.at_int HR0.out a1 p146 q146
    cases e146
    replace p146 := eq_true p146
    replace q146 := eq_true q146
    go_enter Try.func58, Try.ntmps58
    go_wp2
    go_ret
    exact ⟨by first | rfl | (simp; done) | (simp [*]; done), by repeat (first | exact Drawn0.refl _ | apply Drawn0.step)⟩
   ·
    rw [if_neg c5] at H
    exact absurd H (by simp)
  ·
   rw [if_neg c4] at H
   exact absurd H (by simp)

end Go.Proofs.Ytkaoiblgfpphoaa.Prt

namespace Go.Proofs.Ytkaoiblgfpphoaa.Prt
open Go.RowKit Go.Proofs.YtkaoiblgfpphoaaW.PrintWords Go.Proofs.YtkaoiblgfpphoaaW.PrintLast Go.Proofs.YtkaoiblgfpphoaaW.PrintMore
attribute [local go_sem] max2_int min2_int max_two min_two max_three min_three max_four min_four   -- for this text's walks alone
set_option linter.unusedVariables false
set_option linter.unusedSimpArgs false

/-! ### coder_fair: function 52 -/
def coder_fair.f (a0 : Int) (a1 : Int) (a2 : Int) : Option (Bool) := if a0 ≥ 0 then (if a0 < a1 then (if a1 ≤ a2 then (some (decide (a2 ≤ 65536))) else (some false)) else (some false)) else (some false)
set_option maxHeartbeats 8000000 in
set_option maxRecDepth 100000 in
theorem coder_fair.calls (a0 : Int) (a1 : Int) (a2 : Int) (r : Bool) (w : World) (h : coder_fair.f a0 a1 a2 = some r) :
  Calls Try.prog 52 #[.int .i64 a0, .int .i64 a1, .int .i64 a2] w fun e w' => e = .returned (.bool r) ∧ Drawn0 w w' := by
 have H : (if a0 ≥ 0 then (if a0 < a1 then (if a1 ≤ a2 then (some (decide (a2 ≤ 65536))) else (some false)) else (some false)) else (some false)) = some r := h
 clear h
 by_cases c4 : a0 ≥ 0
 ·
  rw [if_pos c4] at H
  have c4b0 : decide (0 ≤ a0) = true := decide_eq_true c4
  clear c4
  by_cases c5 : a0 < a1
  ·
   rw [if_pos c5] at H
   have c5b0 : decide (a0 < a1) = true := decide_eq_true c5
   clear c5
   by_cases c6 : a1 ≤ a2
   ·
    rw [if_pos c6] at H
    have c6b0 : decide (a1 ≤ a2) = true := decide_eq_true c6
    clear c6
    obtain rfl := Option.some.inj H
    go_enter Try.func52, Try.ntmps52
    go_wp2
    go_ret
    exact ⟨by first | rfl | (simp; done) | (simp [*]; done), by repeat (first | exact Drawn0.refl _ | apply Drawn0.step)⟩
   ·
    rw [if_neg c6] at H
    have c6b0 : decide (a1 ≤ a2) = false := decide_eq_false c6
    clear c6
    obtain rfl := Option.some.inj H
    go_enter Try.func52, Try.ntmps52
    go_wp2
    go_ret
    exact ⟨by first | rfl | (simp; done) | (simp [*]; done), by repeat (first | exact Drawn0.refl _ | apply Drawn0.step)⟩
  ·
   rw [if_neg c5] at H
   have c5b0 : decide (a0 < a1) = false := decide_eq_false c5
   clear c5
   obtain rfl := Option.some.inj H
   go_enter Try.func52, Try.ntmps52
   go_wp2
   go_ret
   exact ⟨by first | rfl | (simp; done) | (simp [*]; done), by repeat (first | exact Drawn0.refl _ | apply Drawn0.step)⟩
 ·
  rw [if_neg c4] at H
  have c4b0 : decide (0 ≤ a0) = false := decide_eq_false c4
  clear c4
  obtain rfl := Option.some.inj H
  go_enter Try.func52, Try.ntmps52
  go_wp2
  go_ret
  exact ⟨by first | rfl | (simp; done) | (simp [*]; done), by repeat (first | exact Drawn0.refl _ | apply Drawn0.step)⟩

end Go.Proofs.Ytkaoiblgfpphoaa.Prt

namespace Go.Proofs.Ytkaoiblgfpphoaa.Prt
open Go.RowKit Go.Proofs.YtkaoiblgfpphoaaW.PrintWords Go.Proofs.YtkaoiblgfpphoaaW.PrintLast Go.Proofs.YtkaoiblgfpphoaaW.PrintMore
attribute [local go_sem] max2_int min2_int max_two min_two max_three min_three max_four min_four   -- for this text's walks alone
set_option linter.unusedVariables false
set_option linter.unusedSimpArgs false

/-! ### coder_Open: function 26 -/
def coder_Open.f (l0 : List Int) : Option (Int × Int × List Int × Int) := (coder_at.f l0 0).bind fun t148 => ((coder_at.f l0 1).bind fun t149 => ((coder_at.f l0 2).bind fun t150 => ((coder_at.f l0 3).bind fun t151 => (some (Go.bits .or .u64 (Go.bits .or .u64 (Go.bits .or .u64 (IntKind.u64.wrap (t148 * 16777216)) (IntKind.u64.wrap (t149 * 65536))) (IntKind.u64.wrap (t150 * 256))) t151, 4294967295, l0, 4)))))
set_option maxHeartbeats 8000000 in
set_option maxRecDepth 100000 in
theorem coder_Open.calls (P0_ : Nat → Prop) (A0 : Option Addr) (c0 : Nat) (l0 : List Int) (r1 : Int) (r2 : Int) (r3 : List Int) (r4 : Int) (w : World) (hs0 : Kd.V (Kd.int .u8) 5 w w.heap.size (fun k_ => P0_ k_) (.slice A0 l0.length c0) l0) (h : coder_Open.f l0 = some (r1, r2, r3, r4)) :
  Calls Try.prog 26 #[.slice A0 l0.length c0] w fun e w' => ∃ v2_ : Value, e = .returned (.agg #[.int .u64 r1, .int .u32 r2, v2_, .int .i64 r4]) ∧ Kd.V (Kd.int .u8) 5 w' w.heap.size (fun k_ => (P0_ k_ ∨ w.heap.size ≤ k_)) v2_ r3 ∧ Below w.heap.size w w' := by
 have hu43 := Try.underlying43
 have HO0 := zm (show Kd.V (Kd.int .u8) 5 w w.heap.size (fun k_ => (P0_ k_ ∨ w.heap.size ≤ k_)) (.slice A0 l0.length c0) l0 from zy hs0 (fun k_ hk => .inl hk))
 have HB := zm (Below.refl w.heap.size w)
 have H : ((coder_at.f l0 0).bind fun t148 => ((coder_at.f l0 1).bind fun t149 => ((coder_at.f l0 2).bind fun t150 => ((coder_at.f l0 3).bind fun t151 => (some (Go.bits .or .u64 (Go.bits .or .u64 (Go.bits .or .u64 (IntKind.u64.wrap (t148 * 16777216)) (IntKind.u64.wrap (t149 * 65536))) (IntKind.u64.wrap (t150 * 256))) t151, 4294967295, l0, 4)))))) = some (r1, r2, r3, r4) := h
 clear h
 replace H := Option.bind_eq_some_iff.mp H
 obtain ⟨t148, A20, H⟩ := H
 replace H : ((coder_at.f l0 1).bind fun t149 => ((coder_at.f l0 2).bind fun t150 => ((coder_at.f l0 3).bind fun t151 => (some (Go.bits .or .u64 (Go.bits .or .u64 (Go.bits .or .u64 (IntKind.u64.wrap (t148 * 16777216)) (IntKind.u64.wrap (t149 * 65536))) (IntKind.u64.wrap (t150 * 256))) t151, 4294967295, l0, 4))))) = some (r1, r2, r3, r4) := H
 have A2 := zm A20
 clear A20
 replace H := Option.bind_eq_some_iff.mp H
 obtain ⟨t149, A30, H⟩ := H
 replace H : ((coder_at.f l0 2).bind fun t150 => ((coder_at.f l0 3).bind fun t151 => (some (Go.bits .or .u64 (Go.bits .or .u64 (Go.bits .or .u64 (IntKind.u64.wrap (t148 * 16777216)) (IntKind.u64.wrap (t149 * 65536))) (IntKind.u64.wrap (t150 * 256))) t151, 4294967295, l0, 4)))) = some (r1, r2, r3, r4) := H
 have A3 := zm A30
 clear A30
 replace H := Option.bind_eq_some_iff.mp H
 obtain ⟨t150, A40, H⟩ := H
 replace H : ((coder_at.f l0 3).bind fun t151 => (some (Go.bits .or .u64 (Go.bits .or .u64 (Go.bits .or .u64 (IntKind.u64.wrap (t148 * 16777216)) (IntKind.u64.wrap (t149 * 65536))) (IntKind.u64.wrap (t150 * 256))) t151, 4294967295, l0, 4))) = some (r1, r2, r3, r4) := H
 have A4 := zm A40
 clear A40
 replace H := Option.bind_eq_some_iff.mp H
 obtain ⟨t151, A50, H⟩ := H
 replace H : (some (Go.bits .or .u64 (Go.bits .or .u64 (Go.bits .or .u64 (IntKind.u64.wrap (t148 * 16777216)) (IntKind.u64.wrap (t149 * 65536))) (IntKind.u64.wrap (t150 * 256))) t151, 4294967295, l0, 4)) = some (r1, r2, r3, r4) := H
 have A5 := zm A50
 clear A50
 simp only [Option.some.injEq, Prod.mk.injEq] at H
 obtain ⟨rfl, rfl, rfl, rfl⟩ := H
 go_enter Try.func26, Try.ntmps26
 go_wp2_with (first | ((with_reducible refine gate_dst (N := 2) rfl ?_); refine box_event ?hg (N := 2) ?hd (cs := #[.int .u64 0, .int .u32 0, .slice none 0 0, .int .i64 0]) (t := 43) ?hr ?_; (case hd => rfl); (case hg => rfl); (case hr => first | (go_simp; done) | (go_simp; rfl)); intro gb147 hg w6 hbox hb; have n0_ := zm (Kd.V_below (Kd.V_elderB (by (with_reducible repeat (first | apply zA | apply zB | apply zC)); exact HO0.out) gb147 (Nat.le_of_eq hg.symm)) hb); have n1_ := zm (zJ (by repeat (first | (with_reducible first | exact HB.out | apply ze | apply zd | apply zf) | exact HB.out)) hb); have n2_ := zm (hbox); have n3_ := zm ((by rw [hg]; exact (zE (by repeat (first | (with_reducible first | exact HB.out | apply ze | apply zd | apply zf) | exact HB.out))) : w.heap.size ≤ gb147)); have n4_ := zm ((by rw [hg]; exact (zE (by repeat (first | (with_reducible first | exact HB.out | apply ze | apply zd | apply zf) | exact HB.out))) : w.heap.size ≤ gb147)); clear HO0; clear HB; have HO0 := n0_; have HB := n1_; have BK147 := n2_; have GW147 := n3_; have GE147 := n4_; clear n0_ n1_ n2_ n3_ n4_; clear hb hbox hg) | ((with_reducible refine gate_callee (f := 58) rfl ?_); refine goesL_ (some 4) rfl rfl Try.func58 (by kernel_rfl) rfl #[.slice A0 l0.length c0, .int .i64 0] rfl (by (try simp only [List.map_toArray, List.map_cons, List.map_nil]); first | done | rfl | (simp only [List.length_drop, List.length_take]; rfl)) ?_; (with_reducible refine (coder_at.calls _ _ l0 0 t148 _ ?side1 ?side2 A2.out).mono ?_); (case side1 => repeat (first | exact (Kd.V_reads' HO0.out).2.2 | (with_reducible refine Kd.C_alloc ?_ _) | (with_reducible refine Kd.C_drewN ?_ _) | (with_reducible refine Kd.C_drew ?_))); (case side2 => exact (Kd.V_reads' HO0.out).2.1); rintro e w' ⟨rfl, ⟨nd, rfl⟩⟩; refine ⟨_, rfl, ?_⟩; (try (rw [drewN_self w6]; generalize hq_ : World.drewN w6 _ = w6; have n0_ : Aside0 (Kd.V (Kd.int .u8) 5 w6 w.heap.size (fun k_ => (P0_ k_ ∨ w.heap.size ≤ k_) ∧ k_ ≠ gb147) (.slice A0 l0.length c0) l0) := ⟨by rw [← hq_]; exact (by (with_reducible repeat (first | apply zA | apply zB | apply zC)); exact HO0.out)⟩; have n1_ : Aside0 (w6.heap[gb147]? = some (.cells #[.int .u64 0, .int .u32 0, .slice none 0 0, .int .i64 0] 43 (0, 0))) := ⟨by rw [← hq_]; exact (by (with_reducible repeat (first | refine zh ?_ _ | refine zj ?_ | refine zi ?_ _)); exact BK147.out)⟩; have n2_ : Aside0 (Below w.heap.size w w6) := ⟨by rw [← hq_]; exact (by repeat (first | (with_reducible first | exact HB.out | apply ze | apply zd | apply zf | refine zk ?_ GE147.out) | exact HB.out))⟩; clear HO0 BK147 HB hq_; have HO0 := n0_; have BK147 := n1_; have HB := n2_; clear n0_ n1_ n2_))) | ((with_reducible refine gate_callee (f := 58) rfl ?_); refine goesL_ (some 7) rfl rfl Try.func58 (by kernel_rfl) rfl #[.slice A0 l0.length c0, .int .i64 1] rfl (by (try simp only [List.map_toArray, List.map_cons, List.map_nil]); first | done | rfl | (simp only [List.length_drop, List.length_take]; rfl)) ?_; (with_reducible refine (coder_at.calls _ _ l0 1 t149 _ ?side1 ?side2 A3.out).mono ?_); (case side1 => repeat (first | exact (Kd.V_reads' HO0.out).2.2 | (with_reducible refine Kd.C_alloc ?_ _) | (with_reducible refine Kd.C_drewN ?_ _) | (with_reducible refine Kd.C_drew ?_))); (case side2 => exact (Kd.V_reads' HO0.out).2.1); rintro e w' ⟨rfl, ⟨nd, rfl⟩⟩; refine ⟨_, rfl, ?_⟩; (try (rw [drewN_self w6]; generalize hq_ : World.drewN w6 _ = w6; have n0_ : Aside0 (Kd.V (Kd.int .u8) 5 w6 w.heap.size (fun k_ => (P0_ k_ ∨ w.heap.size ≤ k_) ∧ k_ ≠ gb147) (.slice A0 l0.length c0) l0) := ⟨by rw [← hq_]; exact (by (with_reducible repeat (first | apply zA | apply zB | apply zC)); exact HO0.out)⟩; have n1_ : Aside0 (w6.heap[gb147]? = some (.cells #[.int .u64 0, .int .u32 0, .slice none 0 0, .int .i64 0] 43 (0, 0))) := ⟨by rw [← hq_]; exact (by (with_reducible repeat (first | refine zh ?_ _ | refine zj ?_ | refine zi ?_ _)); exact BK147.out)⟩; have n2_ : Aside0 (Below w.heap.size w w6) := ⟨by rw [← hq_]; exact (by repeat (first | (with_reducible first | exact HB.out | apply ze | apply zd | apply zf | refine zk ?_ GE147.out) | exact HB.out))⟩; clear HO0 BK147 HB hq_; have HO0 := n0_; have BK147 := n1_; have HB := n2_; clear n0_ n1_ n2_))) | ((with_reducible refine gate_callee (f := 58) rfl ?_); refine goesL_ (some 11) rfl rfl Try.func58 (by kernel_rfl) rfl #[.slice A0 l0.length c0, .int .i64 2] rfl (by (try simp only [List.map_toArray, List.map_cons, List.map_nil]); first | done | rfl | (simp only [List.length_drop, List.length_take]; rfl)) ?_; (with_reducible refine (coder_at.calls _ _ l0 2 t150 _ ?side1 ?side2 A4.out).mono ?_); (case side1 => repeat (first | exact (Kd.V_reads' HO0.out).2.2 | (with_reducible refine Kd.C_alloc ?_ _) | (with_reducible refine Kd.C_drewN ?_ _) | (with_reducible refine Kd.C_drew ?_))); (case side2 => exact (Kd.V_reads' HO0.out).2.1); rintro e w' ⟨rfl, ⟨nd, rfl⟩⟩; refine ⟨_, rfl, ?_⟩; (try (rw [drewN_self w6]; generalize hq_ : World.drewN w6 _ = w6; have n0_ : Aside0 (Kd.V (Kd.int .u8) 5 w6 w.heap.size (fun k_ => (P0_ k_ ∨ w.heap.size ≤ k_) ∧ k_ ≠ gb147) (.slice A0 l0.length c0) l0) := ⟨by rw [← hq_]; exact (by (with_reducible repeat (first | apply zA | apply zB | apply zC)); exact HO0.out)⟩; have n1_ : Aside0 (w6.heap[gb147]? = some (.cells #[.int .u64 0, .int .u32 0, .slice none 0 0, .int .i64 0] 43 (0, 0))) := ⟨by rw [← hq_]; exact (by (with_reducible repeat (first | refine zh ?_ _ | refine zj ?_ | refine zi ?_ _)); exact BK147.out)⟩; have n2_ : Aside0 (Below w.heap.size w w6) := ⟨by rw [← hq_]; exact (by repeat (first | (with_reducible first | exact HB.out | apply ze | apply zd | apply zf | refine zk ?_ GE147.out) | exact HB.out))⟩; clear HO0 BK147 HB hq_; have HO0 := n0_; have BK147 := n1_; have HB := n2_; clear n0_ n1_ n2_))) | ((with_reducible refine gate_callee (f := 58) rfl ?_); refine goesL_ (some 15) rfl rfl Try.func58 (by kernel_rfl) rfl #[.slice A0 l0.length c0, .int .i64 3] rfl (by (try simp only [List.map_toArray, List.map_cons, List.map_nil]); first | done | rfl | (simp only [List.length_drop, List.length_take]; rfl)) ?_; (with_reducible refine (coder_at.calls _ _ l0 3 t151 _ ?side1 ?side2 A5.out).mono ?_); (case side1 => repeat (first | exact (Kd.V_reads' HO0.out).2.2 | (with_reducible refine Kd.C_alloc ?_ _) | (with_reducible refine Kd.C_drewN ?_ _) | (with_reducible refine Kd.C_drew ?_))); (case side2 => exact (Kd.V_reads' HO0.out).2.1); rintro e w' ⟨rfl, ⟨nd, rfl⟩⟩; refine ⟨_, rfl, ?_⟩; (try (rw [drewN_self w6]; generalize hq_ : World.drewN w6 _ = w6; have n0_ : Aside0 (Kd.V (Kd.int .u8) 5 w6 w.heap.size (fun k_ => (P0_ k_ ∨ w.heap.size ≤ k_) ∧ k_ ≠ gb147) (.slice A0 l0.length c0) l0) := ⟨by rw [← hq_]; exact (by (with_reducible repeat (first | apply zA | apply zB | apply zC)); exact HO0.out)⟩; have n1_ : Aside0 (w6.heap[gb147]? = some (.cells #[.int .u64 0, .int .u32 0, .slice none 0 0, .int .i64 0] 43 (0, 0))) := ⟨by rw [← hq_]; exact (by (with_reducible repeat (first | refine zh ?_ _ | refine zj ?_ | refine zi ?_ _)); exact BK147.out)⟩; have n2_ : Aside0 (Below w.heap.size w w6) := ⟨by rw [← hq_]; exact (by repeat (first | (with_reducible first | exact HB.out | apply ze | apply zd | apply zf | refine zk ?_ GE147.out) | exact HB.out))⟩; clear HO0 BK147 HB hq_; have HO0 := n0_; have BK147 := n1_; have HB := n2_; clear n0_ n1_ n2_)); have hcz7_0 : w6.cell? ⟨gb147, 0, none⟩ = some (.int .u64 0) := (zs BK147.out 0).trans rfl; have hcz7_1 : w6.cell? ⟨gb147, 1, none⟩ = some (.int .u32 0) := (zs BK147.out 1).trans rfl; have hcz7_2 : w6.cell? ⟨gb147, 2, none⟩ = some (.slice none 0 0) := (zs BK147.out 2).trans rfl; have hcz7_3 : w6.cell? ⟨gb147, 3, none⟩ = some (.int .i64 0) := (zs BK147.out 3).trans rfl; have hfz7_0 := zx BK147.out 0; have hfz7_1 := zx BK147.out 1; have hfz7_2 := zx BK147.out 2; have hfz7_3 := zx BK147.out 3))
 refine bodyPost_ret (results_cell_row rfl _ _ gb147 43 #[.int .u64 (Go.bits .or .u64 (Go.bits .or .u64 (Go.bits .or .u64 (IntKind.u64.wrap (t148 * 16777216)) (IntKind.u64.wrap (t149 * 65536))) (IntKind.u64.wrap (t150 * 256))) t151), .int .u32 4294967295, .slice A0 l0.length c0, .int .i64 4] (0, 0) _ rfl (by (with_reducible repeat (first | refine zh ?_ _ | refine zj ?_ | refine zi ?_ _)); refine zw (cs := #[.int .u64 (Go.bits .or .u64 (Go.bits .or .u64 (Go.bits .or .u64 (IntKind.u64.wrap (t148 * 16777216)) (IntKind.u64.wrap (t149 * 65536))) (IntKind.u64.wrap (t150 * 256))) t151), .int .u32 4294967295, .slice A0 l0.length c0, .int .i64 0]) ?_ 3 _ rfl; (with_reducible repeat (first | refine zh ?_ _ | refine zj ?_ | refine zi ?_ _)); refine zw (cs := #[.int .u64 (Go.bits .or .u64 (Go.bits .or .u64 (Go.bits .or .u64 (IntKind.u64.wrap (t148 * 16777216)) (IntKind.u64.wrap (t149 * 65536))) (IntKind.u64.wrap (t150 * 256))) t151), .int .u32 4294967295, .slice none 0 0, .int .i64 0]) ?_ 2 _ rfl; (with_reducible repeat (first | refine zh ?_ _ | refine zj ?_ | refine zi ?_ _)); refine zw (cs := #[.int .u64 (Go.bits .or .u64 (Go.bits .or .u64 (Go.bits .or .u64 (IntKind.u64.wrap (t148 * 16777216)) (IntKind.u64.wrap (t149 * 65536))) (IntKind.u64.wrap (t150 * 256))) t151), .int .u32 0, .slice none 0 0, .int .i64 0]) ?_ 1 _ rfl; (with_reducible repeat (first | refine zh ?_ _ | refine zj ?_ | refine zi ?_ _)); refine zw (cs := #[.int .u64 0, .int .u32 0, .slice none 0 0, .int .i64 0]) ?_ 0 _ rfl; (with_reducible repeat (first | refine zh ?_ _ | refine zj ?_ | refine zi ?_ _)); exact BK147.out) Try.underlying43 rfl (by kernel_rfl)) rfl ?_
 exact ⟨_, by first | rfl | (simp [errW_none, errW_some] <;> rfl) | (simp [*, errW_none, errW_some] <;> rfl), by (with_reducible repeat (first | apply zA | apply zB | apply zC)); exact zy (zI (p := ⟨gb147, 3, none⟩) (zI (p := ⟨gb147, 2, none⟩) (zI (p := ⟨gb147, 1, none⟩) (zI (p := ⟨gb147, 0, none⟩) (zy HO0.out (fun k_ hk => (⟨hk, hk.2⟩ : _ ∧ k_ ≠ gb147))) (fun _ hk => hk.2) (.int .u64 (Go.bits .or .u64 (Go.bits .or .u64 (Go.bits .or .u64 (IntKind.u64.wrap (t148 * 16777216)) (IntKind.u64.wrap (t149 * 65536))) (IntKind.u64.wrap (t150 * 256))) t151))) (fun _ hk => hk.2) (.int .u32 4294967295)) (fun _ hk => hk.2) (.slice A0 l0.length c0)) (fun _ hk => hk.2) (.int .i64 4)) (fun _ hk => hk.1.1), by repeat (first | (with_reducible first | exact HB.out | apply ze | apply zd | apply zf | refine zk ?_ GE147.out) | exact HB.out)⟩

end Go.Proofs.Ytkaoiblgfpphoaa.Prt

namespace Go.Proofs.Ytkaoiblgfpphoaa.Prt
open Go.RowKit Go.Proofs.YtkaoiblgfpphoaaW.PrintWords Go.Proofs.YtkaoiblgfpphoaaW.PrintLast Go.Proofs.YtkaoiblgfpphoaaW.PrintMore
attribute [local go_sem] max2_int min2_int max_two min_two max_three min_three max_four min_four   -- for this text's walks alone
set_option linter.unusedVariables false
set_option linter.unusedSimpArgs false

/-! ### coder_RightDec: function 28 -/
def coder_RightDec.f (a0_0 : Int) (a0_1 : Int) (l0_2 : List Int) (a0_3 : Int) : Option (Bool) := if a0_0 ≤ 4294967295 then (if a0_1 ≥ 16777216 then (some (decide (a0_3 ≥ 0))) else (some false)) else (some false)
set_option maxHeartbeats 8000000 in
set_option maxRecDepth 100000 in
theorem coder_RightDec.calls (a0_0 : Int) (a0_1 : Int) (A0_2 : Option Addr) (c0_2 : Nat) (l0_2 : List Int) (a0_3 : Int) (r : Bool) (w : World) (hr0_2 : Kd.C (Kd.int .u8) w A0_2 l0_2.length l0_2) (hc0_2 : l0_2.length ≤ c0_2) (h : coder_RightDec.f a0_0 a0_1 l0_2 a0_3 = some r) :
  Calls Try.prog 28 #[.agg #[.int .u64 a0_0, .int .u32 a0_1, .slice A0_2 l0_2.length c0_2, .int .i64 a0_3]] w fun e w' => e = .returned (.bool r) ∧ Below w.heap.size w w' := by
 have hu43 := Try.underlying43
 have HR0_2 := zm hr0_2
 have HC0_2 := zm hc0_2
 clear hr0_2 hc0_2
 have HB := zm (Below.refl w.heap.size w)
 have H : (if a0_0 ≤ 4294967295 then (if a0_1 ≥ 16777216 then (some (decide (a0_3 ≥ 0))) else (some false)) else (some false)) = some r := h
 clear h
 by_cases c2 : a0_0 ≤ 4294967295
 ·
  rw [if_pos c2] at H
  have c2b0 : decide (a0_0 ≤ 4294967295) = true := decide_eq_true c2
  clear c2
  by_cases c3 : a0_1 ≥ 16777216
  ·
   rw [if_pos c3] at H
   have c3b0 : decide (16777216 ≤ a0_1) = true := decide_eq_true c3
   clear c3
   obtain rfl := Option.some.inj H
   go_enter Try.func28, Try.ntmps28
   go_wp2_with (first | ((with_reducible refine gate_dst (N := 1) rfl ?_); refine box_event ?hg (N := 1) ?hd (cs := #[.int .u64 a0_0, .int .u32 a0_1, .slice A0_2 l0_2.length c0_2, .int .i64 a0_3]) (t := 43) ?hr ?_; (case hd => rfl); (case hg => rfl); (case hr => first | (go_simp; done) | (go_simp; rfl)); intro gb152 hg w4 hbox hb; have n0_ := zm (zJ (by repeat (first | (with_reducible first | exact HB.out | apply ze | apply zd | apply zf) | exact HB.out)) hb); have n1_ := zm (hbox); have n2_ := zm ((by rw [hg]; exact (zE (by repeat (first | (with_reducible first | exact HB.out | apply ze | apply zd | apply zf) | exact HB.out))) : w.heap.size ≤ gb152)); have n3_ := zm ((by rw [hg]; exact (zE (by repeat (first | (with_reducible first | exact HB.out | apply ze | apply zd | apply zf) | exact HB.out))) : w.heap.size ≤ gb152)); clear HB; have HB := n0_; have BK152 := n1_; have GW152 := n2_; have GE152 := n3_; clear n0_ n1_ n2_ n3_; clear hb hbox hg; have hcz5_0 : w4.cell? ⟨gb152, 0, none⟩ = some (.int .u64 a0_0) := (zs BK152.out 0).trans rfl; have hcz5_1 : w4.cell? ⟨gb152, 1, none⟩ = some (.int .u32 a0_1) := (zs BK152.out 1).trans rfl; have hcz5_2 : w4.cell? ⟨gb152, 2, none⟩ = some (.slice A0_2 l0_2.length c0_2) := (zs BK152.out 2).trans rfl; have hcz5_3 : w4.cell? ⟨gb152, 3, none⟩ = some (.int .i64 a0_3) := (zs BK152.out 3).trans rfl; have hfz5_0 := zx BK152.out 0; have hfz5_1 := zx BK152.out 1; have hfz5_2 := zx BK152.out 2; have hfz5_3 := zx BK152.out 3))
   go_ret
   exact ⟨by first | rfl | (simp [errW_none, errW_some] <;> rfl) | (simp [*, errW_none, errW_some] <;> rfl), by repeat (first | (with_reducible first | exact HB.out | apply ze | apply zd | apply zf | refine zk ?_ GE152.out) | exact HB.out)⟩
  ·
   rw [if_neg c3] at H
   have c3b0 : decide (16777216 ≤ a0_1) = false := decide_eq_false c3
   clear c3
   obtain rfl := Option.some.inj H
   go_enter Try.func28, Try.ntmps28
   go_wp2_with (first | ((with_reducible refine gate_dst (N := 1) rfl ?_); refine box_event ?hg (N := 1) ?hd (cs := #[.int .u64 a0_0, .int .u32 a0_1, .slice A0_2 l0_2.length c0_2, .int .i64 a0_3]) (t := 43) ?hr ?_; (case hd => rfl); (case hg => rfl); (case hr => first | (go_simp; done) | (go_simp; rfl)); intro gb152 hg w6 hbox hb; have n0_ := zm (zJ (by repeat (first | (with_reducible first | exact HB.out | apply ze | apply zd | apply zf) | exact HB.out)) hb); have n1_ := zm (hbox); have n2_ := zm ((by rw [hg]; exact (zE (by repeat (first | (with_reducible first | exact HB.out | apply ze | apply zd | apply zf) | exact HB.out))) : w.heap.size ≤ gb152)); have n3_ := zm ((by rw [hg]; exact (zE (by repeat (first | (with_reducible first | exact HB.out | apply ze | apply zd | apply zf) | exact HB.out))) : w.heap.size ≤ gb152)); clear HB; have HB := n0_; have BK152 := n1_; have GW152 := n2_; have GE152 := n3_; clear n0_ n1_ n2_ n3_; clear hb hbox hg; have hcz7_0 : w6.cell? ⟨gb152, 0, none⟩ = some (.int .u64 a0_0) := (zs BK152.out 0).trans rfl; have hcz7_1 : w6.cell? ⟨gb152, 1, none⟩ = some (.int .u32 a0_1) := (zs BK152.out 1).trans rfl; have hcz7_2 : w6.cell? ⟨gb152, 2, none⟩ = some (.slice A0_2 l0_2.length c0_2) := (zs BK152.out 2).trans rfl; have hcz7_3 : w6.cell? ⟨gb152, 3, none⟩ = some (.int .i64 a0_3) := (zs BK152.out 3).trans rfl; have hfz7_0 := zx BK152.out 0; have hfz7_1 := zx BK152.out 1; have hfz7_2 := zx BK152.out 2; have hfz7_3 := zx BK152.out 3))
   go_ret
   exact ⟨by first | rfl | (simp [errW_none, errW_some] <;> rfl) | (simp [*, errW_none, errW_some] <;> rfl), by repeat (first | (with_reducible first | exact HB.out | apply ze | apply zd | apply zf | refine zk ?_ GE152.out) | exact HB.out)⟩
 ·
  rw [if_neg c2] at H
  have c2b0 : decide (a0_0 ≤ 4294967295) = false := decide_eq_false c2
  clear c2
  obtain rfl := Option.some.inj H
  go_enter Try.func28, Try.ntmps28
  go_wp2_with (first | ((with_reducible refine gate_dst (N := 1) rfl ?_); refine box_event ?hg (N := 1) ?hd (cs := #[.int .u64 a0_0, .int .u32 a0_1, .slice A0_2 l0_2.length c0_2, .int .i64 a0_3]) (t := 43) ?hr ?_; (case hd => rfl); (case hg => rfl); (case hr => first | (go_simp; done) | (go_simp; rfl)); intro gb152 hg w8 hbox hb; have n0_ := zm (zJ (by repeat (first | (with_reducible first | exact HB.out | apply ze | apply zd | apply zf) | exact HB.out)) hb); have n1_ := zm (hbox); have n2_ := zm ((by rw [hg]; exact (zE (by repeat (first | (with_reducible first | exact HB.out | apply ze | apply zd | apply zf) | exact HB.out))) : w.heap.size ≤ gb152)); have n3_ := zm ((by rw [hg]; exact (zE (by repeat (first | (with_reducible first | exact HB.out | apply ze | apply zd | apply zf) | exact HB.out))) : w.heap.size ≤ gb152)); clear HB; have HB := n0_; have BK152 := n1_; have GW152 := n2_; have GE152 := n3_; clear n0_ n1_ n2_ n3_; clear hb hbox hg; have hcz9_0 : w8.cell? ⟨gb152, 0, none⟩ = some (.int .u64 a0_0) := (zs BK152.out 0).trans rfl; have hcz9_1 : w8.cell? ⟨gb152, 1, none⟩ = some (.int .u32 a0_1) := (zs BK152.out 1).trans rfl; have hcz9_2 : w8.cell? ⟨gb152, 2, none⟩ = some (.slice A0_2 l0_2.length c0_2) := (zs BK152.out 2).trans rfl; have hcz9_3 : w8.cell? ⟨gb152, 3, none⟩ = some (.int .i64 a0_3) := (zs BK152.out 3).trans rfl; have hfz9_0 := zx BK152.out 0; have hfz9_1 := zx BK152.out 1; have hfz9_2 := zx BK152.out 2; have hfz9_3 := zx BK152.out 3))
  go_ret
  exact ⟨by first | rfl | (simp [errW_none, errW_some] <;> rfl) | (simp [*, errW_none, errW_some] <;> rfl), by repeat (first | (with_reducible first | exact HB.out | apply ze | apply zd | apply zf | refine zk ?_ GE152.out) | exact HB.out)⟩

end Go.Proofs.Ytkaoiblgfpphoaa.Prt

namespace Go.Proofs.Ytkaoiblgfpphoaa.Prt
open Go.RowKit Go.Proofs.YtkaoiblgfpphoaaW.PrintWords Go.Proofs.YtkaoiblgfpphoaaW.PrintLast Go.Proofs.YtkaoiblgfpphoaaW.PrintMore
attribute [local go_sem] max2_int min2_int max_two min_two max_three min_three max_four min_four   -- for this text's walks alone
set_option linter.unusedVariables false
set_option linter.unusedSimpArgs false

/-! ### coder_good: function 60 -/
def coder_good.f (a0_0 : Int) (a0_1 : Int) (l0_2 : List Int) (a0_3 : Int) : Option (Int × Int × List Int × Int) := (coder_RightDec.f a0_0 a0_1 l0_2 a0_3).bind fun t155 => (if t155 = true then (some (a0_0, a0_1, l0_2, a0_3)) else ((coder_Open.f ([] : List Int)).bind fun bt156 => (some (bt156.1, bt156.2.1, bt156.2.2.1, bt156.2.2.2))))
set_option maxHeartbeats 8000000 in
set_option maxRecDepth 100000 in
theorem coder_good.calls (a0_0 : Int) (a0_1 : Int) (P0_2_ : Nat → Prop) (A0_2 : Option Addr) (c0_2 : Nat) (l0_2 : List Int) (a0_3 : Int) (r1 : Int) (r2 : Int) (r3 : List Int) (r4 : Int) (w : World) (hs0_2 : Kd.V (Kd.int .u8) 5 w w.heap.size (fun k_ => P0_2_ k_) (.slice A0_2 l0_2.length c0_2) l0_2) (h : coder_good.f a0_0 a0_1 l0_2 a0_3 = some (r1, r2, r3, r4)) :
  Calls Try.prog 60 #[.agg #[.int .u64 a0_0, .int .u32 a0_1, .slice A0_2 l0_2.length c0_2, .int .i64 a0_3]] w fun e w' => ∃ v2_ : Value, e = .returned (.agg #[.int .u64 r1, .int .u32 r2, v2_, .int .i64 r4]) ∧ Kd.V (Kd.int .u8) 5 w' w.heap.size (fun k_ => (P0_2_ k_ ∨ w.heap.size ≤ k_)) v2_ r3 ∧ Below w.heap.size w w' := by
 have hu43 := Try.underlying43
 have HO0_2 := zm (show Kd.V (Kd.int .u8) 5 w w.heap.size (fun k_ => (P0_2_ k_ ∨ w.heap.size ≤ k_)) (.slice A0_2 l0_2.length c0_2) l0_2 from zy hs0_2 (fun k_ hk => .inl hk))
 have HB := zm (Below.refl w.heap.size w)
 have H : ((coder_RightDec.f a0_0 a0_1 l0_2 a0_3).bind fun t155 => (if t155 = true then (some (a0_0, a0_1, l0_2, a0_3)) else ((coder_Open.f ([] : List Int)).bind fun bt156 => (some (bt156.1, bt156.2.1, bt156.2.2.1, bt156.2.2.2))))) = some (r1, r2, r3, r4) := h
 clear h
 replace H := Option.bind_eq_some_iff.mp H
 obtain ⟨t155, A20, H⟩ := H
 replace H : (if t155 = true then (some (a0_0, a0_1, l0_2, a0_3)) else ((coder_Open.f ([] : List Int)).bind fun bt156 => (some (bt156.1, bt156.2.1, bt156.2.2.1, bt156.2.2.2)))) = some (r1, r2, r3, r4) := H
 have A2 := zm A20
 clear A20
 by_cases c3 : t155 = true
 ·
  subst c3
  have H1 : (some (a0_0, a0_1, l0_2, a0_3)) = some (r1, r2, r3, r4) := by rw [if_pos rfl] at H; exact H
  clear H
  have H := H1
  clear H1
  simp only [Option.some.injEq, Prod.mk.injEq] at H
  obtain ⟨rfl, rfl, rfl, rfl⟩ := H
  go_enter Try.func60, Try.ntmps60
  go_wp2_with (first | ((with_reducible refine gate_dst (N := 1) rfl ?_); refine box_event ?hg (N := 1) ?hd (cs := #[.int .u64 a0_0, .int .u32 a0_1, .slice A0_2 l0_2.length c0_2, .int .i64 a0_3]) (t := 43) ?hr ?_; (case hd => rfl); (case hg => rfl); (case hr => first | (go_simp; done) | (go_simp; rfl)); intro gb153 hg w4 hbox hb; have n0_ := zm (Kd.V_below (Kd.V_elderB (by (with_reducible repeat (first | apply zA | apply zB | apply zC)); exact HO0_2.out) gb153 (Nat.le_of_eq hg.symm)) hb); have n1_ := zm (zJ (by repeat (first | (with_reducible first | exact HB.out | apply ze | apply zd | apply zf) | exact HB.out)) hb); have n2_ := zm (hbox); have n3_ := zm ((by rw [hg]; exact (zE (by repeat (first | (with_reducible first | exact HB.out | apply ze | apply zd | apply zf) | exact HB.out))) : w.heap.size ≤ gb153)); have n4_ := zm ((by rw [hg]; exact (zE (by repeat (first | (with_reducible first | exact HB.out | apply ze | apply zd | apply zf) | exact HB.out))) : w.heap.size ≤ gb153)); clear HO0_2; clear HB; have HO0_2 := n0_; have HB := n1_; have BK153 := n2_; have GW153 := n3_; have GE153 := n4_; clear n0_ n1_ n2_ n3_ n4_; clear hb hbox hg) | ((with_reducible refine gate_dst (N := 2) rfl ?_); refine box_event ?hg (N := 2) ?hd (cs := #[.int .u64 0, .int .u32 0, .slice none 0 0, .int .i64 0]) (t := 43) ?hr ?_; (case hd => rfl); (case hg => rfl); (case hr => first | (go_simp; done) | (go_simp; rfl)); intro gb154 hg w5 hbox hb; have n0_ := zm (Kd.V_below (Kd.V_elderB (by (with_reducible repeat (first | apply zA | apply zB | apply zC)); exact HO0_2.out) gb154 (Nat.le_of_eq hg.symm)) hb); have n1_ := zm (zF (g := gb153) (o := .cells #[.int .u64 a0_0, .int .u32 a0_1, .slice A0_2 l0_2.length c0_2, .int .i64 a0_3] 43 (0, 0)) (by (with_reducible repeat (first | refine zh ?_ _ | refine zj ?_ | refine zi ?_ _)); exact BK153.out) hb); have n2_ := zm (zJ (by repeat (first | (with_reducible first | exact HB.out | apply ze | apply zd | apply zf | refine zk ?_ GE153.out) | exact HB.out)) hb); have n3_ := zm (hbox); have n4_ := zm ((by rw [hg]; exact (zE (by repeat (first | (with_reducible first | exact HB.out | apply ze | apply zd | apply zf | refine zk ?_ GE153.out) | exact HB.out))) : w.heap.size ≤ gb154)); have n5_ := zm ((by rw [hg]; exact (zE (by repeat (first | (with_reducible first | exact HB.out | apply ze | apply zd | apply zf | refine zk ?_ GE153.out) | exact HB.out))) : w.heap.size ≤ gb154)); have n6_ := zm ((by rw [hg]; exact zn (zD (g := gb153) (o := .cells #[.int .u64 a0_0, .int .u32 a0_1, .slice A0_2 l0_2.length c0_2, .int .i64 a0_3] 43 (0, 0)) (by (with_reducible repeat (first | refine zh ?_ _ | refine zj ?_ | refine zi ?_ _)); exact BK153.out)) : gb153 ≠ gb154)); have n7_ := zm ((by rw [hg]; exact zg (zD (g := gb153) (o := .cells #[.int .u64 a0_0, .int .u32 a0_1, .slice A0_2 l0_2.length c0_2, .int .i64 a0_3] 43 (0, 0)) (by (with_reducible repeat (first | refine zh ?_ _ | refine zj ?_ | refine zi ?_ _)); exact BK153.out)) : gb154 ≠ gb153)); clear HO0_2; clear BK153; clear HB; have HO0_2 := n0_; have BK153 := n1_; have HB := n2_; have BK154 := n3_; have GW154 := n4_; have GE154 := n5_; have NB153_154 := n6_; have NB154_153 := n7_; clear n0_ n1_ n2_ n3_ n4_ n5_ n6_ n7_; clear hb hbox hg; have hnb6 := NB153_154.out; have hnc6 := NB154_153.out; have hcz7_0 : w5.cell? ⟨gb153, 0, none⟩ = some (.int .u64 a0_0) := (zs BK153.out 0).trans rfl; have hcz7_1 : w5.cell? ⟨gb153, 1, none⟩ = some (.int .u32 a0_1) := (zs BK153.out 1).trans rfl; have hcz7_2 : w5.cell? ⟨gb153, 2, none⟩ = some (.slice A0_2 l0_2.length c0_2) := (zs BK153.out 2).trans rfl; have hcz7_3 : w5.cell? ⟨gb153, 3, none⟩ = some (.int .i64 a0_3) := (zs BK153.out 3).trans rfl; have hfz7_0 := zx BK153.out 0; have hfz7_1 := zx BK153.out 1; have hfz7_2 := zx BK153.out 2; have hfz7_3 := zx BK153.out 3) | ((with_reducible refine gate_callee (f := 28) rfl ?_); refine goesL_ (some 4) rfl rfl Try.func28 (by kernel_rfl) rfl #[.agg #[.int .u64 a0_0, .int .u32 a0_1, .slice A0_2 l0_2.length c0_2, .int .i64 a0_3]] rfl (by (try simp only [List.map_toArray, List.map_cons, List.map_nil]); first | done | rfl | (simp only [List.length_drop, List.length_take]; rfl)) ?_; (with_reducible refine (coder_RightDec.calls a0_0 a0_1 _ _ l0_2 a0_3 true _ ?side1 ?side2 A2.out).mono ?_); (case side1 => repeat (first | exact (Kd.V_reads' HO0_2.out).2.2 | (with_reducible refine Kd.C_alloc ?_ _) | (with_reducible refine Kd.C_drewN ?_ _) | (with_reducible refine Kd.C_drew ?_))); (case side2 => exact (Kd.V_reads' HO0_2.out).2.1); rintro e w8 ⟨rfl, hb⟩; refine ⟨_, rfl, ?_⟩; have n0_ := zm (Kd.V_below (by (with_reducible repeat (first | apply zA | apply zB | apply zC)); exact HO0_2.out) hb); have n1_ := zm (zF (g := gb153) (o := .cells #[.int .u64 a0_0, .int .u32 a0_1, .slice A0_2 l0_2.length c0_2, .int .i64 a0_3] 43 (0, 0)) (by (with_reducible repeat (first | refine zh ?_ _ | refine zj ?_ | refine zi ?_ _)); exact BK153.out) hb); have n2_ := zm (zF (g := gb154) (o := .cells #[.int .u64 0, .int .u32 0, .slice none 0 0, .int .i64 0] 43 (0, 0)) (by (with_reducible repeat (first | refine zh ?_ _ | refine zj ?_ | refine zi ?_ _)); exact BK154.out) hb); have n3_ := zm (zJ (by repeat (first | (with_reducible first | exact HB.out | apply ze | apply zd | apply zf | refine zk ?_ GE153.out | refine zk ?_ GE154.out) | exact HB.out)) hb); clear HO0_2; clear BK153; clear BK154; clear HB; have HO0_2 := n0_; have BK153 := n1_; have BK154 := n2_; have HB := n3_; clear n0_ n1_ n2_ n3_; (try clear hb); (try clear hb2); (try clear hk); (try clear hi); have hcz9_0 : w8.cell? ⟨gb153, 0, none⟩ = some (.int .u64 a0_0) := (zs BK153.out 0).trans rfl; have hcz9_1 : w8.cell? ⟨gb153, 1, none⟩ = some (.int .u32 a0_1) := (zs BK153.out 1).trans rfl; have hcz9_2 : w8.cell? ⟨gb153, 2, none⟩ = some (.slice A0_2 l0_2.length c0_2) := (zs BK153.out 2).trans rfl; have hcz9_3 : w8.cell? ⟨gb153, 3, none⟩ = some (.int .i64 a0_3) := (zs BK153.out 3).trans rfl; have hfz9_0 := zx BK153.out 0; have hfz9_1 := zx BK153.out 1; have hfz9_2 := zx BK153.out 2; have hfz9_3 := zx BK153.out 3; have hcz10_0 : w8.cell? ⟨gb154, 0, none⟩ = some (.int .u64 0) := (zs BK154.out 0).trans rfl; have hcz10_1 : w8.cell? ⟨gb154, 1, none⟩ = some (.int .u32 0) := (zs BK154.out 1).trans rfl; have hcz10_2 : w8.cell? ⟨gb154, 2, none⟩ = some (.slice none 0 0) := (zs BK154.out 2).trans rfl; have hcz10_3 : w8.cell? ⟨gb154, 3, none⟩ = some (.int .i64 0) := (zs BK154.out 3).trans rfl; have hfz10_0 := zx BK154.out 0; have hfz10_1 := zx BK154.out 1; have hfz10_2 := zx BK154.out 2; have hfz10_3 := zx BK154.out 3))
  refine bodyPost_ret (results_cell_row rfl _ _ gb154 43 #[.int .u64 a0_0, .int .u32 a0_1, .slice A0_2 l0_2.length c0_2, .int .i64 a0_3] (0, 0) _ rfl (by (with_reducible repeat (first | refine zh ?_ _ | refine zj ?_ | refine zi ?_ _)); refine zw (cs := #[.int .u64 a0_0, .int .u32 a0_1, .slice A0_2 l0_2.length c0_2, .int .i64 0]) ?_ 3 _ rfl; (with_reducible repeat (first | refine zh ?_ _ | refine zj ?_ | refine zi ?_ _)); refine zw (cs := #[.int .u64 a0_0, .int .u32 a0_1, .slice none 0 0, .int .i64 0]) ?_ 2 _ rfl; (with_reducible repeat (first | refine zh ?_ _ | refine zj ?_ | refine zi ?_ _)); refine zw (cs := #[.int .u64 a0_0, .int .u32 0, .slice none 0 0, .int .i64 0]) ?_ 1 _ rfl; (with_reducible repeat (first | refine zh ?_ _ | refine zj ?_ | refine zi ?_ _)); refine zw (cs := #[.int .u64 0, .int .u32 0, .slice none 0 0, .int .i64 0]) ?_ 0 _ rfl; (with_reducible repeat (first | refine zh ?_ _ | refine zj ?_ | refine zi ?_ _)); exact BK154.out) Try.underlying43 rfl (by kernel_rfl)) rfl ?_
  exact ⟨_, by first | rfl | (simp [errW_none, errW_some] <;> rfl) | (simp [*, errW_none, errW_some] <;> rfl), by (with_reducible repeat (first | apply zA | apply zB | apply zC)); exact zy (zI (p := ⟨gb154, 3, none⟩) (zI (p := ⟨gb154, 2, none⟩) (zI (p := ⟨gb154, 1, none⟩) (zI (p := ⟨gb154, 0, none⟩) (zy HO0_2.out (fun k_ hk => (⟨hk, hk.2⟩ : _ ∧ k_ ≠ gb154))) (fun _ hk => hk.2) (.int .u64 a0_0)) (fun _ hk => hk.2) (.int .u32 a0_1)) (fun _ hk => hk.2) (.slice A0_2 l0_2.length c0_2)) (fun _ hk => hk.2) (.int .i64 a0_3)) (fun _ hk => hk.1.1.1), by repeat (first | (with_reducible first | exact HB.out | apply ze | apply zd | apply zf | refine zk ?_ GE153.out | refine zk ?_ GE154.out) | exact HB.out)⟩
 ·
  replace c3 := Bool.eq_false_iff.mpr c3
  subst c3
  have H1 : ((coder_Open.f ([] : List Int)).bind fun bt156 => (some (bt156.1, bt156.2.1, bt156.2.2.1, bt156.2.2.2))) = some (r1, r2, r3, r4) := by rw [if_neg (show ¬ (false = true) by decide)] at H; exact H
  clear H
  have H := H1
  clear H1
  replace H := Option.bind_eq_some_iff.mp H
  obtain ⟨⟨t156, t157, t158, t161⟩, A110, H⟩ := H
  replace H : (some (t156, t157, t158, t161)) = some (r1, r2, r3, r4) := H
  have A11 := zm A110
  clear A110
  simp only [Option.some.injEq, Prod.mk.injEq] at H
  obtain ⟨rfl, rfl, rfl, rfl⟩ := H
  go_enter Try.func60, Try.ntmps60
  go_wp2_with (first | ((with_reducible refine gate_dst (N := 1) rfl ?_); refine box_event ?hg (N := 1) ?hd (cs := #[.int .u64 a0_0, .int .u32 a0_1, .slice A0_2 l0_2.length c0_2, .int .i64 a0_3]) (t := 43) ?hr ?_; (case hd => rfl); (case hg => rfl); (case hr => first | (go_simp; done) | (go_simp; rfl)); intro gb153 hg w12 hbox hb; have n0_ := zm (Kd.V_below (Kd.V_elderB (by (with_reducible repeat (first | apply zA | apply zB | apply zC)); exact HO0_2.out) gb153 (Nat.le_of_eq hg.symm)) hb); have n1_ := zm (zJ (by repeat (first | (with_reducible first | exact HB.out | apply ze | apply zd | apply zf) | exact HB.out)) hb); have n2_ := zm (hbox); have n3_ := zm ((by rw [hg]; exact (zE (by repeat (first | (with_reducible first | exact HB.out | apply ze | apply zd | apply zf) | exact HB.out))) : w.heap.size ≤ gb153)); have n4_ := zm ((by rw [hg]; exact (zE (by repeat (first | (with_reducible first | exact HB.out | apply ze | apply zd | apply zf) | exact HB.out))) : w.heap.size ≤ gb153)); clear HO0_2; clear HB; have HO0_2 := n0_; have HB := n1_; have BK153 := n2_; have GW153 := n3_; have GE153 := n4_; clear n0_ n1_ n2_ n3_ n4_; clear hb hbox hg) | ((with_reducible refine gate_dst (N := 2) rfl ?_); refine box_event ?hg (N := 2) ?hd (cs := #[.int .u64 0, .int .u32 0, .slice none 0 0, .int .i64 0]) (t := 43) ?hr ?_; (case hd => rfl); (case hg => rfl); (case hr => first | (go_simp; done) | (go_simp; rfl)); intro gb154 hg w13 hbox hb; have n0_ := zm (Kd.V_below (Kd.V_elderB (by (with_reducible repeat (first | apply zA | apply zB | apply zC)); exact HO0_2.out) gb154 (Nat.le_of_eq hg.symm)) hb); have n1_ := zm (zF (g := gb153) (o := .cells #[.int .u64 a0_0, .int .u32 a0_1, .slice A0_2 l0_2.length c0_2, .int .i64 a0_3] 43 (0, 0)) (by (with_reducible repeat (first | refine zh ?_ _ | refine zj ?_ | refine zi ?_ _)); exact BK153.out) hb); have n2_ := zm (zJ (by repeat (first | (with_reducible first | exact HB.out | apply ze | apply zd | apply zf | refine zk ?_ GE153.out) | exact HB.out)) hb); have n3_ := zm (hbox); have n4_ := zm ((by rw [hg]; exact (zE (by repeat (first | (with_reducible first | exact HB.out | apply ze | apply zd | apply zf | refine zk ?_ GE153.out) | exact HB.out))) : w.heap.size ≤ gb154)); have n5_ := zm ((by rw [hg]; exact (zE (by repeat (first | (with_reducible first | exact HB.out | apply ze | apply zd | apply zf | refine zk ?_ GE153.out) | exact HB.out))) : w.heap.size ≤ gb154)); have n6_ := zm ((by rw [hg]; exact zn (zD (g := gb153) (o := .cells #[.int .u64 a0_0, .int .u32 a0_1, .slice A0_2 l0_2.length c0_2, .int .i64 a0_3] 43 (0, 0)) (by (with_reducible repeat (first | refine zh ?_ _ | refine zj ?_ | refine zi ?_ _)); exact BK153.out)) : gb153 ≠ gb154)); have n7_ := zm ((by rw [hg]; exact zg (zD (g := gb153) (o := .cells #[.int .u64 a0_0, .int .u32 a0_1, .slice A0_2 l0_2.length c0_2, .int .i64 a0_3] 43 (0, 0)) (by (with_reducible repeat (first | refine zh ?_ _ | refine zj ?_ | refine zi ?_ _)); exact BK153.out)) : gb154 ≠ gb153)); clear HO0_2; clear BK153; clear HB; have HO0_2 := n0_; have BK153 := n1_; have HB := n2_; have BK154 := n3_; have GW154 := n4_; have GE154 := n5_; have NB153_154 := n6_; have NB154_153 := n7_; clear n0_ n1_ n2_ n3_ n4_ n5_ n6_ n7_; clear hb hbox hg; have hnb14 := NB153_154.out; have hnc14 := NB154_153.out; have hcz15_0 : w13.cell? ⟨gb153, 0, none⟩ = some (.int .u64 a0_0) := (zs BK153.out 0).trans rfl; have hcz15_1 : w13.cell? ⟨gb153, 1, none⟩ = some (.int .u32 a0_1) := (zs BK153.out 1).trans rfl; have hcz15_2 : w13.cell? ⟨gb153, 2, none⟩ = some (.slice A0_2 l0_2.length c0_2) := (zs BK153.out 2).trans rfl; have hcz15_3 : w13.cell? ⟨gb153, 3, none⟩ = some (.int .i64 a0_3) := (zs BK153.out 3).trans rfl; have hfz15_0 := zx BK153.out 0; have hfz15_1 := zx BK153.out 1; have hfz15_2 := zx BK153.out 2; have hfz15_3 := zx BK153.out 3) | ((with_reducible refine gate_callee (f := 28) rfl ?_); refine goesL_ (some 4) rfl rfl Try.func28 (by kernel_rfl) rfl #[.agg #[.int .u64 a0_0, .int .u32 a0_1, .slice A0_2 l0_2.length c0_2, .int .i64 a0_3]] rfl (by (try simp only [List.map_toArray, List.map_cons, List.map_nil]); first | done | rfl | (simp only [List.length_drop, List.length_take]; rfl)) ?_; (with_reducible refine (coder_RightDec.calls a0_0 a0_1 _ _ l0_2 a0_3 false _ ?side1 ?side2 A2.out).mono ?_); (case side1 => repeat (first | exact (Kd.V_reads' HO0_2.out).2.2 | (with_reducible refine Kd.C_alloc ?_ _) | (with_reducible refine Kd.C_drewN ?_ _) | (with_reducible refine Kd.C_drew ?_))); (case side2 => exact (Kd.V_reads' HO0_2.out).2.1); rintro e w16 ⟨rfl, hb⟩; refine ⟨_, rfl, ?_⟩; have n0_ := zm (Kd.V_below (by (with_reducible repeat (first | apply zA | apply zB | apply zC)); exact HO0_2.out) hb); have n1_ := zm (zF (g := gb153) (o := .cells #[.int .u64 a0_0, .int .u32 a0_1, .slice A0_2 l0_2.length c0_2, .int .i64 a0_3] 43 (0, 0)) (by (with_reducible repeat (first | refine zh ?_ _ | refine zj ?_ | refine zi ?_ _)); exact BK153.out) hb); have n2_ := zm (zF (g := gb154) (o := .cells #[.int .u64 0, .int .u32 0, .slice none 0 0, .int .i64 0] 43 (0, 0)) (by (with_reducible repeat (first | refine zh ?_ _ | refine zj ?_ | refine zi ?_ _)); exact BK154.out) hb); have n3_ := zm (zJ (by repeat (first | (with_reducible first | exact HB.out | apply ze | apply zd | apply zf | refine zk ?_ GE153.out | refine zk ?_ GE154.out) | exact HB.out)) hb); clear HO0_2; clear BK153; clear BK154; clear HB; have HO0_2 := n0_; have BK153 := n1_; have BK154 := n2_; have HB := n3_; clear n0_ n1_ n2_ n3_; (try clear hb); (try clear hb2); (try clear hk); (try clear hi)) | ((with_reducible refine gate_callee (f := 26) rfl ?_); refine goesL_ (some 6) rfl rfl Try.func26 (by kernel_rfl) rfl #[.slice none 0 0] rfl (by (try simp only [List.map_toArray, List.map_cons, List.map_nil]); first | done | rfl | (simp only [List.length_drop, List.length_take]; rfl)) ?_; (refine (coder_Open.calls (fun k_ => False) _ _ ([] : List Int) t156 t157 t158 t161 _ ?side1 A11.out).mono ?_); (case side1 => exact Kd.V_nil _ _ _ _ _); rintro e w17 ⟨v159, rfl, ho0, hb⟩; refine ⟨_, rfl, ?_⟩; have n0_ := zm (Kd.V_below (by (with_reducible repeat (first | apply zA | apply zB | apply zC)); exact HO0_2.out) hb); have n1_ := zm (Kd.V_lower (zy (ok' := fun k_ => (P0_2_ k_ ∨ w.heap.size ≤ k_) ∧ k_ ≠ gb153 ∧ k_ ≠ gb154) ho0 (fun k_ hk_ => ⟨Or.elim hk_ (fun hs_ => (hs_).elim) (fun hn_ => (.inr (Nat.le_trans (zE (by repeat (first | (with_reducible first | exact HB.out | apply ze | apply zd | apply zf | refine zk ?_ GE153.out | refine zk ?_ GE154.out) | exact HB.out))) hn_))), Or.elim hk_ (fun hs_ => (hs_).elim) (fun hn_ => (Kd.freshB (g := gb153) (o := .cells #[.int .u64 a0_0, .int .u32 a0_1, .slice A0_2 l0_2.length c0_2, .int .i64 a0_3] 43 (0, 0)) (by (with_reducible repeat (first | refine zh ?_ _ | refine zj ?_ | refine zi ?_ _)); exact BK153.out) k_ hn_)), Or.elim hk_ (fun hs_ => (hs_).elim) (fun hn_ => (Kd.freshB (g := gb154) (o := .cells #[.int .u64 0, .int .u32 0, .slice none 0 0, .int .i64 0] 43 (0, 0)) (by (with_reducible repeat (first | refine zh ?_ _ | refine zj ?_ | refine zi ?_ _)); exact BK154.out) k_ hn_))⟩)) (zE (by repeat (first | (with_reducible first | exact HB.out | apply ze | apply zd | apply zf | refine zk ?_ GE153.out | refine zk ?_ GE154.out) | exact HB.out)))); have n2_ := zm (zF (g := gb153) (o := .cells #[.int .u64 a0_0, .int .u32 a0_1, .slice A0_2 l0_2.length c0_2, .int .i64 a0_3] 43 (0, 0)) (by (with_reducible repeat (first | refine zh ?_ _ | refine zj ?_ | refine zi ?_ _)); exact BK153.out) hb); have n3_ := zm (zF (g := gb154) (o := .cells #[.int .u64 0, .int .u32 0, .slice none 0 0, .int .i64 0] 43 (0, 0)) (by (with_reducible repeat (first | refine zh ?_ _ | refine zj ?_ | refine zi ?_ _)); exact BK154.out) hb); have n4_ := zm (zJ (by repeat (first | (with_reducible first | exact HB.out | apply ze | apply zd | apply zf | refine zk ?_ GE153.out | refine zk ?_ GE154.out) | exact HB.out)) hb); clear HO0_2; clear BK153; clear BK154; clear HB; have HO0_2 := n0_; have HO160 := n1_; have BK153 := n2_; have BK154 := n3_; have HB := n4_; clear n0_ n1_ n2_ n3_ n4_; (try clear hb); (try clear hb2); (try clear hk); (try clear hi); (try clear ho0); have hcz18_0 : w17.cell? ⟨gb154, 0, none⟩ = some (.int .u64 0) := (zs BK154.out 0).trans rfl; have hcz18_1 : w17.cell? ⟨gb154, 1, none⟩ = some (.int .u32 0) := (zs BK154.out 1).trans rfl; have hcz18_2 : w17.cell? ⟨gb154, 2, none⟩ = some (.slice none 0 0) := (zs BK154.out 2).trans rfl; have hcz18_3 : w17.cell? ⟨gb154, 3, none⟩ = some (.int .i64 0) := (zs BK154.out 3).trans rfl; have hfz18_0 := zx BK154.out 0; have hfz18_1 := zx BK154.out 1; have hfz18_2 := zx BK154.out 2; have hfz18_3 := zx BK154.out 3; obtain ⟨Ao19, co19, eo19⟩ := Kd.V_slice HO160.out; subst eo19))
  refine bodyPost_ret (results_cell_row rfl _ _ gb154 43 #[.int .u64 t156, .int .u32 t157, .slice Ao19 t158.length co19, .int .i64 t161] (0, 0) _ rfl (by (with_reducible repeat (first | refine zh ?_ _ | refine zj ?_ | refine zi ?_ _)); refine zw (cs := #[.int .u64 t156, .int .u32 t157, .slice Ao19 t158.length co19, .int .i64 0]) ?_ 3 _ rfl; (with_reducible repeat (first | refine zh ?_ _ | refine zj ?_ | refine zi ?_ _)); refine zw (cs := #[.int .u64 t156, .int .u32 t157, .slice none 0 0, .int .i64 0]) ?_ 2 _ rfl; (with_reducible repeat (first | refine zh ?_ _ | refine zj ?_ | refine zi ?_ _)); refine zw (cs := #[.int .u64 t156, .int .u32 0, .slice none 0 0, .int .i64 0]) ?_ 1 _ rfl; (with_reducible repeat (first | refine zh ?_ _ | refine zj ?_ | refine zi ?_ _)); refine zw (cs := #[.int .u64 0, .int .u32 0, .slice none 0 0, .int .i64 0]) ?_ 0 _ rfl; (with_reducible repeat (first | refine zh ?_ _ | refine zj ?_ | refine zi ?_ _)); exact BK154.out) Try.underlying43 rfl (by kernel_rfl)) rfl ?_
  exact ⟨_, by first | rfl | (simp [errW_none, errW_some] <;> rfl) | (simp [*, errW_none, errW_some] <;> rfl), by (with_reducible repeat (first | apply zA | apply zB | apply zC)); exact zy (zI (p := ⟨gb154, 3, none⟩) (zI (p := ⟨gb154, 2, none⟩) (zI (p := ⟨gb154, 1, none⟩) (zI (p := ⟨gb154, 0, none⟩) (zy HO160.out (fun k_ hk => (⟨hk, hk.2.2⟩ : _ ∧ k_ ≠ gb154))) (fun _ hk => hk.2) (.int .u64 t156)) (fun _ hk => hk.2) (.int .u32 t157)) (fun _ hk => hk.2) (.slice Ao19 t158.length co19)) (fun _ hk => hk.2) (.int .i64 t161)) (fun _ hk => hk.1.1), by repeat (first | (with_reducible first | exact HB.out | apply ze | apply zd | apply zf | refine zk ?_ GE153.out | refine zk ?_ GE154.out) | exact HB.out)⟩

end Go.Proofs.Ytkaoiblgfpphoaa.Prt

namespace Go.Proofs.Ytkaoiblgfpphoaa.Prt
open Go.RowKit Go.Proofs.YtkaoiblgfpphoaaW.PrintWords Go.Proofs.YtkaoiblgfpphoaaW.PrintLast Go.Proofs.YtkaoiblgfpphoaaW.PrintMore
attribute [local go_sem] max2_int min2_int max_two min_two max_three min_three max_four min_four   -- for this text's walks alone
set_option linter.unusedVariables false
set_option linter.unusedSimpArgs false

/-! ### coder_part: function 53 -/
def coder_part.f (a0 : Int) (a1 : Int) (a2 : Int) (a3 : Int) : Option (Int × Int) := if ((a3) % 4294967296) = 0 then (none) else (if a2 = a3 then (some ((a0 - ((IntKind.u64.wrap (((Int.tdiv a0 ((a3) % 4294967296)) % 4294967296) * (IntKind.u64.wrap (a1)))) % 4294967296)) % 4294967296, IntKind.u64.wrap (((Int.tdiv a0 ((a3) % 4294967296)) % 4294967296) * (IntKind.u64.wrap (a1))))) else (some ((((Int.tdiv a0 ((a3) % 4294967296)) % 4294967296) * ((wrap64 (a2 - a1)) % 4294967296)) % 4294967296, IntKind.u64.wrap (((Int.tdiv a0 ((a3) % 4294967296)) % 4294967296) * (IntKind.u64.wrap (a1))))))
set_option maxHeartbeats 8000000 in
set_option maxRecDepth 100000 in
theorem coder_part.calls (a0 : Int) (a1 : Int) (a2 : Int) (a3 : Int) (r1 : Int) (r2 : Int) (w : World) (h : coder_part.f a0 a1 a2 a3 = some (r1, r2)) :
  Calls Try.prog 53 #[.int .u32 a0, .int .i64 a1, .int .i64 a2, .int .i64 a3] w fun e w' => e = .returned (.tuple #[.int .u32 r1, .int .u64 r2]) ∧ Drawn0 w w' := by
 have H : (if ((a3) % 4294967296) = 0 then (none) else (if a2 = a3 then (some ((a0 - ((IntKind.u64.wrap (((Int.tdiv a0 ((a3) % 4294967296)) % 4294967296) * (IntKind.u64.wrap (a1)))) % 4294967296)) % 4294967296, IntKind.u64.wrap (((Int.tdiv a0 ((a3) % 4294967296)) % 4294967296) * (IntKind.u64.wrap (a1))))) else (some ((((Int.tdiv a0 ((a3) % 4294967296)) % 4294967296) * ((wrap64 (a2 - a1)) % 4294967296)) % 4294967296, IntKind.u64.wrap (((Int.tdiv a0 ((a3) % 4294967296)) % 4294967296) * (IntKind.u64.wrap (a1))))))) = some (r1, r2) := h
 clear h
 by_cases c5 : ((a3) % 4294967296) = 0
 ·
  rw [if_pos c5] at H
  exact absurd H (by simp)
 ·
  rw [if_neg c5] at H
  have c5b0 : (((a3) % 4294967296) == 0) = false := beq_eq_false_iff_ne.mpr c5
  have c5b1 : (((a3) % 4294967296) != 0) = true := bne_iff_ne.mpr c5
  by_cases c6 : a2 = a3
  ·
   rw [if_pos c6] at H
   have c6b0 : (a2 == a3) = true := beq_iff_eq.mpr c6
   have c6b1 : (a2 != a3) = false := bne_eq_false_iff_eq.mpr c6
   clear c6
   simp only [Option.some.injEq, Prod.mk.injEq] at H
   obtain ⟨rfl, rfl⟩ := H
   go_enter Try.func53, Try.ntmps53
   go_wp2
   go_ret2
   exact ⟨by first | rfl | (simp; done) | (simp [*]; done), by repeat (first | exact Drawn0.refl _ | apply Drawn0.step)⟩
  ·
   rw [if_neg c6] at H
   have c6b0 : (a2 == a3) = false := beq_eq_false_iff_ne.mpr c6
   have c6b1 : (a2 != a3) = true := bne_iff_ne.mpr c6
   simp only [Option.some.injEq, Prod.mk.injEq] at H
   obtain ⟨rfl, rfl⟩ := H
   go_enter Try.func53, Try.ntmps53
   go_wp2
   go_ret2
   exact ⟨by first | rfl | (simp; done) | (simp [*]; done), by repeat (first | exact Drawn0.refl _ | apply Drawn0.step)⟩

end Go.Proofs.Ytkaoiblgfpphoaa.Prt

namespace Go.Proofs.Ytkaoiblgfpphoaa.Prt
open Go.RowKit Go.Proofs.YtkaoiblgfpphoaaW.PrintWords Go.Proofs.YtkaoiblgfpphoaaW.PrintLast Go.Proofs.YtkaoiblgfpphoaaW.PrintMore
attribute [local go_sem] max2_int min2_int max_two min_two max_three min_three max_four min_four   -- for this text's walks alone
set_option linter.unusedVariables false
set_option linter.unusedSimpArgs false

/-! ### coder_Take: function 34 -/
def coder_Take.l0 : Nat → Int → Int → Int → List Int → Int → Option (Int × Int × List Int × Int × Int)
 | 0, _, _, _, _, _ => none
 | k + 1, x10, x354000, x354001, x354002, x354003 => if x10 < 16777216 then ((coder_at.f x354002 x354003).bind fun t364 => (if x354003 < (x354002.length : Int) then (coder_Take.l0 k ((x10 * 256) % 4294967296) (Go.bits .or .u64 (Go.bits .and .u64 (IntKind.u64.wrap (x354000 * 256)) 4294967295) t364) x354001 x354002 (wrap64 (x354003 + 1))) else (coder_Take.l0 k ((x10 * 256) % 4294967296) (Go.bits .or .u64 (Go.bits .and .u64 (IntKind.u64.wrap (x354000 * 256)) 4294967295) t364) x354001 x354002 x354003))) else (some (x354000, x10, x354002, x354003, 0))
def coder_Take.f (k : Nat) (a0_0 : Int) (a0_1 : Int) (l0_2 : List Int) (a0_3 : Int) (a1 : Int) (a2 : Int) (a3 : Int) : Option (Int × Int × List Int × Int × Int) := (coder_good.f a0_0 a0_1 l0_2 a0_3).bind fun bt355 => ((coder_fair.f a1 a2 a3).bind fun t361 => (if t361 = true then ((coder_part.f bt355.2.1 a1 a2 a3).bind fun bt362 => (coder_Take.l0 k bt362.1 (IntKind.u64.wrap (bt355.1 - (mn bt355.1 bt362.2))) bt355.2.1 bt355.2.2.1 bt355.2.2.2)) else (some (bt355.1, bt355.2.1, bt355.2.2.1, bt355.2.2.2, 1))))
theorem coder_Take.mono_l : ∀ k, (∀ y0 y1 y2 y3 y4, LeO (coder_Take.l0 k y0 y1 y2 y3 y4) (coder_Take.l0 (k + 1) y0 y1 y2 y3 y4))
 | 0 => fun _ _ _ _ _ r h => by simp [coder_Take.l0] at h
 | k + 1 => by
  have ih0 := coder_Take.mono_l k
  ·
   intro y0 y1 y2 y3 y4
   unfold coder_Take.l0
   repeat' first
   | (with_reducible exact ih0 _ _ _ _ _)
   | (with_reducible exact LeO.refl _)
   | (with_reducible exact LeO.none _)
   | (with_reducible refine LeO.ite ?_ ?_)
   | (with_reducible refine LeO.bind ?_ (fun _ => ?_))
   | exact ih0 _ _ _ _ _
   | exact LeO.none _
   | refine LeO.ite ?_ ?_
   | refine LeO.bind ?_ (fun _ => ?_)
theorem coder_Take.mono : ∀ a0 a1 a2 a3 a4 a5 a6 k, LeO (coder_Take.f k a0 a1 a2 a3 a4 a5 a6) (coder_Take.f (k + 1) a0 a1 a2 a3 a4 a5 a6) := by
 intro a0 a1 a2 a3 a4 a5 a6 k
 have ih0 := coder_Take.mono_l k
 unfold coder_Take.f
 repeat' first
   | (with_reducible exact ih0 _ _ _ _ _)
   | (with_reducible exact LeO.refl _)
   | (with_reducible exact LeO.none _)
   | (with_reducible refine LeO.ite ?_ ?_)
   | (with_reducible refine LeO.bind ?_ (fun _ => ?_))
   | exact ih0 _ _ _ _ _
   | exact LeO.none _
   | refine LeO.ite ?_ ?_
   | refine LeO.bind ?_ (fun _ => ?_)
def coder_Take.T7 : Bool × List (List Nat × List Nat) := (true, [([], []), ([0], [0]), ([1], [1]), ([2], [2]), ([], []), ([4], [4]), ([], []), ([6], [6]), ([5, 7], [5, 7]), ([3, 8], [3, 8]), ([0, 1, 2, 3, 4, 5, 6, 7, 8, 9], []), ([10, 9, 8, 0, 1, 2, 3, 4, 5, 6, 7, 8, 9], [9, 10])])
def coder_Take.B7 : List Nat := [0, 1, 3, 7, 0, 16, 0, 64, 240, 511, 1023, 2047]
theorem coder_Take.tab7 : rtab .any (opsOf Try.f34 7) = coder_Take.T7 := by kernel_rfl
theorem coder_Take.bits7 : waitsOk coder_Take.T7.2 coder_Take.B7 = true := by kernel_rfl
set_option maxHeartbeats 8000000 in
set_option maxRecDepth 100000 in
theorem coder_Take.calls (k : Nat) (a0_0 : Int) (a0_1 : Int) (P0_2_ : Nat → Prop) (A0_2 : Option Addr) (c0_2 : Nat) (l0_2 : List Int) (a0_3 : Int) (a1 : Int) (a2 : Int) (a3 : Int) (r1 : Int) (r2 : Int) (r3 : List Int) (r4 : Int) (r5 : Int) (w : World) (hs0_2 : Kd.V (Kd.int .u8) 5 w w.heap.size (fun k_ => P0_2_ k_) (.slice A0_2 l0_2.length c0_2) l0_2) (h : coder_Take.f k a0_0 a0_1 l0_2 a0_3 a1 a2 a3 = some (r1, r2, r3, r4, r5)) :
  Calls Try.prog 34 #[.agg #[.int .u64 a0_0, .int .u32 a0_1, .slice A0_2 l0_2.length c0_2, .int .i64 a0_3], .int .i64 a1, .int .i64 a2, .int .i64 a3] w fun e w' => ∃ v2_ : Value, e = .returned (.tuple #[.agg #[.int .u64 r1, .int .u32 r2, v2_, .int .i64 r4], .int .i64 r5]) ∧ Kd.V (Kd.int .u8) 5 w' w.heap.size (fun k_ => (P0_2_ k_ ∨ w.heap.size ≤ k_)) v2_ r3 ∧ Below w.heap.size w w' := by
 have hu43 := Try.underlying43
 have HO0_2 := zm (show Kd.V (Kd.int .u8) 5 w w.heap.size (fun k_ => (P0_2_ k_ ∨ w.heap.size ≤ k_)) (.slice A0_2 l0_2.length c0_2) l0_2 from zy hs0_2 (fun k_ hk => .inl hk))
 have HB := zm (Below.refl w.heap.size w)
 have H : ((coder_good.f a0_0 a0_1 l0_2 a0_3).bind fun bt355 => ((coder_fair.f a1 a2 a3).bind fun t361 => (if t361 = true then ((coder_part.f bt355.2.1 a1 a2 a3).bind fun bt362 => (coder_Take.l0 k bt362.1 (IntKind.u64.wrap (bt355.1 - (mn bt355.1 bt362.2))) bt355.2.1 bt355.2.2.1 bt355.2.2.2)) else (some (bt355.1, bt355.2.1, bt355.2.2.1, bt355.2.2.2, 1))))) = some (r1, r2, r3, r4, r5) := h
 clear h
 replace H := Option.bind_eq_some_iff.mp H
 obtain ⟨⟨t355, t356, t357, t360⟩, A50, H⟩ := H
 replace H : ((coder_fair.f a1 a2 a3).bind fun t361 => (if t361 = true then ((coder_part.f t356 a1 a2 a3).bind fun bt362 => (coder_Take.l0 k bt362.1 (IntKind.u64.wrap (t355 - (mn t355 bt362.2))) t356 t357 t360)) else (some (t355, t356, t357, t360, 1)))) = some (r1, r2, r3, r4, r5) := H
 have A5 := zm A50
 clear A50
 replace H := Option.bind_eq_some_iff.mp H
 obtain ⟨t361, A60, H⟩ := H
 replace H : (if t361 = true then ((coder_part.f t356 a1 a2 a3).bind fun bt362 => (coder_Take.l0 k bt362.1 (IntKind.u64.wrap (t355 - (mn t355 bt362.2))) t356 t357 t360)) else (some (t355, t356, t357, t360, 1))) = some (r1, r2, r3, r4, r5) := H
 have A6 := zm A60
 clear A60
 by_cases c7 : t361 = true
 ·
  subst c7
  have H1 : ((coder_part.f t356 a1 a2 a3).bind fun bt362 => (coder_Take.l0 k bt362.1 (IntKind.u64.wrap (t355 - (mn t355 bt362.2))) t356 t357 t360)) = some (r1, r2, r3, r4, r5) := by rw [if_pos rfl] at H; exact H
  clear H
  have H := H1
  clear H1
  replace H := Option.bind_eq_some_iff.mp H
  obtain ⟨⟨t362, t363⟩, A80, H⟩ := H
  replace H : (coder_Take.l0 k t362 (IntKind.u64.wrap (t355 - (mn t355 t363))) t356 t357 t360) = some (r1, r2, r3, r4, r5) := H
  have A8 := zm A80
  clear A80
  obtain ⟨ji9, hji9⟩ : ∃ j_ : Int, (mn t355 t363) = j_ := ⟨_, rfl⟩
  replace H : (coder_Take.l0 k t362 (IntKind.u64.wrap (t355 - (ji9))) t356 t357 t360) = some (r1, r2, r3, r4, r5) := by first | (rw [hji9] at H; exact H) | (simp only [hji9] at H ⊢; exact H)
  (try rw [hji9] at A5)
  (try rw [hji9] at A6)
  (try rw [hji9] at A8)
  have hji9_ : (if t363 < t355 then t363 else t355) = ji9 := hji9
  have H' := zm H
  clear H
  go_enter Try.func34, Try.ntmps34
  go_wp2_with (first | ((with_reducible refine gate_dst (N := 4) rfl ?_); refine box_event ?hg (N := 4) ?hd (cs := #[.int .u64 a0_0, .int .u32 a0_1, .slice A0_2 l0_2.length c0_2, .int .i64 a0_3]) (t := 43) ?hr ?_; (case hd => rfl); (case hg => rfl); (case hr => first | (go_simp; done) | (go_simp; rfl)); intro gb353 hg w10 hbox hb; have n0_ := zm (Kd.V_below (Kd.V_elderB (by (with_reducible repeat (first | apply zA | apply zB | apply zC)); exact HO0_2.out) gb353 (Nat.le_of_eq hg.symm)) hb); have n1_ := zm (zJ (by repeat (first | (with_reducible first | exact HB.out | apply ze | apply zd | apply zf) | exact HB.out)) hb); have n2_ := zm (hbox); have n3_ := zm ((by rw [hg]; exact (zE (by repeat (first | (with_reducible first | exact HB.out | apply ze | apply zd | apply zf) | exact HB.out))) : w.heap.size ≤ gb353)); have n4_ := zm ((by rw [hg]; exact (zE (by repeat (first | (with_reducible first | exact HB.out | apply ze | apply zd | apply zf) | exact HB.out))) : w.heap.size ≤ gb353)); clear HO0_2; clear HB; have HO0_2 := n0_; have HB := n1_; have BK353 := n2_; have GW353 := n3_; have GE353 := n4_; clear n0_ n1_ n2_ n3_ n4_; clear hb hbox hg) | ((with_reducible refine gate_dst (N := 8) rfl ?_); refine box_event ?hg (N := 8) ?hd (cs := #[.int .u64 0, .int .u32 0, .slice none 0 0, .int .i64 0]) (t := 43) ?hr ?_; (case hd => rfl); (case hg => rfl); (case hr => first | (go_simp; done) | (go_simp; rfl)); intro gb354 hg w11 hbox hb; have n0_ := zm (Kd.V_below (Kd.V_elderB (by (with_reducible repeat (first | apply zA | apply zB | apply zC)); exact HO0_2.out) gb354 (Nat.le_of_eq hg.symm)) hb); have n1_ := zm (zF (g := gb353) (o := .cells #[.int .u64 a0_0, .int .u32 a0_1, .slice A0_2 l0_2.length c0_2, .int .i64 a0_3] 43 (0, 0)) (by (with_reducible repeat (first | refine zh ?_ _ | refine zj ?_ | refine zi ?_ _)); exact BK353.out) hb); have n2_ := zm (zJ (by repeat (first | (with_reducible first | exact HB.out | apply ze | apply zd | apply zf | refine zk ?_ GE353.out) | exact HB.out)) hb); have n3_ := zm (hbox); have n4_ := zm ((by rw [hg]; exact (zE (by repeat (first | (with_reducible first | exact HB.out | apply ze | apply zd | apply zf | refine zk ?_ GE353.out) | exact HB.out))) : w.heap.size ≤ gb354)); have n5_ := zm ((by rw [hg]; exact (zE (by repeat (first | (with_reducible first | exact HB.out | apply ze | apply zd | apply zf | refine zk ?_ GE353.out) | exact HB.out))) : w.heap.size ≤ gb354)); have n6_ := zm ((by rw [hg]; exact zn (zD (g := gb353) (o := .cells #[.int .u64 a0_0, .int .u32 a0_1, .slice A0_2 l0_2.length c0_2, .int .i64 a0_3] 43 (0, 0)) (by (with_reducible repeat (first | refine zh ?_ _ | refine zj ?_ | refine zi ?_ _)); exact BK353.out)) : gb353 ≠ gb354)); have n7_ := zm ((by rw [hg]; exact zg (zD (g := gb353) (o := .cells #[.int .u64 a0_0, .int .u32 a0_1, .slice A0_2 l0_2.length c0_2, .int .i64 a0_3] 43 (0, 0)) (by (with_reducible repeat (first | refine zh ?_ _ | refine zj ?_ | refine zi ?_ _)); exact BK353.out)) : gb354 ≠ gb353)); clear HO0_2; clear BK353; clear HB; have HO0_2 := n0_; have BK353 := n1_; have HB := n2_; have BK354 := n3_; have GW354 := n4_; have GE354 := n5_; have NB353_354 := n6_; have NB354_353 := n7_; clear n0_ n1_ n2_ n3_ n4_ n5_ n6_ n7_; clear hb hbox hg; have hnb12 := NB353_354.out; have hnc12 := NB354_353.out; have hcz13_0 : w11.cell? ⟨gb353, 0, none⟩ = some (.int .u64 a0_0) := (zs BK353.out 0).trans rfl; have hcz13_1 : w11.cell? ⟨gb353, 1, none⟩ = some (.int .u32 a0_1) := (zs BK353.out 1).trans rfl; have hcz13_2 : w11.cell? ⟨gb353, 2, none⟩ = some (.slice A0_2 l0_2.length c0_2) := (zs BK353.out 2).trans rfl; have hcz13_3 : w11.cell? ⟨gb353, 3, none⟩ = some (.int .i64 a0_3) := (zs BK353.out 3).trans rfl; have hfz13_0 := zx BK353.out 0; have hfz13_1 := zx BK353.out 1; have hfz13_2 := zx BK353.out 2; have hfz13_3 := zx BK353.out 3) | ((with_reducible refine gate_callee (f := 60) rfl ?_); refine goesL_ (some 13) rfl rfl Try.func60 (by kernel_rfl) rfl #[.agg #[.int .u64 a0_0, .int .u32 a0_1, .slice A0_2 l0_2.length c0_2, .int .i64 a0_3]] rfl (by (try simp only [List.map_toArray, List.map_cons, List.map_nil]); first | done | rfl | (simp only [List.length_drop, List.length_take]; rfl)) ?_; (with_reducible refine (coder_good.calls a0_0 a0_1 (fun k_ => (((P0_2_ k_ ∨ w.heap.size ≤ k_) ∧ k_ ≠ gb353) ∧ k_ ≠ gb354)) _ _ l0_2 a0_3 t355 t356 t357 t360 _ ?side1 A5.out).mono ?_); (case side1 => exact HO0_2.out); rintro e w14 ⟨v358, rfl, ho0, hb⟩; refine ⟨_, rfl, ?_⟩; have n0_ := zm (Kd.V_below (by (with_reducible repeat (first | apply zA | apply zB | apply zC)); exact HO0_2.out) hb); have n1_ := zm (Kd.V_lower (zy (ok' := fun k_ => (P0_2_ k_ ∨ w.heap.size ≤ k_) ∧ k_ ≠ gb353 ∧ k_ ≠ gb354) ho0 (fun k_ hk_ => ⟨Or.elim hk_ (fun hs_ => hs_.1.1) (fun hn_ => (.inr (Nat.le_trans (zE (by repeat (first | (with_reducible first | exact HB.out | apply ze | apply zd | apply zf | refine zk ?_ GE353.out | refine zk ?_ GE354.out) | exact HB.out))) hn_))), Or.elim hk_ (fun hs_ => hs_.1.2) (fun hn_ => (Kd.freshB (g := gb353) (o := .cells #[.int .u64 a0_0, .int .u32 a0_1, .slice A0_2 l0_2.length c0_2, .int .i64 a0_3] 43 (0, 0)) (by (with_reducible repeat (first | refine zh ?_ _ | refine zj ?_ | refine zi ?_ _)); exact BK353.out) k_ hn_)), Or.elim hk_ (fun hs_ => hs_.2) (fun hn_ => (Kd.freshB (g := gb354) (o := .cells #[.int .u64 0, .int .u32 0, .slice none 0 0, .int .i64 0] 43 (0, 0)) (by (with_reducible repeat (first | refine zh ?_ _ | refine zj ?_ | refine zi ?_ _)); exact BK354.out) k_ hn_))⟩)) (zE (by repeat (first | (with_reducible first | exact HB.out | apply ze | apply zd | apply zf | refine zk ?_ GE353.out | refine zk ?_ GE354.out) | exact HB.out)))); have n2_ := zm (zF (g := gb353) (o := .cells #[.int .u64 a0_0, .int .u32 a0_1, .slice A0_2 l0_2.length c0_2, .int .i64 a0_3] 43 (0, 0)) (by (with_reducible repeat (first | refine zh ?_ _ | refine zj ?_ | refine zi ?_ _)); exact BK353.out) hb); have n3_ := zm (zF (g := gb354) (o := .cells #[.int .u64 0, .int .u32 0, .slice none 0 0, .int .i64 0] 43 (0, 0)) (by (with_reducible repeat (first | refine zh ?_ _ | refine zj ?_ | refine zi ?_ _)); exact BK354.out) hb); have n4_ := zm (zJ (by repeat (first | (with_reducible first | exact HB.out | apply ze | apply zd | apply zf | refine zk ?_ GE353.out | refine zk ?_ GE354.out) | exact HB.out)) hb); clear HO0_2; clear BK353; clear BK354; clear HB; have HO0_2 := n0_; have HO359 := n1_; have BK353 := n2_; have BK354 := n3_; have HB := n4_; clear n0_ n1_ n2_ n3_ n4_; (try clear hb); (try clear hb2); (try clear hk); (try clear hi); (try clear ho0); have hcz15_0 : w14.cell? ⟨gb353, 0, none⟩ = some (.int .u64 a0_0) := (zs BK353.out 0).trans rfl; have hcz15_1 : w14.cell? ⟨gb353, 1, none⟩ = some (.int .u32 a0_1) := (zs BK353.out 1).trans rfl; have hcz15_2 : w14.cell? ⟨gb353, 2, none⟩ = some (.slice A0_2 l0_2.length c0_2) := (zs BK353.out 2).trans rfl; have hcz15_3 : w14.cell? ⟨gb353, 3, none⟩ = some (.int .i64 a0_3) := (zs BK353.out 3).trans rfl; have hfz15_0 := zx BK353.out 0; have hfz15_1 := zx BK353.out 1; have hfz15_2 := zx BK353.out 2; have hfz15_3 := zx BK353.out 3; obtain ⟨Ao16, co16, eo16⟩ := Kd.V_slice HO359.out; subst eo16) | ((with_reducible refine gate_store (t := 43) (p := 4) rfl ?_); refine store_event (t := 43) (p := 4) (v := ?vo_w17) (w1 := ((((w14.setCell ⟨gb353, 0, none⟩ (.int .u64 t355)).setCell ⟨gb353, 1, none⟩ (.int .u32 t356)).setCell ⟨gb353, 2, none⟩ (.slice Ao16 t357.length co16)).setCell ⟨gb353, 3, none⟩ (.int .i64 t360))) ?hg ?ho ?hn ?hr ?_; (case ho => rfl); (case hg => rfl); (case hn => rfl); (case hr => first | (go_simp; done) | (go_simp; rfl)); intro w17 hw; have n0_ : Aside0 (Kd.V (Kd.int .u8) 5 w17 w.heap.size (fun k_ => (P0_2_ k_ ∨ w.heap.size ≤ k_) ∧ k_ ≠ gb353 ∧ k_ ≠ gb354) (.slice A0_2 l0_2.length c0_2) l0_2) := ⟨(by rw [hw]; exact (by (with_reducible repeat (first | apply zA | apply zB | apply zC)); exact zy (zI (p := ⟨gb353, 3, none⟩) (zI (p := ⟨gb353, 2, none⟩) (zI (p := ⟨gb353, 1, none⟩) (zI (p := ⟨gb353, 0, none⟩) (zy HO0_2.out (fun k_ hk => (⟨hk, hk.1.2⟩ : _ ∧ k_ ≠ gb353))) (fun _ hk => hk.2) (.int .u64 t355)) (fun _ hk => hk.2) (.int .u32 t356)) (fun _ hk => hk.2) (.slice Ao16 t357.length co16)) (fun _ hk => hk.2) (.int .i64 t360)) (fun _ hk => ⟨hk.1.1.1, ⟨hk.1.1.2, hk.1.2⟩⟩)))⟩; have n1_ : Aside0 (Kd.V (Kd.int .u8) 5 w17 w.heap.size (fun k_ => (P0_2_ k_ ∨ w.heap.size ≤ k_) ∧ k_ ≠ gb353 ∧ k_ ≠ gb354) (.slice Ao16 t357.length co16) t357) := ⟨(by rw [hw]; exact (by (with_reducible repeat (first | apply zA | apply zB | apply zC)); exact zy (zI (p := ⟨gb353, 3, none⟩) (zI (p := ⟨gb353, 2, none⟩) (zI (p := ⟨gb353, 1, none⟩) (zI (p := ⟨gb353, 0, none⟩) (zy HO359.out (fun k_ hk => (⟨hk, hk.2.1⟩ : _ ∧ k_ ≠ gb353))) (fun _ hk => hk.2) (.int .u64 t355)) (fun _ hk => hk.2) (.int .u32 t356)) (fun _ hk => hk.2) (.slice Ao16 t357.length co16)) (fun _ hk => hk.2) (.int .i64 t360)) (fun _ hk => ⟨hk.1.1, ⟨hk.1.2.1, hk.1.2.2⟩⟩)))⟩; have n2_ : Aside0 (w17.heap[gb353]? = some (.cells #[.int .u64 t355, .int .u32 t356, .slice Ao16 t357.length co16, .int .i64 t360] 43 (0, 0))) := ⟨(by rw [hw]; exact (by (with_reducible repeat (first | refine zh ?_ _ | refine zj ?_ | refine zi ?_ _)); refine zw (cs := #[.int .u64 t355, .int .u32 t356, .slice Ao16 t357.length co16, .int .i64 a0_3]) ?_ 3 _ rfl; (with_reducible repeat (first | refine zh ?_ _ | refine zj ?_ | refine zi ?_ _)); refine zw (cs := #[.int .u64 t355, .int .u32 t356, .slice A0_2 l0_2.length c0_2, .int .i64 a0_3]) ?_ 2 _ rfl; (with_reducible repeat (first | refine zh ?_ _ | refine zj ?_ | refine zi ?_ _)); refine zw (cs := #[.int .u64 t355, .int .u32 a0_1, .slice A0_2 l0_2.length c0_2, .int .i64 a0_3]) ?_ 1 _ rfl; (with_reducible repeat (first | refine zh ?_ _ | refine zj ?_ | refine zi ?_ _)); refine zw (cs := #[.int .u64 a0_0, .int .u32 a0_1, .slice A0_2 l0_2.length c0_2, .int .i64 a0_3]) ?_ 0 _ rfl; (with_reducible repeat (first | refine zh ?_ _ | refine zj ?_ | refine zi ?_ _)); exact BK353.out))⟩; have n3_ : Aside0 (w17.heap[gb354]? = some (.cells #[.int .u64 0, .int .u32 0, .slice none 0 0, .int .i64 0] 43 (0, 0))) := ⟨(by rw [hw]; exact (by (with_reducible repeat (first | refine zh ?_ _ | refine zj ?_ | refine zi ?_ _)); refine zv ?_ NB354_353.out _; (with_reducible repeat (first | refine zh ?_ _ | refine zj ?_ | refine zi ?_ _)); refine zv ?_ NB354_353.out _; (with_reducible repeat (first | refine zh ?_ _ | refine zj ?_ | refine zi ?_ _)); refine zv ?_ NB354_353.out _; (with_reducible repeat (first | refine zh ?_ _ | refine zj ?_ | refine zi ?_ _)); refine zv ?_ NB354_353.out _; (with_reducible repeat (first | refine zh ?_ _ | refine zj ?_ | refine zi ?_ _)); exact BK354.out))⟩; have n4_ : Aside0 (Below w.heap.size w w17) := ⟨(by rw [hw]; exact (by repeat (first | (with_reducible first | exact HB.out | apply ze | apply zd | apply zf | refine zk ?_ GE353.out | refine zk ?_ GE354.out) | exact HB.out)))⟩; clear hw; clear HO0_2; clear HO359; clear BK353; clear BK354; clear HB; have HO0_2 := n0_; have HO359 := n1_; have BK353 := n2_; have BK354 := n3_; have HB := n4_; clear n0_ n1_ n2_ n3_ n4_) | ((with_reducible refine gate_callee (f := 52) rfl ?_); refine goesL_ (some 17) rfl rfl Try.func52 (by kernel_rfl) rfl #[.int .i64 a1, .int .i64 a2, .int .i64 a3] rfl (by (try simp only [List.map_toArray, List.map_cons, List.map_nil]); first | done | rfl | (simp only [List.length_drop, List.length_take]; rfl)) ?_; (with_reducible refine (coder_fair.calls a1 a2 a3 true _ A6.out).mono ?_); rintro e w' ⟨rfl, ⟨nd, rfl⟩⟩; refine ⟨_, rfl, ?_⟩; (try (rw [drewN_self w17]; generalize hq_ : World.drewN w17 _ = w17; have n0_ : Aside0 (Kd.V (Kd.int .u8) 5 w17 w.heap.size (fun k_ => (P0_2_ k_ ∨ w.heap.size ≤ k_) ∧ k_ ≠ gb353 ∧ k_ ≠ gb354) (.slice A0_2 l0_2.length c0_2) l0_2) := ⟨by rw [← hq_]; exact (by (with_reducible repeat (first | apply zA | apply zB | apply zC)); exact HO0_2.out)⟩; have n1_ : Aside0 (Kd.V (Kd.int .u8) 5 w17 w.heap.size (fun k_ => (P0_2_ k_ ∨ w.heap.size ≤ k_) ∧ k_ ≠ gb353 ∧ k_ ≠ gb354) (.slice Ao16 t357.length co16) t357) := ⟨by rw [← hq_]; exact (by (with_reducible repeat (first | apply zA | apply zB | apply zC)); exact HO359.out)⟩; have n2_ : Aside0 (w17.heap[gb353]? = some (.cells #[.int .u64 t355, .int .u32 t356, .slice Ao16 t357.length co16, .int .i64 t360] 43 (0, 0))) := ⟨by rw [← hq_]; exact (by (with_reducible repeat (first | refine zh ?_ _ | refine zj ?_ | refine zi ?_ _)); exact BK353.out)⟩; have n3_ : Aside0 (w17.heap[gb354]? = some (.cells #[.int .u64 0, .int .u32 0, .slice none 0 0, .int .i64 0] 43 (0, 0))) := ⟨by rw [← hq_]; exact (by (with_reducible repeat (first | refine zh ?_ _ | refine zj ?_ | refine zi ?_ _)); exact BK354.out)⟩; have n4_ : Aside0 (Below w.heap.size w w17) := ⟨by rw [← hq_]; exact (by repeat (first | (with_reducible first | exact HB.out | apply ze | apply zd | apply zf | refine zk ?_ GE353.out | refine zk ?_ GE354.out) | exact HB.out))⟩; clear HO0_2 HO359 BK353 BK354 HB hq_; have HO0_2 := n0_; have HO359 := n1_; have BK353 := n2_; have BK354 := n3_; have HB := n4_; clear n0_ n1_ n2_ n3_ n4_)); have hcz18_0 : w17.cell? ⟨gb353, 0, none⟩ = some (.int .u64 t355) := (zs BK353.out 0).trans rfl; have hcz18_1 : w17.cell? ⟨gb353, 1, none⟩ = some (.int .u32 t356) := (zs BK353.out 1).trans rfl; have hcz18_2 : w17.cell? ⟨gb353, 2, none⟩ = some (.slice Ao16 t357.length co16) := (zs BK353.out 2).trans rfl; have hcz18_3 : w17.cell? ⟨gb353, 3, none⟩ = some (.int .i64 t360) := (zs BK353.out 3).trans rfl; have hfz18_0 := zx BK353.out 0; have hfz18_1 := zx BK353.out 1; have hfz18_2 := zx BK353.out 2; have hfz18_3 := zx BK353.out 3) | ((with_reducible refine gate_callee (f := 53) rfl ?_); refine goesL_ (some 26) rfl rfl Try.func53 (by kernel_rfl) rfl #[.int .u32 t356, .int .i64 a1, .int .i64 a2, .int .i64 a3] rfl (by (try simp only [List.map_toArray, List.map_cons, List.map_nil]); first | done | rfl | (simp only [List.length_drop, List.length_take]; rfl)) ?_; (with_reducible refine (coder_part.calls t356 a1 a2 a3 t362 t363 _ A8.out).mono ?_); rintro e w' ⟨rfl, ⟨nd, rfl⟩⟩; refine ⟨_, rfl, ?_⟩; (try (rw [drewN_self w17]; generalize hq_ : World.drewN w17 _ = w17; have n0_ : Aside0 (Kd.V (Kd.int .u8) 5 w17 w.heap.size (fun k_ => (P0_2_ k_ ∨ w.heap.size ≤ k_) ∧ k_ ≠ gb353 ∧ k_ ≠ gb354) (.slice A0_2 l0_2.length c0_2) l0_2) := ⟨by rw [← hq_]; exact (by (with_reducible repeat (first | apply zA | apply zB | apply zC)); exact HO0_2.out)⟩; have n1_ : Aside0 (Kd.V (Kd.int .u8) 5 w17 w.heap.size (fun k_ => (P0_2_ k_ ∨ w.heap.size ≤ k_) ∧ k_ ≠ gb353 ∧ k_ ≠ gb354) (.slice Ao16 t357.length co16) t357) := ⟨by rw [← hq_]; exact (by (with_reducible repeat (first | apply zA | apply zB | apply zC)); exact HO359.out)⟩; have n2_ : Aside0 (w17.heap[gb353]? = some (.cells #[.int .u64 t355, .int .u32 t356, .slice Ao16 t357.length co16, .int .i64 t360] 43 (0, 0))) := ⟨by rw [← hq_]; exact (by (with_reducible repeat (first | refine zh ?_ _ | refine zj ?_ | refine zi ?_ _)); exact BK353.out)⟩; have n3_ : Aside0 (w17.heap[gb354]? = some (.cells #[.int .u64 0, .int .u32 0, .slice none 0 0, .int .i64 0] 43 (0, 0))) := ⟨by rw [← hq_]; exact (by (with_reducible repeat (first | refine zh ?_ _ | refine zj ?_ | refine zi ?_ _)); exact BK354.out)⟩; have n4_ : Aside0 (Below w.heap.size w w17) := ⟨by rw [← hq_]; exact (by repeat (first | (with_reducible first | exact HB.out | apply ze | apply zd | apply zf | refine zk ?_ GE353.out | refine zk ?_ GE354.out) | exact HB.out))⟩; clear HO0_2 HO359 BK353 BK354 HB hq_; have HO0_2 := n0_; have HO359 := n1_; have BK353 := n2_; have BK354 := n3_; have HB := n4_; clear n0_ n1_ n2_ n3_ n4_)); have hcz19_0 : w17.cell? ⟨gb353, 0, none⟩ = some (.int .u64 t355) := (zs BK353.out 0).trans rfl; have hcz19_1 : w17.cell? ⟨gb353, 1, none⟩ = some (.int .u32 t356) := (zs BK353.out 1).trans rfl; have hcz19_2 : w17.cell? ⟨gb353, 2, none⟩ = some (.slice Ao16 t357.length co16) := (zs BK353.out 2).trans rfl; have hcz19_3 : w17.cell? ⟨gb353, 3, none⟩ = some (.int .i64 t360) := (zs BK353.out 3).trans rfl; have hfz19_0 := zx BK353.out 0; have hfz19_1 := zx BK353.out 1; have hfz19_2 := zx BK353.out 2; have hfz19_3 := zx BK353.out 3))
  go_loopg [10] k (fun kq v10 w' => ∃ (x10_1 : Int) (x354000_1 : Int) (x354003_1 : Int), v10 = .int .u32 x10_1 ∧ Aside0 (coder_Take.l0 kq x10_1 x354000_1 t356 t357 x354003_1 = some (r1, r2, r3, r4, r5)) ∧ Aside0 (kq ≤ k) ∧ Aside0 (Kd.V (Kd.int .u8) 5 w' w.heap.size (fun k_ => (P0_2_ k_ ∨ w.heap.size ≤ k_) ∧ k_ ≠ gb353 ∧ k_ ≠ gb354) (.slice Ao16 t357.length co16) t357) ∧ Aside0 (w'.heap[gb353]? = some (.cells #[.int .u64 x354000_1, .int .u32 t356, (.slice Ao16 t357.length co16), .int .i64 x354003_1] 43 (0, 0))) ∧ Aside0 (w'.heap[gb354]? = some (.cells #[.int .u64 0, .int .u32 0, (.slice none 0 0), .int .i64 0] 43 (0, 0))) ∧ Aside0 (Below w.heap.size w w'))
  case atStart => exact ⟨(t362), (IntKind.u64.wrap (t355 - (ji9))), (t360), (by first | rfl | (simp; done) | (simp [*]; done)), H', ⟨Nat.le_refl _⟩, ⟨by (with_reducible repeat (first | apply zA | apply zB | apply zC)); exact zy (zI (p := ⟨gb353, 0, none⟩) (zy HO359.out (fun k_ hk => (⟨hk, hk.2.1⟩ : _ ∧ k_ ≠ gb353))) (fun _ hk => hk.2) (.int .u64 (IntKind.u64.wrap (t355 - (ji9))))) (fun _ hk => ⟨hk.1.1, ⟨hk.1.2.1, hk.1.2.2⟩⟩)⟩, ⟨by (with_reducible repeat (first | refine zh ?_ _ | refine zj ?_ | refine zi ?_ _)); refine zw (cs := #[.int .u64 t355, .int .u32 t356, .slice Ao16 t357.length co16, .int .i64 t360]) ?_ 0 _ rfl; (with_reducible repeat (first | refine zh ?_ _ | refine zj ?_ | refine zi ?_ _)); exact BK353.out⟩, ⟨by (with_reducible repeat (first | refine zh ?_ _ | refine zj ?_ | refine zi ?_ _)); refine zv ?_ NB354_353.out _; (with_reducible repeat (first | refine zh ?_ _ | refine zj ?_ | refine zi ?_ _)); exact BK354.out⟩, ⟨by repeat (first | (with_reducible first | exact HB.out | apply ze | apply zd | apply zf | refine zk ?_ GE353.out | refine zk ?_ GE354.out) | exact HB.out)⟩⟩
  case round =>
   clear H'
   try clear c1
   try clear p2
   try clear c3
   try clear c5
   try clear c6
   try clear c7
   try clear c12
   try clear hcz13_0
   try clear hcz13_1
   try clear hcz13_2
   try clear hcz13_3
   try clear hcz15_0
   try clear hcz15_1
   try clear hcz15_2
   try clear hcz15_3
   try clear hcz18_0
   try clear hcz18_1
   try clear hcz18_2
   try clear hcz18_3
   try clear hcz19_0
   try clear hcz19_1
   try clear hcz19_2
   try clear hcz19_3
   try clear hfz13_0
   try clear hfz13_1
   try clear hfz13_2
   try clear hfz13_3
   try clear hfz15_0
   try clear hfz15_1
   try clear hfz15_2
   try clear hfz15_3
   try clear hfz18_0
   try clear hfz18_1
   try clear hfz18_2
   try clear hfz18_3
   try clear hfz19_0
   try clear hfz19_1
   try clear hfz19_2
   try clear hfz19_3
   obtain ⟨x10_1, x354000_1, x354003_1, rfl, HA, HK1, HO_354002, BK353, BK354, HB⟩ := hrel
   cases gk with
   | zero => exact absurd HA.out (by simp [coder_Take.l0])
   | succ k1 =>
    have H := HA.out
    clear HA
    simp only [coder_Take.l0] at H
    by_cases c20 : x10_1 < 16777216
    ·
     rw [if_pos c20] at H
     have c20b0 : decide (x10_1 < 16777216) = true := decide_eq_true c20
     clear c20
     replace H := Option.bind_eq_some_iff.mp H
     obtain ⟨t364, A210, H⟩ := H
     replace H : (if x354003_1 < (t357.length : Int) then (coder_Take.l0 k1 ((x10_1 * 256) % 4294967296) (Go.bits .or .u64 (Go.bits .and .u64 (IntKind.u64.wrap (x354000_1 * 256)) 4294967295) t364) t356 t357 (wrap64 (x354003_1 + 1))) else (coder_Take.l0 k1 ((x10_1 * 256) % 4294967296) (Go.bits .or .u64 (Go.bits .and .u64 (IntKind.u64.wrap (x354000_1 * 256)) 4294967295) t364) t356 t357 x354003_1)) = some (r1, r2, r3, r4, r5) := H
     have A21 := zm A210
     clear A210
     by_cases c22 : x354003_1 < (t357.length : Int)
     ·
      rw [if_pos c22] at H
      have c22b0 : decide (x354003_1 < (t357.length : Int)) = true := decide_eq_true c22
      clear c22
      have H' := zm H
      clear H
      try go_wp2
      have n0_ := zm (zC HO_354002.out)
      have n1_ := zm (zj BK353.out)
      have n2_ := zm (zj BK354.out)
      have n3_ := zm (zf HB.out)
      clear HO_354002
      clear BK353
      clear BK354
      clear HB
      have HO_354002 := n0_
      have BK353 := n1_
      have BK354 := n2_
      have HB := n3_
      clear n0_ n1_ n2_ n3_
      refine start_ (n := 12) (S := fun w' => w'.cell? ⟨gb353, 0, none⟩ = some (.int .u64 x354000_1) ∧ w'.cell? ⟨gb353, 1, none⟩ = some (.int .u32 t356) ∧ w'.cell? ⟨gb353, 2, none⟩ = some (.slice Ao16 t357.length co16) ∧ w'.cell? ⟨gb353, 3, none⟩ = some (.int .i64 x354003_1)) (ds := [11]) #[false, false, false, false, false, false, false, false, false, false, false, false] (by kernel_rfl) rfl rfl ⟨(zs BK353.out 0).trans rfl, (zs BK353.out 1).trans rfl, (zs BK353.out 2).trans rfl, (zs BK353.out 3).trans rfl⟩ (fun hHeld => ?_); refine with_tabW coder_Take.tab7 coder_Take.bits7 (fun HT_ HW_ => ?_)
      generalize wr.drew = w23 at HO_354002 BK353 BK354 HB hHeld ⊢
      refine pure_ (i := 0) (N := some 39) (v := ?_) (a' := ?_) #[true, false, false, false, false, false, false, false, false, false, false, false] rfl rfl (any_of HT_.out (by kernel_rfl)) (fun _ _ _ h => h) (Or.inl ⟨by rfl, ?_⟩) ?_ ?_
      rotate_left
      ·
       intro w'
       go_simp
       with_reducible rfl
      rotate_left
      ·
       simp only [Act.put, List.setIfInBounds_toArray, List.set_cons_zero, List.set_cons_succ, i64_w, i32_w]
       rfl
      refine pure_ (i := 4) (N := some 43) (v := ?_) (a' := ?_) #[true, false, false, false, true, false, false, false, false, false, false, false] rfl rfl (any_of HT_.out (by kernel_rfl)) (fun _ _ _ h => h) (Or.inl ⟨by rfl, ?_⟩) ?_ ?_
      rotate_left
      ·
       intro w'
       go_simp
       with_reducible rfl
      rotate_left
      ·
       simp only [Act.put, List.setIfInBounds_toArray, List.set_cons_zero, List.set_cons_succ, i64_w, i32_w]
       rfl
      refine pure_ (i := 6) (N := some 45) (v := ?_) (a' := ?_) #[true, false, false, false, true, false, true, false, false, false, false, false] rfl rfl (any_of HT_.out (by kernel_rfl)) (fun _ _ _ h => h) (Or.inl ⟨by rfl, ?_⟩) ?_ ?_
      rotate_left
      ·
       intro w'
       go_simp
       with_reducible rfl
      rotate_left
      ·
       simp only [Act.put, List.setIfInBounds_toArray, List.set_cons_zero, List.set_cons_succ, i64_w, i32_w]
       rfl
      refine take_ (i := 1) (N := some 40) (v := ?_) (a' := ?_) #[true, true, false, false, true, false, true, false, false, false, false, false] rfl rfl (take_ofW HT_.out HW_.out (by kernel_rfl)) (fun _ _ _ h => h) (Or.inl ⟨by rfl, ?_⟩) hHeld ?_ ?_
      rotate_left
      ·
       rintro w' ⟨s0, s1, s2, s3⟩
       go_simp
       with_reducible rfl
      rotate_left
      ·
       simp only [Act.put, List.setIfInBounds_toArray, List.set_cons_zero, List.set_cons_succ, i64_w, i32_w]
       rfl
      refine pure_ (i := 2) (N := some 41) (v := ?_) (a' := ?_) #[true, true, true, false, true, false, true, false, false, false, false, false] rfl rfl (any_of HT_.out (by kernel_rfl)) (fun _ _ _ h => h) (Or.inl ⟨by rfl, ?_⟩) ?_ ?_
      rotate_left
      ·
       intro w'
       go_simp
       with_reducible rfl
      rotate_left
      ·
       simp only [Act.put, List.setIfInBounds_toArray, List.set_cons_zero, List.set_cons_succ, i64_w, i32_w]
       rfl
      refine pure_ (i := 3) (N := some 42) (v := ?_) (a' := ?_) #[true, true, true, true, true, false, true, false, false, false, false, false] rfl rfl (any_of HT_.out (by kernel_rfl)) (fun _ _ _ h => h) (Or.inl ⟨by rfl, ?_⟩) ?_ ?_
      rotate_left
      ·
       intro w'
       go_simp
       with_reducible rfl
      rotate_left
      ·
       simp only [Act.put, List.setIfInBounds_toArray, List.set_cons_zero, List.set_cons_succ, i64_w, i32_w]
       rfl
      refine take_ (i := 5) (N := some 44) (v := ?_) (a' := ?_) #[true, true, true, true, true, true, true, false, false, false, false, false] rfl rfl (take_ofW HT_.out HW_.out (by kernel_rfl)) (fun _ _ _ h => h) (Or.inl ⟨by rfl, ?_⟩) hHeld ?_ ?_
      rotate_left
      ·
       rintro w' ⟨s0, s1, s2, s3⟩
       go_simp
       with_reducible rfl
      rotate_left
      ·
       simp only [Act.put, List.setIfInBounds_toArray, List.set_cons_zero, List.set_cons_succ, i64_w, i32_w]
       rfl
      refine take_ (i := 7) (N := some 46) (v := ?_) (a' := ?_) #[true, true, true, true, true, true, true, true, false, false, false, false] rfl rfl (take_ofW HT_.out HW_.out (by kernel_rfl)) (fun _ _ _ h => h) (Or.inl ⟨by rfl, ?_⟩) hHeld ?_ ?_
      rotate_left
      ·
       rintro w' ⟨s0, s1, s2, s3⟩
       go_simp
       with_reducible rfl
      rotate_left
      ·
       simp only [Act.put, List.setIfInBounds_toArray, List.set_cons_zero, List.set_cons_succ, i64_w, i32_w]
       rfl
      refine one_ (i := 8) (N := some 47) #[true, true, true, true, true, true, true, true, true, false, false, false] rfl rfl (one_of HT_.out (by kernel_rfl)) (by decide) (fun K hK => ?_)
      refine goes_ Try.func58 (by kernel_rfl) rfl #[.slice Ao16 t357.length co16, .int .i64 x354003_1] (by rfl) rfl rfl (by (try simp only [List.map_toArray, List.map_cons, List.map_nil]); first | done | rfl | (simp only [List.length_drop, List.length_take]; rfl)) ?_
      with_reducible refine (coder_at.calls _ _ t357 x354003_1 t364 _ ?side1 ?side2 A21.out).mono ?_
      (case side1 => repeat (first | exact (Kd.V_reads' HO_354002.out).2.2 | (with_reducible refine Kd.C_alloc ?_ _) | (with_reducible refine Kd.C_drewN ?_ _) | (with_reducible refine Kd.C_drew ?_)))
      (case side2 => exact (Kd.V_reads' HO_354002.out).2.1)
      rintro e w' ⟨rfl, ⟨nd, rfl⟩⟩
      refine ⟨_, rfl, ?_⟩
      refine hK.out _ _ ⟨(zs BK353.out 0).trans rfl, (zs BK353.out 1).trans rfl, (zs BK353.out 2).trans rfl, (zs BK353.out 3).trans rfl⟩ (fun hHeld => ?_)
      clear hK K
      refine norm_ (a' := ?_) ?_ ?_
      rotate_left
      ·
       show Act.put _ (some 47) _ = _
       simp only [Act.put, List.setIfInBounds_toArray, List.set_cons_zero, List.set_cons_succ, i64_w, i32_w]
       rfl
      refine pure_ (i := 9) (N := some 48) (v := ?_) (a' := ?_) #[true, true, true, true, true, true, true, true, true, true, false, false] rfl rfl (any_of HT_.out (by kernel_rfl)) (fun _ _ _ h => h) (Or.inl ⟨by rfl, ?_⟩) ?_ ?_
      rotate_left
      ·
       intro w'
       go_simp
       with_reducible rfl
      rotate_left
      ·
       simp only [Act.put, List.setIfInBounds_toArray, List.set_cons_zero, List.set_cons_succ, i64_w, i32_w]
       rfl
      refine pure_ (i := 10) (N := some 49) (v := ?_) (a' := ?_) #[true, true, true, true, true, true, true, true, true, true, true, false] rfl rfl (any_of HT_.out (by kernel_rfl)) (fun _ _ _ h => h) (Or.inl ⟨by rfl, ?_⟩) ?_ ?_
      rotate_left
      ·
       intro w'
       go_simp
       with_reducible rfl
      rotate_left
      ·
       simp only [Act.put, List.setIfInBounds_toArray, List.set_cons_zero, List.set_cons_succ, i64_w, i32_w]
       rfl
      refine last_ (i := 11) (N := none) #[true, true, true, true, true, true, true, true, true, true, true, true] rfl rfl (one_of HT_.out (by kernel_rfl)) (by decide) (fun K hK => ?_)
      have hs24 : w23.cell? ⟨gb353, 0, none⟩ = some (.int .u64 x354000_1) := (zs BK353.out 0).trans rfl
      have hfs24 := zx BK353.out 0
      have hns24_1 := NB354_353.out
      have hms24_1 := NB353_354.out
      refine skip_ (w1 := ?_) (by rfl) rfl ?_ ?_
      rotate_left
      ·
       go_simp
       rfl
      refine hK.out _ _ ?_
      clear hK K
      refine done_ (done_of HT_.out (by kernel_rfl)) ?_
      have hnb25 := NB353_354.out
      have hnc25 := NB354_353.out
      have hcz26_0 : w23.cell? ⟨gb353, 0, none⟩ = some (.int .u64 x354000_1) := (zs BK353.out 0).trans rfl
      have hcz26_1 : w23.cell? ⟨gb353, 1, none⟩ = some (.int .u32 t356) := (zs BK353.out 1).trans rfl
      have hcz26_2 : w23.cell? ⟨gb353, 2, none⟩ = some (.slice Ao16 t357.length co16) := (zs BK353.out 2).trans rfl
      have hcz26_3 : w23.cell? ⟨gb353, 3, none⟩ = some (.int .i64 x354003_1) := (zs BK353.out 3).trans rfl
      have hfz26_0 := zx BK353.out 0
      have hfz26_1 := zx BK353.out 1
      have hfz26_2 := zx BK353.out 2
      have hfz26_3 := zx BK353.out 3
      try go_wp2
      go_roundg k1
      case measure => have := HK1.out; omega
      case rel => exact ⟨((x10_1 * 256) % 4294967296), (Go.bits .or .u64 (Go.bits .and .u64 (IntKind.u64.wrap (x354000_1 * 256)) 4294967295) t364), (wrap64 (x354003_1 + 1)), (by first | rfl | (simp; done) | (simp [*]; done)), H', ⟨by have := HK1.out; omega⟩, ⟨by (with_reducible repeat (first | apply zA | apply zB | apply zC)); exact zy (zI (p := ⟨gb353, 3, none⟩) (zI (p := ⟨gb353, 0, none⟩) (zy HO_354002.out (fun k_ hk => (⟨hk, hk.2.1⟩ : _ ∧ k_ ≠ gb353))) (fun _ hk => hk.2) (.int .u64 (Go.bits .or .u64 (Go.bits .and .u64 (IntKind.u64.wrap (x354000_1 * 256)) 4294967295) t364))) (fun _ hk => hk.2) (.int .i64 (wrap64 (x354003_1 + 1)))) (fun _ hk => ⟨hk.1.1, ⟨hk.1.2.1, hk.1.2.2⟩⟩)⟩, ⟨by (with_reducible repeat (first | refine zh ?_ _ | refine zj ?_ | refine zi ?_ _)); refine zw (cs := #[.int .u64 (Go.bits .or .u64 (Go.bits .and .u64 (IntKind.u64.wrap (x354000_1 * 256)) 4294967295) t364), .int .u32 t356, .slice Ao16 t357.length co16, .int .i64 x354003_1]) ?_ 3 _ rfl; (with_reducible repeat (first | refine zh ?_ _ | refine zj ?_ | refine zi ?_ _)); refine zw (cs := #[.int .u64 x354000_1, .int .u32 t356, .slice Ao16 t357.length co16, .int .i64 x354003_1]) ?_ 0 _ rfl; (with_reducible repeat (first | refine zh ?_ _ | refine zj ?_ | refine zi ?_ _)); exact BK353.out⟩, ⟨by (with_reducible repeat (first | refine zh ?_ _ | refine zj ?_ | refine zi ?_ _)); refine zv ?_ NB354_353.out _; (with_reducible repeat (first | refine zh ?_ _ | refine zj ?_ | refine zi ?_ _)); refine zv ?_ NB354_353.out _; (with_reducible repeat (first | refine zh ?_ _ | refine zj ?_ | refine zi ?_ _)); exact BK354.out⟩, ⟨by repeat (first | (with_reducible first | exact HB.out | apply ze | apply zd | apply zf | refine zk ?_ GE353.out | refine zk ?_ GE354.out) | exact HB.out)⟩⟩
     ·
      rw [if_neg c22] at H
      have c22b0 : decide (x354003_1 < (t357.length : Int)) = false := decide_eq_false c22
      clear c22
      have H' := zm H
      clear H
      try go_wp2
      have n0_ := zm (zC HO_354002.out)
      have n1_ := zm (zj BK353.out)
      have n2_ := zm (zj BK354.out)
      have n3_ := zm (zf HB.out)
      clear HO_354002
      clear BK353
      clear BK354
      clear HB
      have HO_354002 := n0_
      have BK353 := n1_
      have BK354 := n2_
      have HB := n3_
      clear n0_ n1_ n2_ n3_
      refine start_ (n := 12) (S := fun w' => w'.cell? ⟨gb353, 0, none⟩ = some (.int .u64 x354000_1) ∧ w'.cell? ⟨gb353, 1, none⟩ = some (.int .u32 t356) ∧ w'.cell? ⟨gb353, 2, none⟩ = some (.slice Ao16 t357.length co16) ∧ w'.cell? ⟨gb353, 3, none⟩ = some (.int .i64 x354003_1)) (ds := [11]) #[false, false, false, false, false, false, false, false, false, false, false, false] (by kernel_rfl) rfl rfl ⟨(zs BK353.out 0).trans rfl, (zs BK353.out 1).trans rfl, (zs BK353.out 2).trans rfl, (zs BK353.out 3).trans rfl⟩ (fun hHeld => ?_); refine with_tabW coder_Take.tab7 coder_Take.bits7 (fun HT_ HW_ => ?_)
      generalize wr.drew = w27 at HO_354002 BK353 BK354 HB hHeld ⊢
      refine pure_ (i := 0) (N := some 39) (v := ?_) (a' := ?_) #[true, false, false, false, false, false, false, false, false, false, false, false] rfl rfl (any_of HT_.out (by kernel_rfl)) (fun _ _ _ h => h) (Or.inl ⟨by rfl, ?_⟩) ?_ ?_
      rotate_left
      ·
       intro w'
       go_simp
       with_reducible rfl
      rotate_left
      ·
       simp only [Act.put, List.setIfInBounds_toArray, List.set_cons_zero, List.set_cons_succ, i64_w, i32_w]
       rfl
      refine pure_ (i := 4) (N := some 43) (v := ?_) (a' := ?_) #[true, false, false, false, true, false, false, false, false, false, false, false] rfl rfl (any_of HT_.out (by kernel_rfl)) (fun _ _ _ h => h) (Or.inl ⟨by rfl, ?_⟩) ?_ ?_
      rotate_left
      ·
       intro w'
       go_simp
       with_reducible rfl
      rotate_left
      ·
       simp only [Act.put, List.setIfInBounds_toArray, List.set_cons_zero, List.set_cons_succ, i64_w, i32_w]
       rfl
      refine pure_ (i := 6) (N := some 45) (v := ?_) (a' := ?_) #[true, false, false, false, true, false, true, false, false, false, false, false] rfl rfl (any_of HT_.out (by kernel_rfl)) (fun _ _ _ h => h) (Or.inl ⟨by rfl, ?_⟩) ?_ ?_
      rotate_left
      ·
       intro w'
       go_simp
       with_reducible rfl
      rotate_left
      ·
       simp only [Act.put, List.setIfInBounds_toArray, List.set_cons_zero, List.set_cons_succ, i64_w, i32_w]
       rfl
      refine take_ (i := 1) (N := some 40) (v := ?_) (a' := ?_) #[true, true, false, false, true, false, true, false, false, false, false, false] rfl rfl (take_ofW HT_.out HW_.out (by kernel_rfl)) (fun _ _ _ h => h) (Or.inl ⟨by rfl, ?_⟩) hHeld ?_ ?_
      rotate_left
      ·
       rintro w' ⟨s0, s1, s2, s3⟩
       go_simp
       with_reducible rfl
      rotate_left
      ·
       simp only [Act.put, List.setIfInBounds_toArray, List.set_cons_zero, List.set_cons_succ, i64_w, i32_w]
       rfl
      refine pure_ (i := 2) (N := some 41) (v := ?_) (a' := ?_) #[true, true, true, false, true, false, true, false, false, false, false, false] rfl rfl (any_of HT_.out (by kernel_rfl)) (fun _ _ _ h => h) (Or.inl ⟨by rfl, ?_⟩) ?_ ?_
      rotate_left
      ·
       intro w'
       go_simp
       with_reducible rfl
      rotate_left
      ·
       simp only [Act.put, List.setIfInBounds_toArray, List.set_cons_zero, List.set_cons_succ, i64_w, i32_w]
       rfl
      refine pure_ (i := 3) (N := some 42) (v := ?_) (a' := ?_) #[true, true, true, true, true, false, true, false, false, false, false, false] rfl rfl (any_of HT_.out (by kernel_rfl)) (fun _ _ _ h => h) (Or.inl ⟨by rfl, ?_⟩) ?_ ?_
      rotate_left
      ·
       intro w'
       go_simp
       with_reducible rfl
      rotate_left
      ·
       simp only [Act.put, List.setIfInBounds_toArray, List.set_cons_zero, List.set_cons_succ, i64_w, i32_w]
       rfl
      refine take_ (i := 5) (N := some 44) (v := ?_) (a' := ?_) #[true, true, true, true, true, true, true, false, false, false, false, false] rfl rfl (take_ofW HT_.out HW_.out (by kernel_rfl)) (fun _ _ _ h => h) (Or.inl ⟨by rfl, ?_⟩) hHeld ?_ ?_
      rotate_left
      ·
       rintro w' ⟨s0, s1, s2, s3⟩
       go_simp
       with_reducible rfl
      rotate_left
      ·
       simp only [Act.put, List.setIfInBounds_toArray, List.set_cons_zero, List.set_cons_succ, i64_w, i32_w]
       rfl
      refine take_ (i := 7) (N := some 46) (v := ?_) (a' := ?_) #[true, true, true, true, true, true, true, true, false, false, false, false] rfl rfl (take_ofW HT_.out HW_.out (by kernel_rfl)) (fun _ _ _ h => h) (Or.inl ⟨by rfl, ?_⟩) hHeld ?_ ?_
      rotate_left
      ·
       rintro w' ⟨s0, s1, s2, s3⟩
       go_simp
       with_reducible rfl
      rotate_left
      ·
       simp only [Act.put, List.setIfInBounds_toArray, List.set_cons_zero, List.set_cons_succ, i64_w, i32_w]
       rfl
      refine one_ (i := 8) (N := some 47) #[true, true, true, true, true, true, true, true, true, false, false, false] rfl rfl (one_of HT_.out (by kernel_rfl)) (by decide) (fun K hK => ?_)
      refine goes_ Try.func58 (by kernel_rfl) rfl #[.slice Ao16 t357.length co16, .int .i64 x354003_1] (by rfl) rfl rfl (by (try simp only [List.map_toArray, List.map_cons, List.map_nil]); first | done | rfl | (simp only [List.length_drop, List.length_take]; rfl)) ?_
      with_reducible refine (coder_at.calls _ _ t357 x354003_1 t364 _ ?side1 ?side2 A21.out).mono ?_
      (case side1 => repeat (first | exact (Kd.V_reads' HO_354002.out).2.2 | (with_reducible refine Kd.C_alloc ?_ _) | (with_reducible refine Kd.C_drewN ?_ _) | (with_reducible refine Kd.C_drew ?_)))
      (case side2 => exact (Kd.V_reads' HO_354002.out).2.1)
      rintro e w' ⟨rfl, ⟨nd, rfl⟩⟩
      refine ⟨_, rfl, ?_⟩
      refine hK.out _ _ ⟨(zs BK353.out 0).trans rfl, (zs BK353.out 1).trans rfl, (zs BK353.out 2).trans rfl, (zs BK353.out 3).trans rfl⟩ (fun hHeld => ?_)
      clear hK K
      refine norm_ (a' := ?_) ?_ ?_
      rotate_left
      ·
       show Act.put _ (some 47) _ = _
       simp only [Act.put, List.setIfInBounds_toArray, List.set_cons_zero, List.set_cons_succ, i64_w, i32_w]
       rfl
      refine pure_ (i := 9) (N := some 48) (v := ?_) (a' := ?_) #[true, true, true, true, true, true, true, true, true, true, false, false] rfl rfl (any_of HT_.out (by kernel_rfl)) (fun _ _ _ h => h) (Or.inl ⟨by rfl, ?_⟩) ?_ ?_
      rotate_left
      ·
       intro w'
       go_simp
       with_reducible rfl
      rotate_left
      ·
       simp only [Act.put, List.setIfInBounds_toArray, List.set_cons_zero, List.set_cons_succ, i64_w, i32_w]
       rfl
      refine pure_ (i := 10) (N := some 49) (v := ?_) (a' := ?_) #[true, true, true, true, true, true, true, true, true, true, true, false] rfl rfl (any_of HT_.out (by kernel_rfl)) (fun _ _ _ h => h) (Or.inl ⟨by rfl, ?_⟩) ?_ ?_
      rotate_left
      ·
       intro w'
       go_simp
       with_reducible rfl
      rotate_left
      ·
       simp only [Act.put, List.setIfInBounds_toArray, List.set_cons_zero, List.set_cons_succ, i64_w, i32_w]
       rfl
      refine last_ (i := 11) (N := none) #[true, true, true, true, true, true, true, true, true, true, true, true] rfl rfl (one_of HT_.out (by kernel_rfl)) (by decide) (fun K hK => ?_)
      have hs28 : w27.cell? ⟨gb353, 0, none⟩ = some (.int .u64 x354000_1) := (zs BK353.out 0).trans rfl
      have hfs28 := zx BK353.out 0
      have hns28_1 := NB354_353.out
      have hms28_1 := NB353_354.out
      refine skip_ (w1 := ?_) (by rfl) rfl ?_ ?_
      rotate_left
      ·
       go_simp
       rfl
      refine hK.out _ _ ?_
      clear hK K
      refine done_ (done_of HT_.out (by kernel_rfl)) ?_
      have hnb29 := NB353_354.out
      have hnc29 := NB354_353.out
      have hcz30_0 : w27.cell? ⟨gb353, 0, none⟩ = some (.int .u64 x354000_1) := (zs BK353.out 0).trans rfl
      have hcz30_1 : w27.cell? ⟨gb353, 1, none⟩ = some (.int .u32 t356) := (zs BK353.out 1).trans rfl
      have hcz30_2 : w27.cell? ⟨gb353, 2, none⟩ = some (.slice Ao16 t357.length co16) := (zs BK353.out 2).trans rfl
      have hcz30_3 : w27.cell? ⟨gb353, 3, none⟩ = some (.int .i64 x354003_1) := (zs BK353.out 3).trans rfl
      have hfz30_0 := zx BK353.out 0
      have hfz30_1 := zx BK353.out 1
      have hfz30_2 := zx BK353.out 2
      have hfz30_3 := zx BK353.out 3
      try go_wp2
      go_roundg k1
      case measure => have := HK1.out; omega
      case rel => exact ⟨((x10_1 * 256) % 4294967296), (Go.bits .or .u64 (Go.bits .and .u64 (IntKind.u64.wrap (x354000_1 * 256)) 4294967295) t364), (x354003_1), (by first | rfl | (simp; done) | (simp [*]; done)), H', ⟨by have := HK1.out; omega⟩, ⟨by (with_reducible repeat (first | apply zA | apply zB | apply zC)); exact zy (zI (p := ⟨gb353, 0, none⟩) (zy HO_354002.out (fun k_ hk => (⟨hk, hk.2.1⟩ : _ ∧ k_ ≠ gb353))) (fun _ hk => hk.2) (.int .u64 (Go.bits .or .u64 (Go.bits .and .u64 (IntKind.u64.wrap (x354000_1 * 256)) 4294967295) t364))) (fun _ hk => ⟨hk.1.1, ⟨hk.1.2.1, hk.1.2.2⟩⟩)⟩, ⟨by (with_reducible repeat (first | refine zh ?_ _ | refine zj ?_ | refine zi ?_ _)); refine zw (cs := #[.int .u64 x354000_1, .int .u32 t356, .slice Ao16 t357.length co16, .int .i64 x354003_1]) ?_ 0 _ rfl; (with_reducible repeat (first | refine zh ?_ _ | refine zj ?_ | refine zi ?_ _)); exact BK353.out⟩, ⟨by (with_reducible repeat (first | refine zh ?_ _ | refine zj ?_ | refine zi ?_ _)); refine zv ?_ NB354_353.out _; (with_reducible repeat (first | refine zh ?_ _ | refine zj ?_ | refine zi ?_ _)); exact BK354.out⟩, ⟨by repeat (first | (with_reducible first | exact HB.out | apply ze | apply zd | apply zf | refine zk ?_ GE353.out | refine zk ?_ GE354.out) | exact HB.out)⟩⟩
    ·
     rw [if_neg c20] at H
     have c20b0 : decide (x10_1 < 16777216) = false := decide_eq_false c20
     clear c20
     simp only [Option.some.injEq, Prod.mk.injEq] at H
     obtain ⟨rfl, rfl, rfl, rfl, rfl⟩ := H
     have hnb31 := NB353_354.out
     have hnc31 := NB354_353.out
     have hcz32_0 : wr.cell? ⟨gb353, 0, none⟩ = some (.int .u64 x354000_1) := (zs BK353.out 0).trans rfl
     have hcz32_1 : wr.cell? ⟨gb353, 1, none⟩ = some (.int .u32 t356) := (zs BK353.out 1).trans rfl
     have hcz32_2 : wr.cell? ⟨gb353, 2, none⟩ = some (.slice Ao16 t357.length co16) := (zs BK353.out 2).trans rfl
     have hcz32_3 : wr.cell? ⟨gb353, 3, none⟩ = some (.int .i64 x354003_1) := (zs BK353.out 3).trans rfl
     have hfz32_0 := zx BK353.out 0
     have hfz32_1 := zx BK353.out 1
     have hfz32_2 := zx BK353.out 2
     have hfz32_3 := zx BK353.out 3
     have hcz33_0 : wr.cell? ⟨gb354, 0, none⟩ = some (.int .u64 0) := (zs BK354.out 0).trans rfl
     have hcz33_1 : wr.cell? ⟨gb354, 1, none⟩ = some (.int .u32 0) := (zs BK354.out 1).trans rfl
     have hcz33_2 : wr.cell? ⟨gb354, 2, none⟩ = some (.slice none 0 0) := (zs BK354.out 2).trans rfl
     have hcz33_3 : wr.cell? ⟨gb354, 3, none⟩ = some (.int .i64 0) := (zs BK354.out 3).trans rfl
     have hfz33_0 := zx BK354.out 0
     have hfz33_1 := zx BK354.out 1
     have hfz33_2 := zx BK354.out 2
     have hfz33_3 := zx BK354.out 3
     go_wp2
     refine bodyPost_ret (results_ct rfl _ _ gb354 43 #[.int .u64 x354000_1, .int .u32 x10_1, .slice Ao16 t357.length co16, .int .i64 x354003_1] (0, 0) _ rfl (by (with_reducible repeat (first | refine zh ?_ _ | refine zj ?_ | refine zi ?_ _)); refine zw (cs := #[.int .u64 x354000_1, .int .u32 x10_1, .slice Ao16 t357.length co16, .int .i64 0]) ?_ 3 _ rfl; (with_reducible repeat (first | refine zh ?_ _ | refine zj ?_ | refine zi ?_ _)); refine zw (cs := #[.int .u64 x354000_1, .int .u32 x10_1, .slice none 0 0, .int .i64 0]) ?_ 2 _ rfl; (with_reducible repeat (first | refine zh ?_ _ | refine zj ?_ | refine zi ?_ _)); refine zw (cs := #[.int .u64 x354000_1, .int .u32 0, .slice none 0 0, .int .i64 0]) ?_ 1 _ rfl; (with_reducible repeat (first | refine zh ?_ _ | refine zj ?_ | refine zi ?_ _)); refine zw (cs := #[.int .u64 0, .int .u32 0, .slice none 0 0, .int .i64 0]) ?_ 0 _ rfl; (with_reducible repeat (first | refine zh ?_ _ | refine zj ?_ | refine zi ?_ _)); refine zv ?_ NB354_353.out _; (with_reducible repeat (first | refine zh ?_ _ | refine zj ?_ | refine zi ?_ _)); exact BK354.out) Try.underlying43 rfl (by kernel_rfl)) rfl ?_
     exact ⟨_, by first | rfl | (simp [errW_none, errW_some] <;> rfl) | (simp only [← hji9]; first | rfl | (simp [errW_none, errW_some] <;> rfl)) | (simp [*, errW_none, errW_some] <;> rfl), by (with_reducible repeat (first | apply zA | apply zB | apply zC)); exact zy (zI (p := ⟨gb354, 3, none⟩) (zI (p := ⟨gb354, 2, none⟩) (zI (p := ⟨gb354, 1, none⟩) (zI (p := ⟨gb354, 0, none⟩) (zI (p := ⟨gb353, 1, none⟩) (zy (zy HO_354002.out (fun k_ hk => (⟨hk, hk.2.1⟩ : _ ∧ k_ ≠ gb353))) (fun k_ hk => (⟨hk, hk.1.2.2⟩ : _ ∧ k_ ≠ gb354))) (fun _ hk => hk.1.2) (.int .u32 x10_1)) (fun _ hk => hk.2) (.int .u64 x354000_1)) (fun _ hk => hk.2) (.int .u32 x10_1)) (fun _ hk => hk.2) (.slice Ao16 t357.length co16)) (fun _ hk => hk.2) (.int .i64 x354003_1)) (fun _ hk => hk.1.1.1), by repeat (first | (with_reducible first | exact HB.out | apply ze | apply zd | apply zf | refine zk ?_ GE353.out | refine zk ?_ GE354.out) | exact HB.out)⟩
 ·
  replace c7 := Bool.eq_false_iff.mpr c7
  subst c7
  have H1 : (some (t355, t356, t357, t360, 1)) = some (r1, r2, r3, r4, r5) := by rw [if_neg (show ¬ (false = true) by decide)] at H; exact H
  clear H
  have H := H1
  clear H1
  simp only [Option.some.injEq, Prod.mk.injEq] at H
  obtain ⟨rfl, rfl, rfl, rfl, rfl⟩ := H
  go_enter Try.func34, Try.ntmps34
  go_wp2_with (first | ((with_reducible refine gate_dst (N := 4) rfl ?_); refine box_event ?hg (N := 4) ?hd (cs := #[.int .u64 a0_0, .int .u32 a0_1, .slice A0_2 l0_2.length c0_2, .int .i64 a0_3]) (t := 43) ?hr ?_; (case hd => rfl); (case hg => rfl); (case hr => first | (go_simp; done) | (go_simp; rfl)); intro gb353 hg w34 hbox hb; have n0_ := zm (Kd.V_below (Kd.V_elderB (by (with_reducible repeat (first | apply zA | apply zB | apply zC)); exact HO0_2.out) gb353 (Nat.le_of_eq hg.symm)) hb); have n1_ := zm (zJ (by repeat (first | (with_reducible first | exact HB.out | apply ze | apply zd | apply zf) | exact HB.out)) hb); have n2_ := zm (hbox); have n3_ := zm ((by rw [hg]; exact (zE (by repeat (first | (with_reducible first | exact HB.out | apply ze | apply zd | apply zf) | exact HB.out))) : w.heap.size ≤ gb353)); have n4_ := zm ((by rw [hg]; exact (zE (by repeat (first | (with_reducible first | exact HB.out | apply ze | apply zd | apply zf) | exact HB.out))) : w.heap.size ≤ gb353)); clear HO0_2; clear HB; have HO0_2 := n0_; have HB := n1_; have BK353 := n2_; have GW353 := n3_; have GE353 := n4_; clear n0_ n1_ n2_ n3_ n4_; clear hb hbox hg) | ((with_reducible refine gate_dst (N := 8) rfl ?_); refine box_event ?hg (N := 8) ?hd (cs := #[.int .u64 0, .int .u32 0, .slice none 0 0, .int .i64 0]) (t := 43) ?hr ?_; (case hd => rfl); (case hg => rfl); (case hr => first | (go_simp; done) | (go_simp; rfl)); intro gb354 hg w35 hbox hb; have n0_ := zm (Kd.V_below (Kd.V_elderB (by (with_reducible repeat (first | apply zA | apply zB | apply zC)); exact HO0_2.out) gb354 (Nat.le_of_eq hg.symm)) hb); have n1_ := zm (zF (g := gb353) (o := .cells #[.int .u64 a0_0, .int .u32 a0_1, .slice A0_2 l0_2.length c0_2, .int .i64 a0_3] 43 (0, 0)) (by (with_reducible repeat (first | refine zh ?_ _ | refine zj ?_ | refine zi ?_ _)); exact BK353.out) hb); have n2_ := zm (zJ (by repeat (first | (with_reducible first | exact HB.out | apply ze | apply zd | apply zf | refine zk ?_ GE353.out) | exact HB.out)) hb); have n3_ := zm (hbox); have n4_ := zm ((by rw [hg]; exact (zE (by repeat (first | (with_reducible first | exact HB.out | apply ze | apply zd | apply zf | refine zk ?_ GE353.out) | exact HB.out))) : w.heap.size ≤ gb354)); have n5_ := zm ((by rw [hg]; exact (zE (by repeat (first | (with_reducible first | exact HB.out | apply ze | apply zd | apply zf | refine zk ?_ GE353.out) | exact HB.out))) : w.heap.size ≤ gb354)); have n6_ := zm ((by rw [hg]; exact zn (zD (g := gb353) (o := .cells #[.int .u64 a0_0, .int .u32 a0_1, .slice A0_2 l0_2.length c0_2, .int .i64 a0_3] 43 (0, 0)) (by (with_reducible repeat (first | refine zh ?_ _ | refine zj ?_ | refine zi ?_ _)); exact BK353.out)) : gb353 ≠ gb354)); have n7_ := zm ((by rw [hg]; exact zg (zD (g := gb353) (o := .cells #[.int .u64 a0_0, .int .u32 a0_1, .slice A0_2 l0_2.length c0_2, .int .i64 a0_3] 43 (0, 0)) (by (with_reducible repeat (first | refine zh ?_ _ | refine zj ?_ | refine zi ?_ _)); exact BK353.out)) : gb354 ≠ gb353)); clear HO0_2; clear BK353; clear HB; have HO0_2 := n0_; have BK353 := n1_; have HB := n2_; have BK354 := n3_; have GW354 := n4_; have GE354 := n5_; have NB353_354 := n6_; have NB354_353 := n7_; clear n0_ n1_ n2_ n3_ n4_ n5_ n6_ n7_; clear hb hbox hg; have hnb36 := NB353_354.out; have hnc36 := NB354_353.out; have hcz37_0 : w35.cell? ⟨gb353, 0, none⟩ = some (.int .u64 a0_0) := (zs BK353.out 0).trans rfl; have hcz37_1 : w35.cell? ⟨gb353, 1, none⟩ = some (.int .u32 a0_1) := (zs BK353.out 1).trans rfl; have hcz37_2 : w35.cell? ⟨gb353, 2, none⟩ = some (.slice A0_2 l0_2.length c0_2) := (zs BK353.out 2).trans rfl; have hcz37_3 : w35.cell? ⟨gb353, 3, none⟩ = some (.int .i64 a0_3) := (zs BK353.out 3).trans rfl; have hfz37_0 := zx BK353.out 0; have hfz37_1 := zx BK353.out 1; have hfz37_2 := zx BK353.out 2; have hfz37_3 := zx BK353.out 3) | ((with_reducible refine gate_callee (f := 60) rfl ?_); refine goesL_ (some 13) rfl rfl Try.func60 (by kernel_rfl) rfl #[.agg #[.int .u64 a0_0, .int .u32 a0_1, .slice A0_2 l0_2.length c0_2, .int .i64 a0_3]] rfl (by (try simp only [List.map_toArray, List.map_cons, List.map_nil]); first | done | rfl | (simp only [List.length_drop, List.length_take]; rfl)) ?_; (with_reducible refine (coder_good.calls a0_0 a0_1 (fun k_ => (((P0_2_ k_ ∨ w.heap.size ≤ k_) ∧ k_ ≠ gb353) ∧ k_ ≠ gb354)) _ _ l0_2 a0_3 t355 t356 t357 t360 _ ?side1 A5.out).mono ?_); (case side1 => exact HO0_2.out); rintro e w38 ⟨v358, rfl, ho0, hb⟩; refine ⟨_, rfl, ?_⟩; have n0_ := zm (Kd.V_below (by (with_reducible repeat (first | apply zA | apply zB | apply zC)); exact HO0_2.out) hb); have n1_ := zm (Kd.V_lower (zy (ok' := fun k_ => (P0_2_ k_ ∨ w.heap.size ≤ k_) ∧ k_ ≠ gb353 ∧ k_ ≠ gb354) ho0 (fun k_ hk_ => ⟨Or.elim hk_ (fun hs_ => hs_.1.1) (fun hn_ => (.inr (Nat.le_trans (zE (by repeat (first | (with_reducible first | exact HB.out | apply ze | apply zd | apply zf | refine zk ?_ GE353.out | refine zk ?_ GE354.out) | exact HB.out))) hn_))), Or.elim hk_ (fun hs_ => hs_.1.2) (fun hn_ => (Kd.freshB (g := gb353) (o := .cells #[.int .u64 a0_0, .int .u32 a0_1, .slice A0_2 l0_2.length c0_2, .int .i64 a0_3] 43 (0, 0)) (by (with_reducible repeat (first | refine zh ?_ _ | refine zj ?_ | refine zi ?_ _)); exact BK353.out) k_ hn_)), Or.elim hk_ (fun hs_ => hs_.2) (fun hn_ => (Kd.freshB (g := gb354) (o := .cells #[.int .u64 0, .int .u32 0, .slice none 0 0, .int .i64 0] 43 (0, 0)) (by (with_reducible repeat (first | refine zh ?_ _ | refine zj ?_ | refine zi ?_ _)); exact BK354.out) k_ hn_))⟩)) (zE (by repeat (first | (with_reducible first | exact HB.out | apply ze | apply zd | apply zf | refine zk ?_ GE353.out | refine zk ?_ GE354.out) | exact HB.out)))); have n2_ := zm (zF (g := gb353) (o := .cells #[.int .u64 a0_0, .int .u32 a0_1, .slice A0_2 l0_2.length c0_2, .int .i64 a0_3] 43 (0, 0)) (by (with_reducible repeat (first | refine zh ?_ _ | refine zj ?_ | refine zi ?_ _)); exact BK353.out) hb); have n3_ := zm (zF (g := gb354) (o := .cells #[.int .u64 0, .int .u32 0, .slice none 0 0, .int .i64 0] 43 (0, 0)) (by (with_reducible repeat (first | refine zh ?_ _ | refine zj ?_ | refine zi ?_ _)); exact BK354.out) hb); have n4_ := zm (zJ (by repeat (first | (with_reducible first | exact HB.out | apply ze | apply zd | apply zf | refine zk ?_ GE353.out | refine zk ?_ GE354.out) | exact HB.out)) hb); clear HO0_2; clear BK353; clear BK354; clear HB; have HO0_2 := n0_; have HO359 := n1_; have BK353 := n2_; have BK354 := n3_; have HB := n4_; clear n0_ n1_ n2_ n3_ n4_; (try clear hb); (try clear hb2); (try clear hk); (try clear hi); (try clear ho0); have hcz39_0 : w38.cell? ⟨gb353, 0, none⟩ = some (.int .u64 a0_0) := (zs BK353.out 0).trans rfl; have hcz39_1 : w38.cell? ⟨gb353, 1, none⟩ = some (.int .u32 a0_1) := (zs BK353.out 1).trans rfl; have hcz39_2 : w38.cell? ⟨gb353, 2, none⟩ = some (.slice A0_2 l0_2.length c0_2) := (zs BK353.out 2).trans rfl; have hcz39_3 : w38.cell? ⟨gb353, 3, none⟩ = some (.int .i64 a0_3) := (zs BK353.out 3).trans rfl; have hfz39_0 := zx BK353.out 0; have hfz39_1 := zx BK353.out 1; have hfz39_2 := zx BK353.out 2; have hfz39_3 := zx BK353.out 3; obtain ⟨Ao40, co40, eo40⟩ := Kd.V_slice HO359.out; subst eo40) | ((with_reducible refine gate_store (t := 43) (p := 4) rfl ?_); refine store_event (t := 43) (p := 4) (v := ?vo_w41) (w1 := ((((w38.setCell ⟨gb353, 0, none⟩ (.int .u64 t355)).setCell ⟨gb353, 1, none⟩ (.int .u32 t356)).setCell ⟨gb353, 2, none⟩ (.slice Ao40 t357.length co40)).setCell ⟨gb353, 3, none⟩ (.int .i64 t360))) ?hg ?ho ?hn ?hr ?_; (case ho => rfl); (case hg => rfl); (case hn => rfl); (case hr => first | (go_simp; done) | (go_simp; rfl)); intro w41 hw; have n0_ : Aside0 (Kd.V (Kd.int .u8) 5 w41 w.heap.size (fun k_ => (P0_2_ k_ ∨ w.heap.size ≤ k_) ∧ k_ ≠ gb353 ∧ k_ ≠ gb354) (.slice A0_2 l0_2.length c0_2) l0_2) := ⟨(by rw [hw]; exact (by (with_reducible repeat (first | apply zA | apply zB | apply zC)); exact zy (zI (p := ⟨gb353, 3, none⟩) (zI (p := ⟨gb353, 2, none⟩) (zI (p := ⟨gb353, 1, none⟩) (zI (p := ⟨gb353, 0, none⟩) (zy HO0_2.out (fun k_ hk => (⟨hk, hk.1.2⟩ : _ ∧ k_ ≠ gb353))) (fun _ hk => hk.2) (.int .u64 t355)) (fun _ hk => hk.2) (.int .u32 t356)) (fun _ hk => hk.2) (.slice Ao40 t357.length co40)) (fun _ hk => hk.2) (.int .i64 t360)) (fun _ hk => ⟨hk.1.1.1, ⟨hk.1.1.2, hk.1.2⟩⟩)))⟩; have n1_ : Aside0 (Kd.V (Kd.int .u8) 5 w41 w.heap.size (fun k_ => (P0_2_ k_ ∨ w.heap.size ≤ k_) ∧ k_ ≠ gb353 ∧ k_ ≠ gb354) (.slice Ao40 t357.length co40) t357) := ⟨(by rw [hw]; exact (by (with_reducible repeat (first | apply zA | apply zB | apply zC)); exact zy (zI (p := ⟨gb353, 3, none⟩) (zI (p := ⟨gb353, 2, none⟩) (zI (p := ⟨gb353, 1, none⟩) (zI (p := ⟨gb353, 0, none⟩) (zy HO359.out (fun k_ hk => (⟨hk, hk.2.1⟩ : _ ∧ k_ ≠ gb353))) (fun _ hk => hk.2) (.int .u64 t355)) (fun _ hk => hk.2) (.int .u32 t356)) (fun _ hk => hk.2) (.slice Ao40 t357.length co40)) (fun _ hk => hk.2) (.int .i64 t360)) (fun _ hk => ⟨hk.1.1, ⟨hk.1.2.1, hk.1.2.2⟩⟩)))⟩; have n2_ : Aside0 (w41.heap[gb353]? = some (.cells #[.int .u64 t355, .int .u32 t356, .slice Ao40 t357.length co40, .int .i64 t360] 43 (0, 0))) := ⟨(by rw [hw]; exact (by (with_reducible repeat (first | refine zh ?_ _ | refine zj ?_ | refine zi ?_ _)); refine zw (cs := #[.int .u64 t355, .int .u32 t356, .slice Ao40 t357.length co40, .int .i64 a0_3]) ?_ 3 _ rfl; (with_reducible repeat (first | refine zh ?_ _ | refine zj ?_ | refine zi ?_ _)); refine zw (cs := #[.int .u64 t355, .int .u32 t356, .slice A0_2 l0_2.length c0_2, .int .i64 a0_3]) ?_ 2 _ rfl; (with_reducible repeat (first | refine zh ?_ _ | refine zj ?_ | refine zi ?_ _)); refine zw (cs := #[.int .u64 t355, .int .u32 a0_1, .slice A0_2 l0_2.length c0_2, .int .i64 a0_3]) ?_ 1 _ rfl; (with_reducible repeat (first | refine zh ?_ _ | refine zj ?_ | refine zi ?_ _)); refine zw (cs := #[.int .u64 a0_0, .int .u32 a0_1, .slice A0_2 l0_2.length c0_2, .int .i64 a0_3]) ?_ 0 _ rfl; (with_reducible repeat (first | refine zh ?_ _ | refine zj ?_ | refine zi ?_ _)); exact BK353.out))⟩; have n3_ : Aside0 (w41.heap[gb354]? = some (.cells #[.int .u64 0, .int .u32 0, .slice none 0 0, .int .i64 0] 43 (0, 0))) := ⟨(by rw [hw]; exact (by (with_reducible repeat (first | refine zh ?_ _ | refine zj ?_ | refine zi ?_ _)); refine zv ?_ NB354_353.out _; (with_reducible repeat (first | refine zh ?_ _ | refine zj ?_ | refine zi ?_ _)); refine zv ?_ NB354_353.out _; (with_reducible repeat (first | refine zh ?_ _ | refine zj ?_ | refine zi ?_ _)); refine zv ?_ NB354_353.out _; (with_reducible repeat (first | refine zh ?_ _ | refine zj ?_ | refine zi ?_ _)); refine zv ?_ NB354_353.out _; (with_reducible repeat (first | refine zh ?_ _ | refine zj ?_ | refine zi ?_ _)); exact BK354.out))⟩; have n4_ : Aside0 (Below w.heap.size w w41) := ⟨(by rw [hw]; exact (by repeat (first | (with_reducible first | exact HB.out | apply ze | apply zd | apply zf | refine zk ?_ GE353.out | refine zk ?_ GE354.out) | exact HB.out)))⟩; clear hw; clear HO0_2; clear HO359; clear BK353; clear BK354; clear HB; have HO0_2 := n0_; have HO359 := n1_; have BK353 := n2_; have BK354 := n3_; have HB := n4_; clear n0_ n1_ n2_ n3_ n4_) | ((with_reducible refine gate_callee (f := 52) rfl ?_); refine goesL_ (some 17) rfl rfl Try.func52 (by kernel_rfl) rfl #[.int .i64 a1, .int .i64 a2, .int .i64 a3] rfl (by (try simp only [List.map_toArray, List.map_cons, List.map_nil]); first | done | rfl | (simp only [List.length_drop, List.length_take]; rfl)) ?_; (with_reducible refine (coder_fair.calls a1 a2 a3 false _ A6.out).mono ?_); rintro e w' ⟨rfl, ⟨nd, rfl⟩⟩; refine ⟨_, rfl, ?_⟩; (try (rw [drewN_self w41]; generalize hq_ : World.drewN w41 _ = w41; have n0_ : Aside0 (Kd.V (Kd.int .u8) 5 w41 w.heap.size (fun k_ => (P0_2_ k_ ∨ w.heap.size ≤ k_) ∧ k_ ≠ gb353 ∧ k_ ≠ gb354) (.slice A0_2 l0_2.length c0_2) l0_2) := ⟨by rw [← hq_]; exact (by (with_reducible repeat (first | apply zA | apply zB | apply zC)); exact HO0_2.out)⟩; have n1_ : Aside0 (Kd.V (Kd.int .u8) 5 w41 w.heap.size (fun k_ => (P0_2_ k_ ∨ w.heap.size ≤ k_) ∧ k_ ≠ gb353 ∧ k_ ≠ gb354) (.slice Ao40 t357.length co40) t357) := ⟨by rw [← hq_]; exact (by (with_reducible repeat (first | apply zA | apply zB | apply zC)); exact HO359.out)⟩; have n2_ : Aside0 (w41.heap[gb353]? = some (.cells #[.int .u64 t355, .int .u32 t356, .slice Ao40 t357.length co40, .int .i64 t360] 43 (0, 0))) := ⟨by rw [← hq_]; exact (by (with_reducible repeat (first | refine zh ?_ _ | refine zj ?_ | refine zi ?_ _)); exact BK353.out)⟩; have n3_ : Aside0 (w41.heap[gb354]? = some (.cells #[.int .u64 0, .int .u32 0, .slice none 0 0, .int .i64 0] 43 (0, 0))) := ⟨by rw [← hq_]; exact (by (with_reducible repeat (first | refine zh ?_ _ | refine zj ?_ | refine zi ?_ _)); exact BK354.out)⟩; have n4_ : Aside0 (Below w.heap.size w w41) := ⟨by rw [← hq_]; exact (by repeat (first | (with_reducible first | exact HB.out | apply ze | apply zd | apply zf | refine zk ?_ GE353.out | refine zk ?_ GE354.out) | exact HB.out))⟩; clear HO0_2 HO359 BK353 BK354 HB hq_; have HO0_2 := n0_; have HO359 := n1_; have BK353 := n2_; have BK354 := n3_; have HB := n4_; clear n0_ n1_ n2_ n3_ n4_)); have hcz42_0 : w41.cell? ⟨gb353, 0, none⟩ = some (.int .u64 t355) := (zs BK353.out 0).trans rfl; have hcz42_1 : w41.cell? ⟨gb353, 1, none⟩ = some (.int .u32 t356) := (zs BK353.out 1).trans rfl; have hcz42_2 : w41.cell? ⟨gb353, 2, none⟩ = some (.slice Ao40 t357.length co40) := (zs BK353.out 2).trans rfl; have hcz42_3 : w41.cell? ⟨gb353, 3, none⟩ = some (.int .i64 t360) := (zs BK353.out 3).trans rfl; have hfz42_0 := zx BK353.out 0; have hfz42_1 := zx BK353.out 1; have hfz42_2 := zx BK353.out 2; have hfz42_3 := zx BK353.out 3; have hcz43_0 : w41.cell? ⟨gb354, 0, none⟩ = some (.int .u64 0) := (zs BK354.out 0).trans rfl; have hcz43_1 : w41.cell? ⟨gb354, 1, none⟩ = some (.int .u32 0) := (zs BK354.out 1).trans rfl; have hcz43_2 : w41.cell? ⟨gb354, 2, none⟩ = some (.slice none 0 0) := (zs BK354.out 2).trans rfl; have hcz43_3 : w41.cell? ⟨gb354, 3, none⟩ = some (.int .i64 0) := (zs BK354.out 3).trans rfl; have hfz43_0 := zx BK354.out 0; have hfz43_1 := zx BK354.out 1; have hfz43_2 := zx BK354.out 2; have hfz43_3 := zx BK354.out 3))
  refine bodyPost_ret (results_ct rfl _ _ gb354 43 #[.int .u64 t355, .int .u32 t356, .slice Ao40 t357.length co40, .int .i64 t360] (0, 0) _ rfl (by (with_reducible repeat (first | refine zh ?_ _ | refine zj ?_ | refine zi ?_ _)); refine zw (cs := #[.int .u64 t355, .int .u32 t356, .slice Ao40 t357.length co40, .int .i64 0]) ?_ 3 _ rfl; (with_reducible repeat (first | refine zh ?_ _ | refine zj ?_ | refine zi ?_ _)); refine zw (cs := #[.int .u64 t355, .int .u32 t356, .slice none 0 0, .int .i64 0]) ?_ 2 _ rfl; (with_reducible repeat (first | refine zh ?_ _ | refine zj ?_ | refine zi ?_ _)); refine zw (cs := #[.int .u64 t355, .int .u32 0, .slice none 0 0, .int .i64 0]) ?_ 1 _ rfl; (with_reducible repeat (first | refine zh ?_ _ | refine zj ?_ | refine zi ?_ _)); refine zw (cs := #[.int .u64 0, .int .u32 0, .slice none 0 0, .int .i64 0]) ?_ 0 _ rfl; (with_reducible repeat (first | refine zh ?_ _ | refine zj ?_ | refine zi ?_ _)); exact BK354.out) Try.underlying43 rfl (by kernel_rfl)) rfl ?_
  exact ⟨_, by first | rfl | (simp [errW_none, errW_some] <;> rfl) | (simp [*, errW_none, errW_some] <;> rfl), by (with_reducible repeat (first | apply zA | apply zB | apply zC)); exact zy (zI (p := ⟨gb354, 3, none⟩) (zI (p := ⟨gb354, 2, none⟩) (zI (p := ⟨gb354, 1, none⟩) (zI (p := ⟨gb354, 0, none⟩) (zy HO359.out (fun k_ hk => (⟨hk, hk.2.2⟩ : _ ∧ k_ ≠ gb354))) (fun _ hk => hk.2) (.int .u64 t355)) (fun _ hk => hk.2) (.int .u32 t356)) (fun _ hk => hk.2) (.slice Ao40 t357.length co40)) (fun _ hk => hk.2) (.int .i64 t360)) (fun _ hk => hk.1.1), by repeat (first | (with_reducible first | exact HB.out | apply ze | apply zd | apply zf | refine zk ?_ GE353.out | refine zk ?_ GE354.out) | exact HB.out)⟩

end Go.Proofs.Ytkaoiblgfpphoaa.Prt

namespace Go.Proofs.Ytkaoiblgfpphoaa.Prt
open Go.RowKit Go.Proofs.YtkaoiblgfpphoaaW.PrintWords Go.Proofs.YtkaoiblgfpphoaaW.PrintLast Go.Proofs.YtkaoiblgfpphoaaW.PrintMore
attribute [local go_sem] max2_int min2_int max_two min_two max_three min_three max_four min_four   -- for this text's walks alone
set_option linter.unusedVariables false
set_option linter.unusedSimpArgs false

/-! ### gain_Right: function 45 -/
def gain_Right.l0 : Nat → List Int → List Int → Int → Int → Option (Bool)
 | 0, _, _, _, _ => none
 | k + 1, x0, x5, x6, x7 => if x7 < x6 then (if 0 ≤ x7 then (if x7 < (x5.length : Int) then (if (rd x5 x7) < 0 then (some false) else (if (rd x5 x7) > 44 then (some false) else (gain_Right.l0 k x0 x5 x6 (wrap64 (x7 + 1))))) else (none)) else (none)) else (some ((x0.length : Int) == 5))
def gain_Right.f (k : Nat) (l0 : List Int) : Option (Bool) := gain_Right.l0 k l0 l0 (l0.length : Int) 0
theorem gain_Right.mono_l : ∀ k, (∀ y0 y1 y2 y3, LeO (gain_Right.l0 k y0 y1 y2 y3) (gain_Right.l0 (k + 1) y0 y1 y2 y3))
 | 0 => fun _ _ _ _ r h => by simp [gain_Right.l0] at h
 | k + 1 => by
  have ih0 := gain_Right.mono_l k
  ·
   intro y0 y1 y2 y3
   unfold gain_Right.l0
   repeat' first
   | (with_reducible exact ih0 _ _ _ _)
   | (with_reducible exact LeO.refl _)
   | (with_reducible exact LeO.none _)
   | (with_reducible refine LeO.ite ?_ ?_)
   | (with_reducible refine LeO.bind ?_ (fun _ => ?_))
   | exact ih0 _ _ _ _
   | exact LeO.none _
   | refine LeO.ite ?_ ?_
   | refine LeO.bind ?_ (fun _ => ?_)
theorem gain_Right.mono : ∀ a0 k, LeO (gain_Right.f k a0) (gain_Right.f (k + 1) a0) := by
 intro a0 k
 have ih0 := gain_Right.mono_l k
 unfold gain_Right.f
 repeat' first
   | (with_reducible exact ih0 _ _ _ _)
   | (with_reducible exact LeO.refl _)
   | (with_reducible exact LeO.none _)
   | (with_reducible refine LeO.ite ?_ ?_)
   | (with_reducible refine LeO.bind ?_ (fun _ => ?_))
   | exact ih0 _ _ _ _
   | exact LeO.none _
   | refine LeO.ite ?_ ?_
   | refine LeO.bind ?_ (fun _ => ?_)
set_option maxHeartbeats 8000000 in
set_option maxRecDepth 100000 in
theorem gain_Right.calls (k : Nat) (A0 : Option Addr) (c0 : Nat) (l0 : List Int) (r : Bool) (w : World) (hr0 : Kd.C (Kd.int .i64) w A0 l0.length l0) (hc0 : l0.length ≤ c0) (h : gain_Right.f k l0 = some r) :
  Calls Try.prog 45 #[.slice A0 l0.length c0] w fun e w' => e = .returned (.bool r) ∧ Drawn0 w w' := by
 have HR0 := zm hr0
 have HC0 := zm hc0
 clear hr0 hc0
 have H : (gain_Right.l0 k l0 l0 (l0.length : Int) 0) = some r := h
 clear h
 have H' := zm H
 clear H
 go_enter Try.func45, Try.ntmps45
 go_wp2
 go_loopg [7] k (fun kq v7 w' => ∃ (x7_1 : Int), v7 = .int .i64 x7_1 ∧ Aside0 (gain_Right.l0 kq l0 l0 (l0.length : Int) x7_1 = some r) ∧ Aside0 (kq ≤ k) ∧ Drawn0 w w')
 case atStart => exact ⟨(0), (by first | rfl | (simp; done) | (simp [*]; done)), H', ⟨Nat.le_refl _⟩, by repeat (first | exact Drawn0.refl _ | apply Drawn0.step)⟩
 case round =>
  clear H'
  obtain ⟨x7_1, rfl, HA, HK1, ⟨m1, rfl⟩⟩ := hrel
  cases gk with
  | zero => exact absurd HA.out (by simp [gain_Right.l0])
  | succ k1 =>
   have H := HA.out
   clear HA
   simp only [gain_Right.l0] at H
   by_cases c2 : x7_1 < (l0.length : Int)
   ·
    rw [if_pos c2] at H
    have c2b0 : decide (x7_1 < (l0.length : Int)) = true := decide_eq_true c2
    clear c2
    by_cases c3 : 0 ≤ x7_1
    ·
     rw [if_pos c3] at H
     have c3b0 : decide (0 ≤ x7_1) = true := decide_eq_true c3
     clear c3
     by_cases c4 : x7_1 < (l0.length : Int)
     ·
      rw [if_pos c4] at H
      have c4b0 : decide (x7_1 < (l0.length : Int)) = true := decide_eq_true c4
      clear c4
      by_cases c5 : (rd l0 x7_1) < 0
      ·
       rw [if_pos c5] at H
       have c5b0 : decide ((rd l0 x7_1) < 0) = true := decide_eq_true c5
       clear c5
       obtain rfl := Option.some.inj H
       have p661 : 0 ≤ (x7_1 : Int) := of_decide_eq_true (by first | (with_reducible assumption) | assumption)
       have q661 : x7_1 < (l0.length : Int) := of_decide_eq_true (by first | (with_reducible assumption) | assumption)
       obtain ⟨ad661, e661, hx661_0⟩ := Kd.at_int HR0.out x7_1 p661 q661
       cases e661
       replace p661 := eq_true p661
       replace q661 := eq_true q661
       go_wp2
       go_ret
       exact ⟨by first | rfl | (simp; done) | (simp [*]; done), by repeat (first | exact Drawn0.refl _ | apply Drawn0.step)⟩
      ·
       rw [if_neg c5] at H
       have c5b0 : decide ((rd l0 x7_1) < 0) = false := decide_eq_false c5
       clear c5
       by_cases c6 : (rd l0 x7_1) > 44
       ·
        rw [if_pos c6] at H
        have c6b0 : decide (44 < (rd l0 x7_1)) = true := decide_eq_true c6
        clear c6
        obtain rfl := Option.some.inj H
        have p661 : 0 ≤ (x7_1 : Int) := of_decide_eq_true (by first | (with_reducible assumption) | assumption)
        have q661 : x7_1 < (l0.length : Int) := of_decide_eq_true (by first | (with_reducible assumption) | assumption)
        obtain ⟨ad661, e661, hx661_0⟩ := Kd.at_int HR0.out x7_1 p661 q661
        cases e661
        replace p661 := eq_true p661
        replace q661 := eq_true q661
        go_wp2
        go_ret
        exact ⟨by first | rfl | (simp; done) | (simp [*]; done), by repeat (first | exact Drawn0.refl _ | apply Drawn0.step)⟩
       ·
        rw [if_neg c6] at H
        have c6b0 : decide (44 < (rd l0 x7_1)) = false := decide_eq_false c6
        clear c6
        have H' := zm H
        clear H
        have p661 : 0 ≤ (x7_1 : Int) := of_decide_eq_true (by first | (with_reducible assumption) | assumption)
        have q661 : x7_1 < (l0.length : Int) := of_decide_eq_true (by first | (with_reducible assumption) | assumption)
        obtain ⟨ad661, e661, hx661_0⟩ := Kd.at_int HR0.out x7_1 p661 q661
        cases e661
        replace p661 := eq_true p661
        replace q661 := eq_true q661
        go_wp2
        go_roundg k1
        case measure => have := HK1.out; omega
        case rel => exact ⟨(wrap64 (x7_1 + 1)), (by first | rfl | (simp; done) | (simp [*]; done)), H', ⟨by have := HK1.out; omega⟩, by repeat (first | exact Drawn0.refl _ | apply Drawn0.step)⟩
     ·
      rw [if_neg c4] at H
      exact absurd H (by simp)
    ·
     rw [if_neg c3] at H
     exact absurd H (by simp)
   ·
    rw [if_neg c2] at H
    have c2b0 : decide (x7_1 < (l0.length : Int)) = false := decide_eq_false c2
    clear c2
    obtain rfl := Option.some.inj H
    go_wp2
    go_ret
    exact ⟨by first | rfl | (simp; done) | (simp [*]; done), by repeat (first | exact Drawn0.refl _ | apply Drawn0.step)⟩

end Go.Proofs.Ytkaoiblgfpphoaa.Prt

namespace Go.Proofs.Ytkaoiblgfpphoaa.Prt
open Go.RowKit Go.Proofs.YtkaoiblgfpphoaaW.PrintWords Go.Proofs.YtkaoiblgfpphoaaW.PrintLast Go.Proofs.YtkaoiblgfpphoaaW.PrintMore
attribute [local go_sem] max2_int min2_int max_two min_two max_three min_three max_four min_four   -- for this text's walks alone
set_option linter.unusedVariables false
set_option linter.unusedSimpArgs false

/-! ### num_Clamp: function 61 -/
def num_Clamp.f (a0 : Int) (a1 : Int) (a2 : Int) : Option (Int) := if a0 < a1 then (some a1) else (if a0 > a2 then (some a2) else (some a0))
set_option maxHeartbeats 8000000 in
set_option maxRecDepth 100000 in
theorem num_Clamp.calls (a0 : Int) (a1 : Int) (a2 : Int) (r : Int) (w : World) (h : num_Clamp.f a0 a1 a2 = some r) :
  Calls Try.prog 61 #[.int .i64 a0, .int .i64 a1, .int .i64 a2] w fun e w' => e = .returned (.int .i64 r) ∧ Drawn0 w w' := by
 have H : (if a0 < a1 then (some a1) else (if a0 > a2 then (some a2) else (some a0))) = some r := h
 clear h
 by_cases c4 : a0 < a1
 ·
  rw [if_pos c4] at H
  have c4b0 : decide (a0 < a1) = true := decide_eq_true c4
  clear c4
  obtain rfl := Option.some.inj H
  go_enter Try.func61, Try.ntmps61
  go_wp2
  go_ret
  exact ⟨by first | rfl | (simp; done) | (simp [*]; done), by repeat (first | exact Drawn0.refl _ | apply Drawn0.step)⟩
 ·
  rw [if_neg c4] at H
  have c4b0 : decide (a0 < a1) = false := decide_eq_false c4
  clear c4
  by_cases c5 : a0 > a2
  ·
   rw [if_pos c5] at H
   have c5b0 : decide (a2 < a0) = true := decide_eq_true c5
   clear c5
   obtain rfl := Option.some.inj H
   go_enter Try.func61, Try.ntmps61
   go_wp2
   go_ret
   exact ⟨by first | rfl | (simp; done) | (simp [*]; done), by repeat (first | exact Drawn0.refl _ | apply Drawn0.step)⟩
  ·
   rw [if_neg c5] at H
   have c5b0 : decide (a2 < a0) = false := decide_eq_false c5
   clear c5
   obtain rfl := Option.some.inj H
   go_enter Try.func61, Try.ntmps61
   go_wp2
   go_ret
   exact ⟨by first | rfl | (simp; done) | (simp [*]; done), by repeat (first | exact Drawn0.refl _ | apply Drawn0.step)⟩

end Go.Proofs.Ytkaoiblgfpphoaa.Prt

namespace Go.Proofs.Ytkaoiblgfpphoaa.Prt
open Go.RowKit Go.Proofs.YtkaoiblgfpphoaaW.PrintWords Go.Proofs.YtkaoiblgfpphoaaW.PrintLast Go.Proofs.YtkaoiblgfpphoaaW.PrintMore
attribute [local go_sem] max2_int min2_int max_two min_two max_three min_three max_four min_four   -- for this text's walks alone
set_option linter.unusedVariables false
set_option linter.unusedSimpArgs false

/-! ### coder_Get: function 32 -/
def coder_Get.f (a0_0 : Int) (a0_1 : Int) (l0_2 : List Int) (a0_3 : Int) (a1 : Int) : Option (Int × Int) := (coder_good.f a0_0 a0_1 l0_2 a0_3).bind fun bt163 => (if a1 < 1 then (some (0, 1)) else (if a1 > 65536 then (some (0, 1)) else (if ((a1) % 4294967296) = 0 then (none) else (if ((Int.tdiv bt163.2.1 ((a1) % 4294967296)) % 4294967296) = 0 then (none) else ((num_Clamp.f (wrap64 (IntKind.u64.wrap (Int.tdiv bt163.1 ((Int.tdiv bt163.2.1 ((a1) % 4294967296)) % 4294967296)))) 0 (wrap64 (a1 - 1))).bind fun t169 => (some (t169, 0)))))))
set_option maxHeartbeats 8000000 in
set_option maxRecDepth 100000 in
theorem coder_Get.calls (a0_0 : Int) (a0_1 : Int) (A0_2 : Option Addr) (c0_2 : Nat) (l0_2 : List Int) (a0_3 : Int) (a1 : Int) (r1 : Int) (r2 : Int) (w : World) (hr0_2 : Kd.C (Kd.int .u8) w A0_2 l0_2.length l0_2) (hc0_2 : l0_2.length ≤ c0_2) (h : coder_Get.f a0_0 a0_1 l0_2 a0_3 a1 = some (r1, r2)) :
  Calls Try.prog 32 #[.agg #[.int .u64 a0_0, .int .u32 a0_1, .slice A0_2 l0_2.length c0_2, .int .i64 a0_3], .int .i64 a1] w fun e w' => e = .returned (.tuple #[.int .i64 r1, .int .i64 r2]) ∧ Below w.heap.size w w' := by
 have hu43 := Try.underlying43
 have HR0_2 := zm hr0_2
 have HC0_2 := zm hc0_2
 clear hr0_2 hc0_2
 have HB := zm (Below.refl w.heap.size w)
 have H : ((coder_good.f a0_0 a0_1 l0_2 a0_3).bind fun bt163 => (if a1 < 1 then (some (0, 1)) else (if a1 > 65536 then (some (0, 1)) else (if ((a1) % 4294967296) = 0 then (none) else (if ((Int.tdiv bt163.2.1 ((a1) % 4294967296)) % 4294967296) = 0 then (none) else ((num_Clamp.f (wrap64 (IntKind.u64.wrap (Int.tdiv bt163.1 ((Int.tdiv bt163.2.1 ((a1) % 4294967296)) % 4294967296)))) 0 (wrap64 (a1 - 1))).bind fun t169 => (some (t169, 0)))))))) = some (r1, r2) := h
 clear h
 replace H := Option.bind_eq_some_iff.mp H
 obtain ⟨⟨t163, t164, t165, t168⟩, A30, H⟩ := H
 replace H : (if a1 < 1 then (some (0, 1)) else (if a1 > 65536 then (some (0, 1)) else (if ((a1) % 4294967296) = 0 then (none) else (if ((Int.tdiv t164 ((a1) % 4294967296)) % 4294967296) = 0 then (none) else ((num_Clamp.f (wrap64 (IntKind.u64.wrap (Int.tdiv t163 ((Int.tdiv t164 ((a1) % 4294967296)) % 4294967296)))) 0 (wrap64 (a1 - 1))).bind fun t169 => (some (t169, 0))))))) = some (r1, r2) := H
 have A3 := zm A30
 clear A30
 by_cases c4 : a1 < 1
 ·
  rw [if_pos c4] at H
  have c4b0 : decide (a1 < 1) = true := decide_eq_true c4
  clear c4
  simp only [Option.some.injEq, Prod.mk.injEq] at H
  obtain ⟨rfl, rfl⟩ := H
  go_enter Try.func32, Try.ntmps32
  go_wp2_with (first | ((with_reducible refine gate_dst (N := 2) rfl ?_); refine box_event ?hg (N := 2) ?hd (cs := #[.int .u64 a0_0, .int .u32 a0_1, .slice A0_2 l0_2.length c0_2, .int .i64 a0_3]) (t := 43) ?hr ?_; (case hd => rfl); (case hg => rfl); (case hr => first | (go_simp; done) | (go_simp; rfl)); intro gb162 hg w5 hbox hb; have n0_ := zm (zJ (by repeat (first | (with_reducible first | exact HB.out | apply ze | apply zd | apply zf) | exact HB.out)) hb); have n1_ := zm (hbox); have n2_ := zm ((by rw [hg]; exact (zE (by repeat (first | (with_reducible first | exact HB.out | apply ze | apply zd | apply zf) | exact HB.out))) : w.heap.size ≤ gb162)); have n3_ := zm ((by rw [hg]; exact (zE (by repeat (first | (with_reducible first | exact HB.out | apply ze | apply zd | apply zf) | exact HB.out))) : w.heap.size ≤ gb162)); clear HB; have HB := n0_; have BK162 := n1_; have GW162 := n2_; have GE162 := n3_; clear n0_ n1_ n2_ n3_; clear hb hbox hg; have hcz6_0 : w5.cell? ⟨gb162, 0, none⟩ = some (.int .u64 a0_0) := (zs BK162.out 0).trans rfl; have hcz6_1 : w5.cell? ⟨gb162, 1, none⟩ = some (.int .u32 a0_1) := (zs BK162.out 1).trans rfl; have hcz6_2 : w5.cell? ⟨gb162, 2, none⟩ = some (.slice A0_2 l0_2.length c0_2) := (zs BK162.out 2).trans rfl; have hcz6_3 : w5.cell? ⟨gb162, 3, none⟩ = some (.int .i64 a0_3) := (zs BK162.out 3).trans rfl; have hfz6_0 := zx BK162.out 0; have hfz6_1 := zx BK162.out 1; have hfz6_2 := zx BK162.out 2; have hfz6_3 := zx BK162.out 3) | (go_at_call 60; (with_reducible refine (coder_good.calls a0_0 a0_1 (fun k_ => k_ < w.heap.size) _ _ l0_2 a0_3 t163 t164 t165 t168 _ ?side1 A3.out).mono ?_); (case side1 => exact Kd.V_mk HC0_2.out (Kd.F_below (Kd.C_F (Kd.heap_int .u8) HR0_2.out) (by repeat (first | (with_reducible first | exact HB.out | apply ze | apply zd | apply zf | refine zk ?_ GE162.out) | exact HB.out)))); rintro e w7 ⟨v166, rfl, ho0, hb⟩; have n0_ := zm (Kd.V_lower (zy (ok' := fun k_ => k_ ≠ gb162) ho0 (fun k_ hk_ => Or.elim hk_ (fun hs_ => fun e_ => Nat.not_le.2 hs_ (by rw [e_]; exact GW162.out)) (fun hn_ => (Kd.freshB (g := gb162) (o := .cells #[.int .u64 a0_0, .int .u32 a0_1, .slice A0_2 l0_2.length c0_2, .int .i64 a0_3] 43 (0, 0)) (by (with_reducible repeat (first | refine zh ?_ _ | refine zj ?_ | refine zi ?_ _)); exact BK162.out) k_ hn_)))) (zE (by repeat (first | (with_reducible first | exact HB.out | apply ze | apply zd | apply zf | refine zk ?_ GE162.out) | exact HB.out)))); have n1_ := zm (zF (g := gb162) (o := .cells #[.int .u64 a0_0, .int .u32 a0_1, .slice A0_2 l0_2.length c0_2, .int .i64 a0_3] 43 (0, 0)) (by (with_reducible repeat (first | refine zh ?_ _ | refine zj ?_ | refine zi ?_ _)); exact BK162.out) hb); have n2_ := zm (zJ (by repeat (first | (with_reducible first | exact HB.out | apply ze | apply zd | apply zf | refine zk ?_ GE162.out) | exact HB.out)) hb); clear BK162; clear HB; have HO167 := n0_; have BK162 := n1_; have HB := n2_; clear n0_ n1_ n2_; (try clear hb); (try clear hb2); (try clear hk); (try clear hi); (try clear ho0); have hcz8_0 : w7.cell? ⟨gb162, 0, none⟩ = some (.int .u64 a0_0) := (zs BK162.out 0).trans rfl; have hcz8_1 : w7.cell? ⟨gb162, 1, none⟩ = some (.int .u32 a0_1) := (zs BK162.out 1).trans rfl; have hcz8_2 : w7.cell? ⟨gb162, 2, none⟩ = some (.slice A0_2 l0_2.length c0_2) := (zs BK162.out 2).trans rfl; have hcz8_3 : w7.cell? ⟨gb162, 3, none⟩ = some (.int .i64 a0_3) := (zs BK162.out 3).trans rfl; have hfz8_0 := zx BK162.out 0; have hfz8_1 := zx BK162.out 1; have hfz8_2 := zx BK162.out 2; have hfz8_3 := zx BK162.out 3; obtain ⟨Ao9, co9, eo9⟩ := Kd.V_slice HO167.out; subst eo9))
  repeat (go_quiet (first | ((with_reducible refine gate_dst (N := 2) rfl ?_); refine box_event ?hg (N := 2) ?hd (cs := #[.int .u64 a0_0, .int .u32 a0_1, .slice A0_2 l0_2.length c0_2, .int .i64 a0_3]) (t := 43) ?hr ?_; (case hd => rfl); (case hg => rfl); (case hr => first | (go_simp; done) | (go_simp; rfl)); intro gb162 hg w5 hbox hb; have n0_ := zm (zJ (by repeat (first | (with_reducible first | exact HB.out | apply ze | apply zd | apply zf) | exact HB.out)) hb); have n1_ := zm (hbox); have n2_ := zm ((by rw [hg]; exact (zE (by repeat (first | (with_reducible first | exact HB.out | apply ze | apply zd | apply zf) | exact HB.out))) : w.heap.size ≤ gb162)); have n3_ := zm ((by rw [hg]; exact (zE (by repeat (first | (with_reducible first | exact HB.out | apply ze | apply zd | apply zf) | exact HB.out))) : w.heap.size ≤ gb162)); clear HB; have HB := n0_; have BK162 := n1_; have GW162 := n2_; have GE162 := n3_; clear n0_ n1_ n2_ n3_; clear hb hbox hg; have hcz6_0 : w5.cell? ⟨gb162, 0, none⟩ = some (.int .u64 a0_0) := (zs BK162.out 0).trans rfl; have hcz6_1 : w5.cell? ⟨gb162, 1, none⟩ = some (.int .u32 a0_1) := (zs BK162.out 1).trans rfl; have hcz6_2 : w5.cell? ⟨gb162, 2, none⟩ = some (.slice A0_2 l0_2.length c0_2) := (zs BK162.out 2).trans rfl; have hcz6_3 : w5.cell? ⟨gb162, 3, none⟩ = some (.int .i64 a0_3) := (zs BK162.out 3).trans rfl; have hfz6_0 := zx BK162.out 0; have hfz6_1 := zx BK162.out 1; have hfz6_2 := zx BK162.out 2; have hfz6_3 := zx BK162.out 3) | (go_at_call 60; (with_reducible refine (coder_good.calls a0_0 a0_1 (fun k_ => k_ < w.heap.size) _ _ l0_2 a0_3 t163 t164 t165 t168 _ ?side1 A3.out).mono ?_); (case side1 => exact Kd.V_mk HC0_2.out (Kd.F_below (Kd.C_F (Kd.heap_int .u8) HR0_2.out) (by repeat (first | (with_reducible first | exact HB.out | apply ze | apply zd | apply zf | refine zk ?_ GE162.out) | exact HB.out)))); rintro e w7 ⟨v166, rfl, ho0, hb⟩; have n0_ := zm (Kd.V_lower (zy (ok' := fun k_ => k_ ≠ gb162) ho0 (fun k_ hk_ => Or.elim hk_ (fun hs_ => fun e_ => Nat.not_le.2 hs_ (by rw [e_]; exact GW162.out)) (fun hn_ => (Kd.freshB (g := gb162) (o := .cells #[.int .u64 a0_0, .int .u32 a0_1, .slice A0_2 l0_2.length c0_2, .int .i64 a0_3] 43 (0, 0)) (by (with_reducible repeat (first | refine zh ?_ _ | refine zj ?_ | refine zi ?_ _)); exact BK162.out) k_ hn_)))) (zE (by repeat (first | (with_reducible first | exact HB.out | apply ze | apply zd | apply zf | refine zk ?_ GE162.out) | exact HB.out)))); have n1_ := zm (zF (g := gb162) (o := .cells #[.int .u64 a0_0, .int .u32 a0_1, .slice A0_2 l0_2.length c0_2, .int .i64 a0_3] 43 (0, 0)) (by (with_reducible repeat (first | refine zh ?_ _ | refine zj ?_ | refine zi ?_ _)); exact BK162.out) hb); have n2_ := zm (zJ (by repeat (first | (with_reducible first | exact HB.out | apply ze | apply zd | apply zf | refine zk ?_ GE162.out) | exact HB.out)) hb); clear BK162; clear HB; have HO167 := n0_; have BK162 := n1_; have HB := n2_; clear n0_ n1_ n2_; (try clear hb); (try clear hb2); (try clear hk); (try clear hi); (try clear ho0); have hcz8_0 : w7.cell? ⟨gb162, 0, none⟩ = some (.int .u64 a0_0) := (zs BK162.out 0).trans rfl; have hcz8_1 : w7.cell? ⟨gb162, 1, none⟩ = some (.int .u32 a0_1) := (zs BK162.out 1).trans rfl; have hcz8_2 : w7.cell? ⟨gb162, 2, none⟩ = some (.slice A0_2 l0_2.length c0_2) := (zs BK162.out 2).trans rfl; have hcz8_3 : w7.cell? ⟨gb162, 3, none⟩ = some (.int .i64 a0_3) := (zs BK162.out 3).trans rfl; have hfz8_0 := zx BK162.out 0; have hfz8_1 := zx BK162.out 1; have hfz8_2 := zx BK162.out 2; have hfz8_3 := zx BK162.out 3; obtain ⟨Ao9, co9, eo9⟩ := Kd.V_slice HO167.out; subst eo9)); try go_wp2_with (first | ((with_reducible refine gate_dst (N := 2) rfl ?_); refine box_event ?hg (N := 2) ?hd (cs := #[.int .u64 a0_0, .int .u32 a0_1, .slice A0_2 l0_2.length c0_2, .int .i64 a0_3]) (t := 43) ?hr ?_; (case hd => rfl); (case hg => rfl); (case hr => first | (go_simp; done) | (go_simp; rfl)); intro gb162 hg w5 hbox hb; have n0_ := zm (zJ (by repeat (first | (with_reducible first | exact HB.out | apply ze | apply zd | apply zf) | exact HB.out)) hb); have n1_ := zm (hbox); have n2_ := zm ((by rw [hg]; exact (zE (by repeat (first | (with_reducible first | exact HB.out | apply ze | apply zd | apply zf) | exact HB.out))) : w.heap.size ≤ gb162)); have n3_ := zm ((by rw [hg]; exact (zE (by repeat (first | (with_reducible first | exact HB.out | apply ze | apply zd | apply zf) | exact HB.out))) : w.heap.size ≤ gb162)); clear HB; have HB := n0_; have BK162 := n1_; have GW162 := n2_; have GE162 := n3_; clear n0_ n1_ n2_ n3_; clear hb hbox hg; have hcz6_0 : w5.cell? ⟨gb162, 0, none⟩ = some (.int .u64 a0_0) := (zs BK162.out 0).trans rfl; have hcz6_1 : w5.cell? ⟨gb162, 1, none⟩ = some (.int .u32 a0_1) := (zs BK162.out 1).trans rfl; have hcz6_2 : w5.cell? ⟨gb162, 2, none⟩ = some (.slice A0_2 l0_2.length c0_2) := (zs BK162.out 2).trans rfl; have hcz6_3 : w5.cell? ⟨gb162, 3, none⟩ = some (.int .i64 a0_3) := (zs BK162.out 3).trans rfl; have hfz6_0 := zx BK162.out 0; have hfz6_1 := zx BK162.out 1; have hfz6_2 := zx BK162.out 2; have hfz6_3 := zx BK162.out 3) | (go_at_call 60; (with_reducible refine (coder_good.calls a0_0 a0_1 (fun k_ => k_ < w.heap.size) _ _ l0_2 a0_3 t163 t164 t165 t168 _ ?side1 A3.out).mono ?_); (case side1 => exact Kd.V_mk HC0_2.out (Kd.F_below (Kd.C_F (Kd.heap_int .u8) HR0_2.out) (by repeat (first | (with_reducible first | exact HB.out | apply ze | apply zd | apply zf | refine zk ?_ GE162.out) | exact HB.out)))); rintro e w7 ⟨v166, rfl, ho0, hb⟩; have n0_ := zm (Kd.V_lower (zy (ok' := fun k_ => k_ ≠ gb162) ho0 (fun k_ hk_ => Or.elim hk_ (fun hs_ => fun e_ => Nat.not_le.2 hs_ (by rw [e_]; exact GW162.out)) (fun hn_ => (Kd.freshB (g := gb162) (o := .cells #[.int .u64 a0_0, .int .u32 a0_1, .slice A0_2 l0_2.length c0_2, .int .i64 a0_3] 43 (0, 0)) (by (with_reducible repeat (first | refine zh ?_ _ | refine zj ?_ | refine zi ?_ _)); exact BK162.out) k_ hn_)))) (zE (by repeat (first | (with_reducible first | exact HB.out | apply ze | apply zd | apply zf | refine zk ?_ GE162.out) | exact HB.out)))); have n1_ := zm (zF (g := gb162) (o := .cells #[.int .u64 a0_0, .int .u32 a0_1, .slice A0_2 l0_2.length c0_2, .int .i64 a0_3] 43 (0, 0)) (by (with_reducible repeat (first | refine zh ?_ _ | refine zj ?_ | refine zi ?_ _)); exact BK162.out) hb); have n2_ := zm (zJ (by repeat (first | (with_reducible first | exact HB.out | apply ze | apply zd | apply zf | refine zk ?_ GE162.out) | exact HB.out)) hb); clear BK162; clear HB; have HO167 := n0_; have BK162 := n1_; have HB := n2_; clear n0_ n1_ n2_; (try clear hb); (try clear hb2); (try clear hk); (try clear hi); (try clear ho0); have hcz8_0 : w7.cell? ⟨gb162, 0, none⟩ = some (.int .u64 a0_0) := (zs BK162.out 0).trans rfl; have hcz8_1 : w7.cell? ⟨gb162, 1, none⟩ = some (.int .u32 a0_1) := (zs BK162.out 1).trans rfl; have hcz8_2 : w7.cell? ⟨gb162, 2, none⟩ = some (.slice A0_2 l0_2.length c0_2) := (zs BK162.out 2).trans rfl; have hcz8_3 : w7.cell? ⟨gb162, 3, none⟩ = some (.int .i64 a0_3) := (zs BK162.out 3).trans rfl; have hfz8_0 := zx BK162.out 0; have hfz8_1 := zx BK162.out 1; have hfz8_2 := zx BK162.out 2; have hfz8_3 := zx BK162.out 3; obtain ⟨Ao9, co9, eo9⟩ := Kd.V_slice HO167.out; subst eo9)))
  go_ret2
  exact ⟨by first | rfl | (simp [errW_none, errW_some] <;> rfl) | (simp [*, errW_none, errW_some] <;> rfl), by repeat (first | (with_reducible first | exact HB.out | apply ze | apply zd | apply zf | refine zk ?_ GE162.out) | exact HB.out)⟩
 ·
  rw [if_neg c4] at H
  have c4b0 : decide (a1 < 1) = false := decide_eq_false c4
  clear c4
  by_cases c10 : a1 > 65536
  ·
   rw [if_pos c10] at H
   have c10b0 : decide (65536 < a1) = true := decide_eq_true c10
   clear c10
   simp only [Option.some.injEq, Prod.mk.injEq] at H
   obtain ⟨rfl, rfl⟩ := H
   go_enter Try.func32, Try.ntmps32
   go_wp2_with (first | ((with_reducible refine gate_dst (N := 2) rfl ?_); refine box_event ?hg (N := 2) ?hd (cs := #[.int .u64 a0_0, .int .u32 a0_1, .slice A0_2 l0_2.length c0_2, .int .i64 a0_3]) (t := 43) ?hr ?_; (case hd => rfl); (case hg => rfl); (case hr => first | (go_simp; done) | (go_simp; rfl)); intro gb162 hg w11 hbox hb; have n0_ := zm (zJ (by repeat (first | (with_reducible first | exact HB.out | apply ze | apply zd | apply zf) | exact HB.out)) hb); have n1_ := zm (hbox); have n2_ := zm ((by rw [hg]; exact (zE (by repeat (first | (with_reducible first | exact HB.out | apply ze | apply zd | apply zf) | exact HB.out))) : w.heap.size ≤ gb162)); have n3_ := zm ((by rw [hg]; exact (zE (by repeat (first | (with_reducible first | exact HB.out | apply ze | apply zd | apply zf) | exact HB.out))) : w.heap.size ≤ gb162)); clear HB; have HB := n0_; have BK162 := n1_; have GW162 := n2_; have GE162 := n3_; clear n0_ n1_ n2_ n3_; clear hb hbox hg; have hcz12_0 : w11.cell? ⟨gb162, 0, none⟩ = some (.int .u64 a0_0) := (zs BK162.out 0).trans rfl; have hcz12_1 : w11.cell? ⟨gb162, 1, none⟩ = some (.int .u32 a0_1) := (zs BK162.out 1).trans rfl; have hcz12_2 : w11.cell? ⟨gb162, 2, none⟩ = some (.slice A0_2 l0_2.length c0_2) := (zs BK162.out 2).trans rfl; have hcz12_3 : w11.cell? ⟨gb162, 3, none⟩ = some (.int .i64 a0_3) := (zs BK162.out 3).trans rfl; have hfz12_0 := zx BK162.out 0; have hfz12_1 := zx BK162.out 1; have hfz12_2 := zx BK162.out 2; have hfz12_3 := zx BK162.out 3) | (go_at_call 60; (with_reducible refine (coder_good.calls a0_0 a0_1 (fun k_ => k_ < w.heap.size) _ _ l0_2 a0_3 t163 t164 t165 t168 _ ?side1 A3.out).mono ?_); (case side1 => exact Kd.V_mk HC0_2.out (Kd.F_below (Kd.C_F (Kd.heap_int .u8) HR0_2.out) (by repeat (first | (with_reducible first | exact HB.out | apply ze | apply zd | apply zf | refine zk ?_ GE162.out) | exact HB.out)))); rintro e w13 ⟨v166, rfl, ho0, hb⟩; have n0_ := zm (Kd.V_lower (zy (ok' := fun k_ => k_ ≠ gb162) ho0 (fun k_ hk_ => Or.elim hk_ (fun hs_ => fun e_ => Nat.not_le.2 hs_ (by rw [e_]; exact GW162.out)) (fun hn_ => (Kd.freshB (g := gb162) (o := .cells #[.int .u64 a0_0, .int .u32 a0_1, .slice A0_2 l0_2.length c0_2, .int .i64 a0_3] 43 (0, 0)) (by (with_reducible repeat (first | refine zh ?_ _ | refine zj ?_ | refine zi ?_ _)); exact BK162.out) k_ hn_)))) (zE (by repeat (first | (with_reducible first | exact HB.out | apply ze | apply zd | apply zf | refine zk ?_ GE162.out) | exact HB.out)))); have n1_ := zm (zF (g := gb162) (o := .cells #[.int .u64 a0_0, .int .u32 a0_1, .slice A0_2 l0_2.length c0_2, .int .i64 a0_3] 43 (0, 0)) (by (with_reducible repeat (first | refine zh ?_ _ | refine zj ?_ | refine zi ?_ _)); exact BK162.out) hb); have n2_ := zm (zJ (by repeat (first | (with_reducible first | exact HB.out | apply ze | apply zd | apply zf | refine zk ?_ GE162.out) | exact HB.out)) hb); clear BK162; clear HB; have HO167 := n0_; have BK162 := n1_; have HB := n2_; clear n0_ n1_ n2_; (try clear hb); (try clear hb2); (try clear hk); (try clear hi); (try clear ho0); have hcz14_0 : w13.cell? ⟨gb162, 0, none⟩ = some (.int .u64 a0_0) := (zs BK162.out 0).trans rfl; have hcz14_1 : w13.cell? ⟨gb162, 1, none⟩ = some (.int .u32 a0_1) := (zs BK162.out 1).trans rfl; have hcz14_2 : w13.cell? ⟨gb162, 2, none⟩ = some (.slice A0_2 l0_2.length c0_2) := (zs BK162.out 2).trans rfl; have hcz14_3 : w13.cell? ⟨gb162, 3, none⟩ = some (.int .i64 a0_3) := (zs BK162.out 3).trans rfl; have hfz14_0 := zx BK162.out 0; have hfz14_1 := zx BK162.out 1; have hfz14_2 := zx BK162.out 2; have hfz14_3 := zx BK162.out 3; obtain ⟨Ao15, co15, eo15⟩ := Kd.V_slice HO167.out; subst eo15))
   repeat (go_quiet (first | ((with_reducible refine gate_dst (N := 2) rfl ?_); refine box_event ?hg (N := 2) ?hd (cs := #[.int .u64 a0_0, .int .u32 a0_1, .slice A0_2 l0_2.length c0_2, .int .i64 a0_3]) (t := 43) ?hr ?_; (case hd => rfl); (case hg => rfl); (case hr => first | (go_simp; done) | (go_simp; rfl)); intro gb162 hg w11 hbox hb; have n0_ := zm (zJ (by repeat (first | (with_reducible first | exact HB.out | apply ze | apply zd | apply zf) | exact HB.out)) hb); have n1_ := zm (hbox); have n2_ := zm ((by rw [hg]; exact (zE (by repeat (first | (with_reducible first | exact HB.out | apply ze | apply zd | apply zf) | exact HB.out))) : w.heap.size ≤ gb162)); have n3_ := zm ((by rw [hg]; exact (zE (by repeat (first | (with_reducible first | exact HB.out | apply ze | apply zd | apply zf) | exact HB.out))) : w.heap.size ≤ gb162)); clear HB; have HB := n0_; have BK162 := n1_; have GW162 := n2_; have GE162 := n3_; clear n0_ n1_ n2_ n3_; clear hb hbox hg; have hcz12_0 : w11.cell? ⟨gb162, 0, none⟩ = some (.int .u64 a0_0) := (zs BK162.out 0).trans rfl; have hcz12_1 : w11.cell? ⟨gb162, 1, none⟩ = some (.int .u32 a0_1) := (zs BK162.out 1).trans rfl; have hcz12_2 : w11.cell? ⟨gb162, 2, none⟩ = some (.slice A0_2 l0_2.length c0_2) := (zs BK162.out 2).trans rfl; have hcz12_3 : w11.cell? ⟨gb162, 3, none⟩ = some (.int .i64 a0_3) := (zs BK162.out 3).trans rfl; have hfz12_0 := zx BK162.out 0; have hfz12_1 := zx BK162.out 1; have hfz12_2 := zx BK162.out 2; have hfz12_3 := zx BK162.out 3) | (go_at_call 60; (with_reducible refine (coder_good.calls a0_0 a0_1 (fun k_ => k_ < w.heap.size) _ _ l0_2 a0_3 t163 t164 t165 t168 _ ?side1 A3.out).mono ?_); (case side1 => exact Kd.V_mk HC0_2.out (Kd.F_below (Kd.C_F (Kd.heap_int .u8) HR0_2.out) (by repeat (first | (with_reducible first | exact HB.out | apply ze | apply zd | apply zf | refine zk ?_ GE162.out) | exact HB.out)))); rintro e w13 ⟨v166, rfl, ho0, hb⟩; have n0_ := zm (Kd.V_lower (zy (ok' := fun k_ => k_ ≠ gb162) ho0 (fun k_ hk_ => Or.elim hk_ (fun hs_ => fun e_ => Nat.not_le.2 hs_ (by rw [e_]; exact GW162.out)) (fun hn_ => (Kd.freshB (g := gb162) (o := .cells #[.int .u64 a0_0, .int .u32 a0_1, .slice A0_2 l0_2.length c0_2, .int .i64 a0_3] 43 (0, 0)) (by (with_reducible repeat (first | refine zh ?_ _ | refine zj ?_ | refine zi ?_ _)); exact BK162.out) k_ hn_)))) (zE (by repeat (first | (with_reducible first | exact HB.out | apply ze | apply zd | apply zf | refine zk ?_ GE162.out) | exact HB.out)))); have n1_ := zm (zF (g := gb162) (o := .cells #[.int .u64 a0_0, .int .u32 a0_1, .slice A0_2 l0_2.length c0_2, .int .i64 a0_3] 43 (0, 0)) (by (with_reducible repeat (first | refine zh ?_ _ | refine zj ?_ | refine zi ?_ _)); exact BK162.out) hb); have n2_ := zm (zJ (by repeat (first | (with_reducible first | exact HB.out | apply ze | apply zd | apply zf | refine zk ?_ GE162.out) | exact HB.out)) hb); clear BK162; clear HB; have HO167 := n0_; have BK162 := n1_; have HB := n2_; clear n0_ n1_ n2_; (try clear hb); (try clear hb2); (try clear hk); (try clear hi); (try clear ho0); have hcz14_0 : w13.cell? ⟨gb162, 0, none⟩ = some (.int .u64 a0_0) := (zs BK162.out 0).trans rfl; have hcz14_1 : w13.cell? ⟨gb162, 1, none⟩ = some (.int .u32 a0_1) := (zs BK162.out 1).trans rfl; have hcz14_2 : w13.cell? ⟨gb162, 2, none⟩ = some (.slice A0_2 l0_2.length c0_2) := (zs BK162.out 2).trans rfl; have hcz14_3 : w13.cell? ⟨gb162, 3, none⟩ = some (.int .i64 a0_3) := (zs BK162.out 3).trans rfl; have hfz14_0 := zx BK162.out 0; have hfz14_1 := zx BK162.out 1; have hfz14_2 := zx BK162.out 2; have hfz14_3 := zx BK162.out 3; obtain ⟨Ao15, co15, eo15⟩ := Kd.V_slice HO167.out; subst eo15)); try go_wp2_with (first | ((with_reducible refine gate_dst (N := 2) rfl ?_); refine box_event ?hg (N := 2) ?hd (cs := #[.int .u64 a0_0, .int .u32 a0_1, .slice A0_2 l0_2.length c0_2, .int .i64 a0_3]) (t := 43) ?hr ?_; (case hd => rfl); (case hg => rfl); (case hr => first | (go_simp; done) | (go_simp; rfl)); intro gb162 hg w11 hbox hb; have n0_ := zm (zJ (by repeat (first | (with_reducible first | exact HB.out | apply ze | apply zd | apply zf) | exact HB.out)) hb); have n1_ := zm (hbox); have n2_ := zm ((by rw [hg]; exact (zE (by repeat (first | (with_reducible first | exact HB.out | apply ze | apply zd | apply zf) | exact HB.out))) : w.heap.size ≤ gb162)); have n3_ := zm ((by rw [hg]; exact (zE (by repeat (first | (with_reducible first | exact HB.out | apply ze | apply zd | apply zf) | exact HB.out))) : w.heap.size ≤ gb162)); clear HB; have HB := n0_; have BK162 := n1_; have GW162 := n2_; have GE162 := n3_; clear n0_ n1_ n2_ n3_; clear hb hbox hg; have hcz12_0 : w11.cell? ⟨gb162, 0, none⟩ = some (.int .u64 a0_0) := (zs BK162.out 0).trans rfl; have hcz12_1 : w11.cell? ⟨gb162, 1, none⟩ = some (.int .u32 a0_1) := (zs BK162.out 1).trans rfl; have hcz12_2 : w11.cell? ⟨gb162, 2, none⟩ = some (.slice A0_2 l0_2.length c0_2) := (zs BK162.out 2).trans rfl; have hcz12_3 : w11.cell? ⟨gb162, 3, none⟩ = some (.int .i64 a0_3) := (zs BK162.out 3).trans rfl; have hfz12_0 := zx BK162.out 0; have hfz12_1 := zx BK162.out 1; have hfz12_2 := zx BK162.out 2; have hfz12_3 := zx BK162.out 3) | (go_at_call 60; (with_reducible refine (coder_good.calls a0_0 a0_1 (fun k_ => k_ < w.heap.size) _ _ l0_2 a0_3 t163 t164 t165 t168 _ ?side1 A3.out).mono ?_); (case side1 => exact Kd.V_mk HC0_2.out (Kd.F_below (Kd.C_F (Kd.heap_int .u8) HR0_2.out) (by repeat (first | (with_reducible first | exact HB.out | apply ze | apply zd | apply zf | refine zk ?_ GE162.out) | exact HB.out)))); rintro e w13 ⟨v166, rfl, ho0, hb⟩; have n0_ := zm (Kd.V_lower (zy (ok' := fun k_ => k_ ≠ gb162) ho0 (fun k_ hk_ => Or.elim hk_ (fun hs_ => fun e_ => Nat.not_le.2 hs_ (by rw [e_]; exact GW162.out)) (fun hn_ => (Kd.freshB (g := gb162) (o := .cells #[.int .u64 a0_0, .int .u32 a0_1, .slice A0_2 l0_2.length c0_2, .int .i64 a0_3] 43 (0, 0)) (by (with_reducible repeat (first | refine zh ?_ _ | refine zj ?_ | refine zi ?_ _)); exact BK162.out) k_ hn_)))) (zE (by repeat (first | (with_reducible first | exact HB.out | apply ze | apply zd | apply zf | refine zk ?_ GE162.out) | exact HB.out)))); have n1_ := zm (zF (g := gb162) (o := .cells #[.int .u64 a0_0, .int .u32 a0_1, .slice A0_2 l0_2.length c0_2, .int .i64 a0_3] 43 (0, 0)) (by (with_reducible repeat (first | refine zh ?_ _ | refine zj ?_ | refine zi ?_ _)); exact BK162.out) hb); have n2_ := zm (zJ (by repeat (first | (with_reducible first | exact HB.out | apply ze | apply zd | apply zf | refine zk ?_ GE162.out) | exact HB.out)) hb); clear BK162; clear HB; have HO167 := n0_; have BK162 := n1_; have HB := n2_; clear n0_ n1_ n2_; (try clear hb); (try clear hb2); (try clear hk); (try clear hi); (try clear ho0); have hcz14_0 : w13.cell? ⟨gb162, 0, none⟩ = some (.int .u64 a0_0) := (zs BK162.out 0).trans rfl; have hcz14_1 : w13.cell? ⟨gb162, 1, none⟩ = some (.int .u32 a0_1) := (zs BK162.out 1).trans rfl; have hcz14_2 : w13.cell? ⟨gb162, 2, none⟩ = some (.slice A0_2 l0_2.length c0_2) := (zs BK162.out 2).trans rfl; have hcz14_3 : w13.cell? ⟨gb162, 3, none⟩ = some (.int .i64 a0_3) := (zs BK162.out 3).trans rfl; have hfz14_0 := zx BK162.out 0; have hfz14_1 := zx BK162.out 1; have hfz14_2 := zx BK162.out 2; have hfz14_3 := zx BK162.out 3; obtain ⟨Ao15, co15, eo15⟩ := Kd.V_slice HO167.out; subst eo15)))
   go_ret2
   exact ⟨by first | rfl | (simp [errW_none, errW_some] <;> rfl) | (simp [*, errW_none, errW_some] <;> rfl), by repeat (first | (with_reducible first | exact HB.out | apply ze | apply zd | apply zf | refine zk ?_ GE162.out) | exact HB.out)⟩
  ·
   rw [if_neg c10] at H
   have c10b0 : decide (65536 < a1) = false := decide_eq_false c10
   clear c10
   by_cases c16 : ((a1) % 4294967296) = 0
   ·
    rw [if_pos c16] at H
    exact absurd H (by simp)
   ·
    rw [if_neg c16] at H
    have c16b0 : (((a1) % 4294967296) == 0) = false := beq_eq_false_iff_ne.mpr c16
    have c16b1 : (((a1) % 4294967296) != 0) = true := bne_iff_ne.mpr c16
    by_cases c17 : ((Int.tdiv t164 ((a1) % 4294967296)) % 4294967296) = 0
    ·
     rw [if_pos c17] at H
     exact absurd H (by simp)
    ·
     rw [if_neg c17] at H
     have c17b0 : (((Int.tdiv t164 ((a1) % 4294967296)) % 4294967296) == 0) = false := beq_eq_false_iff_ne.mpr c17
     have c17b1 : (((Int.tdiv t164 ((a1) % 4294967296)) % 4294967296) != 0) = true := bne_iff_ne.mpr c17
     replace H := Option.bind_eq_some_iff.mp H
     obtain ⟨t169, A180, H⟩ := H
     replace H : (some (t169, 0)) = some (r1, r2) := H
     have A18 := zm A180
     clear A180
     simp only [Option.some.injEq, Prod.mk.injEq] at H
     obtain ⟨rfl, rfl⟩ := H
     go_enter Try.func32, Try.ntmps32
     go_wp2_with (first | ((with_reducible refine gate_dst (N := 2) rfl ?_); refine box_event ?hg (N := 2) ?hd (cs := #[.int .u64 a0_0, .int .u32 a0_1, .slice A0_2 l0_2.length c0_2, .int .i64 a0_3]) (t := 43) ?hr ?_; (case hd => rfl); (case hg => rfl); (case hr => first | (go_simp; done) | (go_simp; rfl)); intro gb162 hg w19 hbox hb; have n0_ := zm (zJ (by repeat (first | (with_reducible first | exact HB.out | apply ze | apply zd | apply zf) | exact HB.out)) hb); have n1_ := zm (hbox); have n2_ := zm ((by rw [hg]; exact (zE (by repeat (first | (with_reducible first | exact HB.out | apply ze | apply zd | apply zf) | exact HB.out))) : w.heap.size ≤ gb162)); have n3_ := zm ((by rw [hg]; exact (zE (by repeat (first | (with_reducible first | exact HB.out | apply ze | apply zd | apply zf) | exact HB.out))) : w.heap.size ≤ gb162)); clear HB; have HB := n0_; have BK162 := n1_; have GW162 := n2_; have GE162 := n3_; clear n0_ n1_ n2_ n3_; clear hb hbox hg; have hcz20_0 : w19.cell? ⟨gb162, 0, none⟩ = some (.int .u64 a0_0) := (zs BK162.out 0).trans rfl; have hcz20_1 : w19.cell? ⟨gb162, 1, none⟩ = some (.int .u32 a0_1) := (zs BK162.out 1).trans rfl; have hcz20_2 : w19.cell? ⟨gb162, 2, none⟩ = some (.slice A0_2 l0_2.length c0_2) := (zs BK162.out 2).trans rfl; have hcz20_3 : w19.cell? ⟨gb162, 3, none⟩ = some (.int .i64 a0_3) := (zs BK162.out 3).trans rfl; have hfz20_0 := zx BK162.out 0; have hfz20_1 := zx BK162.out 1; have hfz20_2 := zx BK162.out 2; have hfz20_3 := zx BK162.out 3) | (go_at_call 60; (with_reducible refine (coder_good.calls a0_0 a0_1 (fun k_ => k_ < w.heap.size) _ _ l0_2 a0_3 t163 t164 t165 t168 _ ?side1 A3.out).mono ?_); (case side1 => exact Kd.V_mk HC0_2.out (Kd.F_below (Kd.C_F (Kd.heap_int .u8) HR0_2.out) (by repeat (first | (with_reducible first | exact HB.out | apply ze | apply zd | apply zf | refine zk ?_ GE162.out) | exact HB.out)))); rintro e w21 ⟨v166, rfl, ho0, hb⟩; have n0_ := zm (Kd.V_lower (zy (ok' := fun k_ => k_ ≠ gb162) ho0 (fun k_ hk_ => Or.elim hk_ (fun hs_ => fun e_ => Nat.not_le.2 hs_ (by rw [e_]; exact GW162.out)) (fun hn_ => (Kd.freshB (g := gb162) (o := .cells #[.int .u64 a0_0, .int .u32 a0_1, .slice A0_2 l0_2.length c0_2, .int .i64 a0_3] 43 (0, 0)) (by (with_reducible repeat (first | refine zh ?_ _ | refine zj ?_ | refine zi ?_ _)); exact BK162.out) k_ hn_)))) (zE (by repeat (first | (with_reducible first | exact HB.out | apply ze | apply zd | apply zf | refine zk ?_ GE162.out) | exact HB.out)))); have n1_ := zm (zF (g := gb162) (o := .cells #[.int .u64 a0_0, .int .u32 a0_1, .slice A0_2 l0_2.length c0_2, .int .i64 a0_3] 43 (0, 0)) (by (with_reducible repeat (first | refine zh ?_ _ | refine zj ?_ | refine zi ?_ _)); exact BK162.out) hb); have n2_ := zm (zJ (by repeat (first | (with_reducible first | exact HB.out | apply ze | apply zd | apply zf | refine zk ?_ GE162.out) | exact HB.out)) hb); clear BK162; clear HB; have HO167 := n0_; have BK162 := n1_; have HB := n2_; clear n0_ n1_ n2_; (try clear hb); (try clear hb2); (try clear hk); (try clear hi); (try clear ho0); have hcz22_0 : w21.cell? ⟨gb162, 0, none⟩ = some (.int .u64 a0_0) := (zs BK162.out 0).trans rfl; have hcz22_1 : w21.cell? ⟨gb162, 1, none⟩ = some (.int .u32 a0_1) := (zs BK162.out 1).trans rfl; have hcz22_2 : w21.cell? ⟨gb162, 2, none⟩ = some (.slice A0_2 l0_2.length c0_2) := (zs BK162.out 2).trans rfl; have hcz22_3 : w21.cell? ⟨gb162, 3, none⟩ = some (.int .i64 a0_3) := (zs BK162.out 3).trans rfl; have hfz22_0 := zx BK162.out 0; have hfz22_1 := zx BK162.out 1; have hfz22_2 := zx BK162.out 2; have hfz22_3 := zx BK162.out 3; obtain ⟨Ao23, co23, eo23⟩ := Kd.V_slice HO167.out; subst eo23) | (go_at_call 61; (with_reducible refine (num_Clamp.calls (wrap64 (IntKind.u64.wrap (Int.tdiv t163 ((Int.tdiv t164 ((a1) % 4294967296)) % 4294967296)))) 0 (wrap64 (a1 - 1)) t169 _ A18.out).mono ?_); rintro e w' ⟨rfl, ⟨nd, rfl⟩⟩; (try first | exact ⟨rfl, _, World.drewN_drewN _ _ _⟩ | exact ⟨rfl, _, Eq.trans (World.drewN_drewN _ _ _) (congrArg (World.drewN _) (Nat.add_assoc _ _ _))⟩)))
     repeat (go_quiet (first | ((with_reducible refine gate_dst (N := 2) rfl ?_); refine box_event ?hg (N := 2) ?hd (cs := #[.int .u64 a0_0, .int .u32 a0_1, .slice A0_2 l0_2.length c0_2, .int .i64 a0_3]) (t := 43) ?hr ?_; (case hd => rfl); (case hg => rfl); (case hr => first | (go_simp; done) | (go_simp; rfl)); intro gb162 hg w19 hbox hb; have n0_ := zm (zJ (by repeat (first | (with_reducible first | exact HB.out | apply ze | apply zd | apply zf) | exact HB.out)) hb); have n1_ := zm (hbox); have n2_ := zm ((by rw [hg]; exact (zE (by repeat (first | (with_reducible first | exact HB.out | apply ze | apply zd | apply zf) | exact HB.out))) : w.heap.size ≤ gb162)); have n3_ := zm ((by rw [hg]; exact (zE (by repeat (first | (with_reducible first | exact HB.out | apply ze | apply zd | apply zf) | exact HB.out))) : w.heap.size ≤ gb162)); clear HB; have HB := n0_; have BK162 := n1_; have GW162 := n2_; have GE162 := n3_; clear n0_ n1_ n2_ n3_; clear hb hbox hg; have hcz20_0 : w19.cell? ⟨gb162, 0, none⟩ = some (.int .u64 a0_0) := (zs BK162.out 0).trans rfl; have hcz20_1 : w19.cell? ⟨gb162, 1, none⟩ = some (.int .u32 a0_1) := (zs BK162.out 1).trans rfl; have hcz20_2 : w19.cell? ⟨gb162, 2, none⟩ = some (.slice A0_2 l0_2.length c0_2) := (zs BK162.out 2).trans rfl; have hcz20_3 : w19.cell? ⟨gb162, 3, none⟩ = some (.int .i64 a0_3) := (zs BK162.out 3).trans rfl; have hfz20_0 := zx BK162.out 0; have hfz20_1 := zx BK162.out 1; have hfz20_2 := zx BK162.out 2; have hfz20_3 := zx BK162.out 3) | (go_at_call 60; (with_reducible refine (coder_good.calls a0_0 a0_1 (fun k_ => k_ < w.heap.size) _ _ l0_2 a0_3 t163 t164 t165 t168 _ ?side1 A3.out).mono ?_); (case side1 => exact Kd.V_mk HC0_2.out (Kd.F_below (Kd.C_F (Kd.heap_int .u8) HR0_2.out) (by repeat (first | (with_reducible first | exact HB.out | apply ze | apply zd | apply zf | refine zk ?_ GE162.out) | exact HB.out)))); rintro e w21 ⟨v166, rfl, ho0, hb⟩; have n0_ := zm (Kd.V_lower (zy (ok' := fun k_ => k_ ≠ gb162) ho0 (fun k_ hk_ => Or.elim hk_ (fun hs_ => fun e_ => Nat.not_le.2 hs_ (by rw [e_]; exact GW162.out)) (fun hn_ => (Kd.freshB (g := gb162) (o := .cells #[.int .u64 a0_0, .int .u32 a0_1, .slice A0_2 l0_2.length c0_2, .int .i64 a0_3] 43 (0, 0)) (by (with_reducible repeat (first | refine zh ?_ _ | refine zj ?_ | refine zi ?_ _)); exact BK162.out) k_ hn_)))) (zE (by repeat (first | (with_reducible first | exact HB.out | apply ze | apply zd | apply zf | refine zk ?_ GE162.out) | exact HB.out)))); have n1_ := zm (zF (g := gb162) (o := .cells #[.int .u64 a0_0, .int .u32 a0_1, .slice A0_2 l0_2.length c0_2, .int .i64 a0_3] 43 (0, 0)) (by (with_reducible repeat (first | refine zh ?_ _ | refine zj ?_ | refine zi ?_ _)); exact BK162.out) hb); have n2_ := zm (zJ (by repeat (first | (with_reducible first | exact HB.out | apply ze | apply zd | apply zf | refine zk ?_ GE162.out) | exact HB.out)) hb); clear BK162; clear HB; have HO167 := n0_; have BK162 := n1_; have HB := n2_; clear n0_ n1_ n2_; (try clear hb); (try clear hb2); (try clear hk); (try clear hi); (try clear ho0); have hcz22_0 : w21.cell? ⟨gb162, 0, none⟩ = some (.int .u64 a0_0) := (zs BK162.out 0).trans rfl; have hcz22_1 : w21.cell? ⟨gb162, 1, none⟩ = some (.int .u32 a0_1) := (zs BK162.out 1).trans rfl; have hcz22_2 : w21.cell? ⟨gb162, 2, none⟩ = some (.slice A0_2 l0_2.length c0_2) := (zs BK162.out 2).trans rfl; have hcz22_3 : w21.cell? ⟨gb162, 3, none⟩ = some (.int .i64 a0_3) := (zs BK162.out 3).trans rfl; have hfz22_0 := zx BK162.out 0; have hfz22_1 := zx BK162.out 1; have hfz22_2 := zx BK162.out 2; have hfz22_3 := zx BK162.out 3; obtain ⟨Ao23, co23, eo23⟩ := Kd.V_slice HO167.out; subst eo23) | (go_at_call 61; (with_reducible refine (num_Clamp.calls (wrap64 (IntKind.u64.wrap (Int.tdiv t163 ((Int.tdiv t164 ((a1) % 4294967296)) % 4294967296)))) 0 (wrap64 (a1 - 1)) t169 _ A18.out).mono ?_); rintro e w' ⟨rfl, ⟨nd, rfl⟩⟩; (try first | exact ⟨rfl, _, World.drewN_drewN _ _ _⟩ | exact ⟨rfl, _, Eq.trans (World.drewN_drewN _ _ _) (congrArg (World.drewN _) (Nat.add_assoc _ _ _))⟩))); try go_wp2_with (first | ((with_reducible refine gate_dst (N := 2) rfl ?_); refine box_event ?hg (N := 2) ?hd (cs := #[.int .u64 a0_0, .int .u32 a0_1, .slice A0_2 l0_2.length c0_2, .int .i64 a0_3]) (t := 43) ?hr ?_; (case hd => rfl); (case hg => rfl); (case hr => first | (go_simp; done) | (go_simp; rfl)); intro gb162 hg w19 hbox hb; have n0_ := zm (zJ (by repeat (first | (with_reducible first | exact HB.out | apply ze | apply zd | apply zf) | exact HB.out)) hb); have n1_ := zm (hbox); have n2_ := zm ((by rw [hg]; exact (zE (by repeat (first | (with_reducible first | exact HB.out | apply ze | apply zd | apply zf) | exact HB.out))) : w.heap.size ≤ gb162)); have n3_ := zm ((by rw [hg]; exact (zE (by repeat (first | (with_reducible first | exact HB.out | apply ze | apply zd | apply zf) | exact HB.out))) : w.heap.size ≤ gb162)); clear HB; have HB := n0_; have BK162 := n1_; have GW162 := n2_; have GE162 := n3_; clear n0_ n1_ n2_ n3_; clear hb hbox hg; have hcz20_0 : w19.cell? ⟨gb162, 0, none⟩ = some (.int .u64 a0_0) := (zs BK162.out 0).trans rfl; have hcz20_1 : w19.cell? ⟨gb162, 1, none⟩ = some (.int .u32 a0_1) := (zs BK162.out 1).trans rfl; have hcz20_2 : w19.cell? ⟨gb162, 2, none⟩ = some (.slice A0_2 l0_2.length c0_2) := (zs BK162.out 2).trans rfl; have hcz20_3 : w19.cell? ⟨gb162, 3, none⟩ = some (.int .i64 a0_3) := (zs BK162.out 3).trans rfl; have hfz20_0 := zx BK162.out 0; have hfz20_1 := zx BK162.out 1; have hfz20_2 := zx BK162.out 2; have hfz20_3 := zx BK162.out 3) | (go_at_call 60; (with_reducible refine (coder_good.calls a0_0 a0_1 (fun k_ => k_ < w.heap.size) _ _ l0_2 a0_3 t163 t164 t165 t168 _ ?side1 A3.out).mono ?_); (case side1 => exact Kd.V_mk HC0_2.out (Kd.F_below (Kd.C_F (Kd.heap_int .u8) HR0_2.out) (by repeat (first | (with_reducible first | exact HB.out | apply ze | apply zd | apply zf | refine zk ?_ GE162.out) | exact HB.out)))); rintro e w21 ⟨v166, rfl, ho0, hb⟩; have n0_ := zm (Kd.V_lower (zy (ok' := fun k_ => k_ ≠ gb162) ho0 (fun k_ hk_ => Or.elim hk_ (fun hs_ => fun e_ => Nat.not_le.2 hs_ (by rw [e_]; exact GW162.out)) (fun hn_ => (Kd.freshB (g := gb162) (o := .cells #[.int .u64 a0_0, .int .u32 a0_1, .slice A0_2 l0_2.length c0_2, .int .i64 a0_3] 43 (0, 0)) (by (with_reducible repeat (first | refine zh ?_ _ | refine zj ?_ | refine zi ?_ _)); exact BK162.out) k_ hn_)))) (zE (by repeat (first | (with_reducible first | exact HB.out | apply ze | apply zd | apply zf | refine zk ?_ GE162.out) | exact HB.out)))); have n1_ := zm (zF (g := gb162) (o := .cells #[.int .u64 a0_0, .int .u32 a0_1, .slice A0_2 l0_2.length c0_2, .int .i64 a0_3] 43 (0, 0)) (by (with_reducible repeat (first | refine zh ?_ _ | refine zj ?_ | refine zi ?_ _)); exact BK162.out) hb); have n2_ := zm (zJ (by repeat (first | (with_reducible first | exact HB.out | apply ze | apply zd | apply zf | refine zk ?_ GE162.out) | exact HB.out)) hb); clear BK162; clear HB; have HO167 := n0_; have BK162 := n1_; have HB := n2_; clear n0_ n1_ n2_; (try clear hb); (try clear hb2); (try clear hk); (try clear hi); (try clear ho0); have hcz22_0 : w21.cell? ⟨gb162, 0, none⟩ = some (.int .u64 a0_0) := (zs BK162.out 0).trans rfl; have hcz22_1 : w21.cell? ⟨gb162, 1, none⟩ = some (.int .u32 a0_1) := (zs BK162.out 1).trans rfl; have hcz22_2 : w21.cell? ⟨gb162, 2, none⟩ = some (.slice A0_2 l0_2.length c0_2) := (zs BK162.out 2).trans rfl; have hcz22_3 : w21.cell? ⟨gb162, 3, none⟩ = some (.int .i64 a0_3) := (zs BK162.out 3).trans rfl; have hfz22_0 := zx BK162.out 0; have hfz22_1 := zx BK162.out 1; have hfz22_2 := zx BK162.out 2; have hfz22_3 := zx BK162.out 3; obtain ⟨Ao23, co23, eo23⟩ := Kd.V_slice HO167.out; subst eo23) | (go_at_call 61; (with_reducible refine (num_Clamp.calls (wrap64 (IntKind.u64.wrap (Int.tdiv t163 ((Int.tdiv t164 ((a1) % 4294967296)) % 4294967296)))) 0 (wrap64 (a1 - 1)) t169 _ A18.out).mono ?_); rintro e w' ⟨rfl, ⟨nd, rfl⟩⟩; (try first | exact ⟨rfl, _, World.drewN_drewN _ _ _⟩ | exact ⟨rfl, _, Eq.trans (World.drewN_drewN _ _ _) (congrArg (World.drewN _) (Nat.add_assoc _ _ _))⟩))))
     go_ret2
     exact ⟨by first | rfl | (simp [errW_none, errW_some] <;> rfl) | (simp [*, errW_none, errW_some] <;> rfl), by repeat (first | (with_reducible first | exact HB.out | apply ze | apply zd | apply zf | refine zk ?_ GE162.out) | exact HB.out)⟩

end Go.Proofs.Ytkaoiblgfpphoaa.Prt

namespace Go.Proofs.Ytkaoiblgfpphoaa.Prt
open Go.RowKit Go.Proofs.YtkaoiblgfpphoaaW.PrintWords Go.Proofs.YtkaoiblgfpphoaaW.PrintLast Go.Proofs.YtkaoiblgfpphoaaW.PrintMore
attribute [local go_sem] max2_int min2_int max_two min_two max_three min_three max_four min_four   -- for this text's walks alone
set_option linter.unusedVariables false
set_option linter.unusedSimpArgs false

/-! ### coder_halves: function 63 -/
def coder_halves.f (a0 : Int) : Option (Int × Int) := if a0 ≤ 65536 then (some (wrap64 (a0), 1)) else (some (wrap64 ((wrap64 (IntKind.u64.wrap (Int.tdiv (IntKind.u64.wrap (a0 - 1)) 65536))) + 1), 65536))
set_option maxHeartbeats 8000000 in
set_option maxRecDepth 100000 in
theorem coder_halves.calls (a0 : Int) (r1 : Int) (r2 : Int) (w : World) (h : coder_halves.f a0 = some (r1, r2)) :
  Calls Try.prog 63 #[.int .u64 a0] w fun e w' => e = .returned (.tuple #[.int .i64 r1, .int .i64 r2]) ∧ Drawn0 w w' := by
 have H : (if a0 ≤ 65536 then (some (wrap64 (a0), 1)) else (some (wrap64 ((wrap64 (IntKind.u64.wrap (Int.tdiv (IntKind.u64.wrap (a0 - 1)) 65536))) + 1), 65536))) = some (r1, r2) := h
 clear h
 by_cases c2 : a0 ≤ 65536
 ·
  rw [if_pos c2] at H
  have c2b0 : decide (a0 ≤ 65536) = true := decide_eq_true c2
  clear c2
  simp only [Option.some.injEq, Prod.mk.injEq] at H
  obtain ⟨rfl, rfl⟩ := H
  go_enter Try.func63, Try.ntmps63
  go_wp2
  go_ret2
  exact ⟨by first | rfl | (simp; done) | (simp [*]; done), by repeat (first | exact Drawn0.refl _ | apply Drawn0.step)⟩
 ·
  rw [if_neg c2] at H
  have c2b0 : decide (a0 ≤ 65536) = false := decide_eq_false c2
  clear c2
  simp only [Option.some.injEq, Prod.mk.injEq] at H
  obtain ⟨rfl, rfl⟩ := H
  go_enter Try.func63, Try.ntmps63
  go_wp2
  go_ret2
  exact ⟨by first | rfl | (simp; done) | (simp [*]; done), by repeat (first | exact Drawn0.refl _ | apply Drawn0.step)⟩

end Go.Proofs.Ytkaoiblgfpphoaa.Prt

namespace Go.Proofs.Ytkaoiblgfpphoaa.Prt
open Go.RowKit Go.Proofs.YtkaoiblgfpphoaaW.PrintWords Go.Proofs.YtkaoiblgfpphoaaW.PrintLast Go.Proofs.YtkaoiblgfpphoaaW.PrintMore
attribute [local go_sem] max2_int min2_int max_two min_two max_three min_three max_four min_four   -- for this text's walks alone
set_option linter.unusedVariables false
set_option linter.unusedSimpArgs false

/-! ### coder_TakeNum: function 39 -/
def coder_TakeNum.j0 : Nat → Int → Bool → Int → Int → List Int → Int → Option (Int × Int × List Int × Int × Int × Int)
 | 0, _, _, _, _, _, _ => none
 | k + 1, x1, x21, x514000, x514001, x514002, x514003 => if x21 = true then (some (x514000, x514001, x514002, x514003, 0, 1)) else ((coder_halves.f x1).bind fun bt521 => ((coder_Get.f x514000 x514001 x514002 x514003 bt521.1).bind fun bt523 => ((coder_Take.f k x514000 x514001 x514002 x514003 bt523.1 (wrap64 (bt523.1 + 1)) bt521.1).bind fun bt525 => (if bt521.2 > 1 then ((coder_Get.f bt525.1 bt525.2.1 bt525.2.2.1 bt525.2.2.2.1 bt521.2).bind fun bt532 => ((coder_Take.f k bt525.1 bt525.2.1 bt525.2.2.1 bt525.2.2.2.1 bt532.1 (wrap64 (bt532.1 + 1)) bt521.2).bind fun bt534 => (some (bt534.1, bt534.2.1, bt534.2.2.1, bt534.2.2.2.1, mn (IntKind.u64.wrap ((IntKind.u64.wrap ((IntKind.u64.wrap (bt523.1)) * (IntKind.u64.wrap (bt521.2)))) + (IntKind.u64.wrap (bt532.1)))) (IntKind.u64.wrap (x1 - 1)), 0)))) else (some (bt525.1, bt525.2.1, bt525.2.2.1, bt525.2.2.2.1, mn (IntKind.u64.wrap (bt523.1)) (IntKind.u64.wrap (x1 - 1)), 0))))))
def coder_TakeNum.f (k : Nat) (a0_0 : Int) (a0_1 : Int) (l0_2 : List Int) (a0_3 : Int) (a1 : Int) : Option (Int × Int × List Int × Int × Int × Int) := (coder_good.f a0_0 a0_1 l0_2 a0_3).bind fun bt515 => (if a1 < 1 then (coder_TakeNum.j0 k a1 true bt515.1 bt515.2.1 bt515.2.2.1 bt515.2.2.2) else (coder_TakeNum.j0 k a1 (decide (a1 > 4294967296)) bt515.1 bt515.2.1 bt515.2.2.1 bt515.2.2.2))
theorem coder_TakeNum.mono_l : ∀ k, (∀ y0 y1 y2 y3 y4 y5, LeO (coder_TakeNum.j0 k y0 y1 y2 y3 y4 y5) (coder_TakeNum.j0 (k + 1) y0 y1 y2 y3 y4 y5))
 | 0 => fun _ _ _ _ _ _ r h => by simp [coder_TakeNum.j0] at h
 | k + 1 => by
  have ih0 := coder_TakeNum.mono_l k
  ·
   intro y0 y1 y2 y3 y4 y5
   unfold coder_TakeNum.j0
   repeat' first
   | (with_reducible exact ih0 _ _ _ _ _ _)
   | (with_reducible exact coder_Take.mono _ _ _ _ _ _ _ _)
   | (with_reducible exact LeO.refl _)
   | (with_reducible exact LeO.none _)
   | (with_reducible refine LeO.ite ?_ ?_)
   | (with_reducible refine LeO.bind ?_ (fun _ => ?_))
   | exact ih0 _ _ _ _ _ _
   | exact coder_Take.mono _ _ _ _ _ _ _ _
   | exact LeO.none _
   | refine LeO.ite ?_ ?_
   | refine LeO.bind ?_ (fun _ => ?_)
theorem coder_TakeNum.mono : ∀ a0 a1 a2 a3 a4 k, LeO (coder_TakeNum.f k a0 a1 a2 a3 a4) (coder_TakeNum.f (k + 1) a0 a1 a2 a3 a4) := by
 intro a0 a1 a2 a3 a4 k
 have ih0 := coder_TakeNum.mono_l k
 unfold coder_TakeNum.f
 repeat' first
   | (with_reducible exact ih0 _ _ _ _ _ _)
   | (with_reducible exact coder_Take.mono _ _ _ _ _ _ _ _)
   | (with_reducible exact LeO.refl _)
   | (with_reducible exact LeO.none _)
   | (with_reducible refine LeO.ite ?_ ?_)
   | (with_reducible refine LeO.bind ?_ (fun _ => ?_))
   | exact ih0 _ _ _ _ _ _
   | exact coder_Take.mono _ _ _ _ _ _ _ _
   | exact LeO.none _
   | refine LeO.ite ?_ ?_
   | refine LeO.bind ?_ (fun _ => ?_)
set_option maxHeartbeats 8000000 in
set_option maxRecDepth 100000 in
theorem coder_TakeNum.calls (k : Nat) (a0_0 : Int) (a0_1 : Int) (P0_2_ : Nat → Prop) (A0_2 : Option Addr) (c0_2 : Nat) (l0_2 : List Int) (a0_3 : Int) (a1 : Int) (r1 : Int) (r2 : Int) (r3 : List Int) (r4 : Int) (r5 : Int) (r6 : Int) (w : World) (hs0_2 : Kd.V (Kd.int .u8) 5 w w.heap.size (fun k_ => P0_2_ k_) (.slice A0_2 l0_2.length c0_2) l0_2) (h : coder_TakeNum.f k a0_0 a0_1 l0_2 a0_3 a1 = some (r1, r2, r3, r4, r5, r6)) :
  Calls Try.prog 39 #[.agg #[.int .u64 a0_0, .int .u32 a0_1, .slice A0_2 l0_2.length c0_2, .int .i64 a0_3], .int .u64 a1] w fun e w' => ∃ v2_ : Value, e = .returned (.tuple #[.agg #[.int .u64 r1, .int .u32 r2, v2_, .int .i64 r4], .int .u64 r5, .int .i64 r6]) ∧ Kd.V (Kd.int .u8) 5 w' w.heap.size (fun k_ => (P0_2_ k_ ∨ w.heap.size ≤ k_)) v2_ r3 ∧ Below w.heap.size w w' := by
 have hu43 := Try.underlying43
 have HO0_2 := zm (show Kd.V (Kd.int .u8) 5 w w.heap.size (fun k_ => (P0_2_ k_ ∨ w.heap.size ≤ k_)) (.slice A0_2 l0_2.length c0_2) l0_2 from zy hs0_2 (fun k_ hk => .inl hk))
 have HB := zm (Below.refl w.heap.size w)
 have H : ((coder_good.f a0_0 a0_1 l0_2 a0_3).bind fun bt515 => (if a1 < 1 then (coder_TakeNum.j0 k a1 true bt515.1 bt515.2.1 bt515.2.2.1 bt515.2.2.2) else (coder_TakeNum.j0 k a1 (decide (a1 > 4294967296)) bt515.1 bt515.2.1 bt515.2.2.1 bt515.2.2.2))) = some (r1, r2, r3, r4, r5, r6) := h
 clear h
 replace H := Option.bind_eq_some_iff.mp H
 obtain ⟨⟨t515, t516, t517, t520⟩, A30, H⟩ := H
 replace H : (if a1 < 1 then (coder_TakeNum.j0 k a1 true t515 t516 t517 t520) else (coder_TakeNum.j0 k a1 (decide (a1 > 4294967296)) t515 t516 t517 t520)) = some (r1, r2, r3, r4, r5, r6) := H
 have A3 := zm A30
 clear A30
 have HC4 := zm H
 clear H
 go_enter Try.func39, Try.ntmps39
 go_upto_region 2 with (first | ((with_reducible refine gate_dst (N := 2) rfl ?_); refine box_event ?hg (N := 2) ?hd (cs := #[.int .u64 a0_0, .int .u32 a0_1, .slice A0_2 l0_2.length c0_2, .int .i64 a0_3]) (t := 43) ?hr ?_; (case hd => rfl); (case hg => rfl); (case hr => first | (go_simp; done) | (go_simp; rfl)); intro gb513 hg w5 hbox hb; have n0_ := zm (Kd.V_below (Kd.V_elderB (by (with_reducible repeat (first | apply zA | apply zB | apply zC)); exact HO0_2.out) gb513 (Nat.le_of_eq hg.symm)) hb); have n1_ := zm (zJ (by repeat (first | (with_reducible first | exact HB.out | apply ze | apply zd | apply zf) | exact HB.out)) hb); have n2_ := zm (hbox); have n3_ := zm ((by rw [hg]; exact (zE (by repeat (first | (with_reducible first | exact HB.out | apply ze | apply zd | apply zf) | exact HB.out))) : w.heap.size ≤ gb513)); have n4_ := zm ((by rw [hg]; exact (zE (by repeat (first | (with_reducible first | exact HB.out | apply ze | apply zd | apply zf) | exact HB.out))) : w.heap.size ≤ gb513)); clear HO0_2; clear HB; have HO0_2 := n0_; have HB := n1_; have BK513 := n2_; have GW513 := n3_; have GE513 := n4_; clear n0_ n1_ n2_ n3_ n4_; clear hb hbox hg) | ((with_reducible refine gate_dst (N := 4) rfl ?_); refine box_event ?hg (N := 4) ?hd (cs := #[.int .u64 0, .int .u32 0, .slice none 0 0, .int .i64 0]) (t := 43) ?hr ?_; (case hd => rfl); (case hg => rfl); (case hr => first | (go_simp; done) | (go_simp; rfl)); intro gb514 hg w6 hbox hb; have n0_ := zm (Kd.V_below (Kd.V_elderB (by (with_reducible repeat (first | apply zA | apply zB | apply zC)); exact HO0_2.out) gb514 (Nat.le_of_eq hg.symm)) hb); have n1_ := zm (zF (g := gb513) (o := .cells #[.int .u64 a0_0, .int .u32 a0_1, .slice A0_2 l0_2.length c0_2, .int .i64 a0_3] 43 (0, 0)) (by (with_reducible repeat (first | refine zh ?_ _ | refine zj ?_ | refine zi ?_ _)); exact BK513.out) hb); have n2_ := zm (zJ (by repeat (first | (with_reducible first | exact HB.out | apply ze | apply zd | apply zf | refine zk ?_ GE513.out) | exact HB.out)) hb); have n3_ := zm (hbox); have n4_ := zm ((by rw [hg]; exact (zE (by repeat (first | (with_reducible first | exact HB.out | apply ze | apply zd | apply zf | refine zk ?_ GE513.out) | exact HB.out))) : w.heap.size ≤ gb514)); have n5_ := zm ((by rw [hg]; exact (zE (by repeat (first | (with_reducible first | exact HB.out | apply ze | apply zd | apply zf | refine zk ?_ GE513.out) | exact HB.out))) : w.heap.size ≤ gb514)); have n6_ := zm ((by rw [hg]; exact zn (zD (g := gb513) (o := .cells #[.int .u64 a0_0, .int .u32 a0_1, .slice A0_2 l0_2.length c0_2, .int .i64 a0_3] 43 (0, 0)) (by (with_reducible repeat (first | refine zh ?_ _ | refine zj ?_ | refine zi ?_ _)); exact BK513.out)) : gb513 ≠ gb514)); have n7_ := zm ((by rw [hg]; exact zg (zD (g := gb513) (o := .cells #[.int .u64 a0_0, .int .u32 a0_1, .slice A0_2 l0_2.length c0_2, .int .i64 a0_3] 43 (0, 0)) (by (with_reducible repeat (first | refine zh ?_ _ | refine zj ?_ | refine zi ?_ _)); exact BK513.out)) : gb514 ≠ gb513)); clear HO0_2; clear BK513; clear HB; have HO0_2 := n0_; have BK513 := n1_; have HB := n2_; have BK514 := n3_; have GW514 := n4_; have GE514 := n5_; have NB513_514 := n6_; have NB514_513 := n7_; clear n0_ n1_ n2_ n3_ n4_ n5_ n6_ n7_; clear hb hbox hg; have hnb7 := NB513_514.out; have hnc7 := NB514_513.out; have hcz8_0 : w6.cell? ⟨gb513, 0, none⟩ = some (.int .u64 a0_0) := (zs BK513.out 0).trans rfl; have hcz8_1 : w6.cell? ⟨gb513, 1, none⟩ = some (.int .u32 a0_1) := (zs BK513.out 1).trans rfl; have hcz8_2 : w6.cell? ⟨gb513, 2, none⟩ = some (.slice A0_2 l0_2.length c0_2) := (zs BK513.out 2).trans rfl; have hcz8_3 : w6.cell? ⟨gb513, 3, none⟩ = some (.int .i64 a0_3) := (zs BK513.out 3).trans rfl; have hfz8_0 := zx BK513.out 0; have hfz8_1 := zx BK513.out 1; have hfz8_2 := zx BK513.out 2; have hfz8_3 := zx BK513.out 3) | ((with_reducible refine gate_callee (f := 60) rfl ?_); refine goesL_ (some 15) rfl rfl Try.func60 (by kernel_rfl) rfl #[.agg #[.int .u64 a0_0, .int .u32 a0_1, .slice A0_2 l0_2.length c0_2, .int .i64 a0_3]] rfl (by (try simp only [List.map_toArray, List.map_cons, List.map_nil]); first | done | rfl | (simp only [List.length_drop, List.length_take]; rfl)) ?_; (with_reducible refine (coder_good.calls a0_0 a0_1 (fun k_ => (((P0_2_ k_ ∨ w.heap.size ≤ k_) ∧ k_ ≠ gb513) ∧ k_ ≠ gb514)) _ _ l0_2 a0_3 t515 t516 t517 t520 _ ?side1 A3.out).mono ?_); (case side1 => exact HO0_2.out); rintro e w9 ⟨v518, rfl, ho0, hb⟩; refine ⟨_, rfl, ?_⟩; have n0_ := zm (Kd.V_below (by (with_reducible repeat (first | apply zA | apply zB | apply zC)); exact HO0_2.out) hb); have n1_ := zm (Kd.V_lower (zy (ok' := fun k_ => (P0_2_ k_ ∨ w.heap.size ≤ k_) ∧ k_ ≠ gb513 ∧ k_ ≠ gb514) ho0 (fun k_ hk_ => ⟨Or.elim hk_ (fun hs_ => hs_.1.1) (fun hn_ => (.inr (Nat.le_trans (zE (by repeat (first | (with_reducible first | exact HB.out | apply ze | apply zd | apply zf | refine zk ?_ GE513.out | refine zk ?_ GE514.out) | exact HB.out))) hn_))), Or.elim hk_ (fun hs_ => hs_.1.2) (fun hn_ => (Kd.freshB (g := gb513) (o := .cells #[.int .u64 a0_0, .int .u32 a0_1, .slice A0_2 l0_2.length c0_2, .int .i64 a0_3] 43 (0, 0)) (by (with_reducible repeat (first | refine zh ?_ _ | refine zj ?_ | refine zi ?_ _)); exact BK513.out) k_ hn_)), Or.elim hk_ (fun hs_ => hs_.2) (fun hn_ => (Kd.freshB (g := gb514) (o := .cells #[.int .u64 0, .int .u32 0, .slice none 0 0, .int .i64 0] 43 (0, 0)) (by (with_reducible repeat (first | refine zh ?_ _ | refine zj ?_ | refine zi ?_ _)); exact BK514.out) k_ hn_))⟩)) (zE (by repeat (first | (with_reducible first | exact HB.out | apply ze | apply zd | apply zf | refine zk ?_ GE513.out | refine zk ?_ GE514.out) | exact HB.out)))); have n2_ := zm (zF (g := gb513) (o := .cells #[.int .u64 a0_0, .int .u32 a0_1, .slice A0_2 l0_2.length c0_2, .int .i64 a0_3] 43 (0, 0)) (by (with_reducible repeat (first | refine zh ?_ _ | refine zj ?_ | refine zi ?_ _)); exact BK513.out) hb); have n3_ := zm (zF (g := gb514) (o := .cells #[.int .u64 0, .int .u32 0, .slice none 0 0, .int .i64 0] 43 (0, 0)) (by (with_reducible repeat (first | refine zh ?_ _ | refine zj ?_ | refine zi ?_ _)); exact BK514.out) hb); have n4_ := zm (zJ (by repeat (first | (with_reducible first | exact HB.out | apply ze | apply zd | apply zf | refine zk ?_ GE513.out | refine zk ?_ GE514.out) | exact HB.out)) hb); clear HO0_2; clear BK513; clear BK514; clear HB; have HO0_2 := n0_; have HO519 := n1_; have BK513 := n2_; have BK514 := n3_; have HB := n4_; clear n0_ n1_ n2_ n3_ n4_; (try clear hb); (try clear hb2); (try clear hk); (try clear hi); (try clear ho0); have hcz10_0 : w9.cell? ⟨gb513, 0, none⟩ = some (.int .u64 a0_0) := (zs BK513.out 0).trans rfl; have hcz10_1 : w9.cell? ⟨gb513, 1, none⟩ = some (.int .u32 a0_1) := (zs BK513.out 1).trans rfl; have hcz10_2 : w9.cell? ⟨gb513, 2, none⟩ = some (.slice A0_2 l0_2.length c0_2) := (zs BK513.out 2).trans rfl; have hcz10_3 : w9.cell? ⟨gb513, 3, none⟩ = some (.int .i64 a0_3) := (zs BK513.out 3).trans rfl; have hfz10_0 := zx BK513.out 0; have hfz10_1 := zx BK513.out 1; have hfz10_2 := zx BK513.out 2; have hfz10_3 := zx BK513.out 3; obtain ⟨Ao11, co11, eo11⟩ := Kd.V_slice HO519.out; subst eo11))
 (try simp only [Act.put, List.setIfInBounds_toArray, List.set_cons_zero, List.set_cons_succ])
 go_cut [21] (fun v21 wc => ∃ (kq : Nat) (x21_3 : Bool), v21 = .bool x21_3 ∧ Aside0 (coder_TakeNum.j0 kq a1 x21_3 t515 t516 t517 t520 = some (r1, r2, r3, r4, r5, r6)) ∧ Aside0 (kq ≤ k) ∧ Aside0 (Kd.V (Kd.int .u8) 5 wc w.heap.size (fun k_ => (P0_2_ k_ ∨ w.heap.size ≤ k_) ∧ k_ ≠ gb513 ∧ k_ ≠ gb514) (.slice Ao11 t517.length co11) t517) ∧ Aside0 (wc.heap[gb513]? = some (.cells #[.int .u64 t515, .int .u32 t516, (.slice Ao11 t517.length co11), .int .i64 t520] 43 (0, 0))) ∧ Aside0 (wc.heap[gb514]? = some (.cells #[.int .u64 0, .int .u32 0, (.slice none 0 0), .int .i64 0] 43 (0, 0))) ∧ Aside0 (Below w.heap.size w wc))
 case first =>
  have H := HC4.out
  clear HC4
  by_cases c12 : a1 < 1
  ·
   rw [if_pos c12] at H
   have c12b0 : decide (a1 < 1) = true := decide_eq_true c12
   clear c12
   (first | rw [c12b0] | (simp only [i64_w, i32_w]; rw [c12b0]) | skip)
   have H' := zm H
   clear H
   go_wp2
   go_meet
   case rel => exact ⟨_, (true), (by first | rfl | (simp; done) | (simp [*]; done)), H', ⟨by first | omega | exact Nat.le_refl _⟩, ⟨by (with_reducible repeat (first | apply zA | apply zB | apply zC)); exact zy (zI (p := ⟨gb513, 3, none⟩) (zI (p := ⟨gb513, 2, none⟩) (zI (p := ⟨gb513, 1, none⟩) (zI (p := ⟨gb513, 0, none⟩) (zy HO519.out (fun k_ hk => (⟨hk, hk.2.1⟩ : _ ∧ k_ ≠ gb513))) (fun _ hk => hk.2) (.int .u64 t515)) (fun _ hk => hk.2) (.int .u32 t516)) (fun _ hk => hk.2) (.slice Ao11 t517.length co11)) (fun _ hk => hk.2) (.int .i64 t520)) (fun _ hk => ⟨hk.1.1, ⟨hk.1.2.1, hk.1.2.2⟩⟩)⟩, ⟨by (with_reducible repeat (first | refine zh ?_ _ | refine zj ?_ | refine zi ?_ _)); refine zw (cs := #[.int .u64 t515, .int .u32 t516, .slice Ao11 t517.length co11, .int .i64 a0_3]) ?_ 3 _ rfl; (with_reducible repeat (first | refine zh ?_ _ | refine zj ?_ | refine zi ?_ _)); refine zw (cs := #[.int .u64 t515, .int .u32 t516, .slice A0_2 l0_2.length c0_2, .int .i64 a0_3]) ?_ 2 _ rfl; (with_reducible repeat (first | refine zh ?_ _ | refine zj ?_ | refine zi ?_ _)); refine zw (cs := #[.int .u64 t515, .int .u32 a0_1, .slice A0_2 l0_2.length c0_2, .int .i64 a0_3]) ?_ 1 _ rfl; (with_reducible repeat (first | refine zh ?_ _ | refine zj ?_ | refine zi ?_ _)); refine zw (cs := #[.int .u64 a0_0, .int .u32 a0_1, .slice A0_2 l0_2.length c0_2, .int .i64 a0_3]) ?_ 0 _ rfl; (with_reducible repeat (first | refine zh ?_ _ | refine zj ?_ | refine zi ?_ _)); exact BK513.out⟩, ⟨by (with_reducible repeat (first | refine zh ?_ _ | refine zj ?_ | refine zi ?_ _)); refine zv ?_ NB514_513.out _; (with_reducible repeat (first | refine zh ?_ _ | refine zj ?_ | refine zi ?_ _)); refine zv ?_ NB514_513.out _; (with_reducible repeat (first | refine zh ?_ _ | refine zj ?_ | refine zi ?_ _)); refine zv ?_ NB514_513.out _; (with_reducible repeat (first | refine zh ?_ _ | refine zj ?_ | refine zi ?_ _)); refine zv ?_ NB514_513.out _; (with_reducible repeat (first | refine zh ?_ _ | refine zj ?_ | refine zi ?_ _)); exact BK514.out⟩, ⟨by repeat (first | (with_reducible first | exact HB.out | apply ze | apply zd | apply zf | refine zk ?_ GE513.out | refine zk ?_ GE514.out) | exact HB.out)⟩⟩
  ·
   rw [if_neg c12] at H
   have c12b0 : decide (a1 < 1) = false := decide_eq_false c12
   clear c12
   (first | rw [c12b0] | (simp only [i64_w, i32_w]; rw [c12b0]) | skip)
   have H' := zm H
   clear H
   go_wp2
   go_meet
   case rel => exact ⟨_, (decide (a1 > 4294967296)), (by first | rfl | (simp; done) | (simp [*]; done)), H', ⟨by first | omega | exact Nat.le_refl _⟩, ⟨by (with_reducible repeat (first | apply zA | apply zB | apply zC)); exact zy (zI (p := ⟨gb513, 3, none⟩) (zI (p := ⟨gb513, 2, none⟩) (zI (p := ⟨gb513, 1, none⟩) (zI (p := ⟨gb513, 0, none⟩) (zy HO519.out (fun k_ hk => (⟨hk, hk.2.1⟩ : _ ∧ k_ ≠ gb513))) (fun _ hk => hk.2) (.int .u64 t515)) (fun _ hk => hk.2) (.int .u32 t516)) (fun _ hk => hk.2) (.slice Ao11 t517.length co11)) (fun _ hk => hk.2) (.int .i64 t520)) (fun _ hk => ⟨hk.1.1, ⟨hk.1.2.1, hk.1.2.2⟩⟩)⟩, ⟨by (with_reducible repeat (first | refine zh ?_ _ | refine zj ?_ | refine zi ?_ _)); refine zw (cs := #[.int .u64 t515, .int .u32 t516, .slice Ao11 t517.length co11, .int .i64 a0_3]) ?_ 3 _ rfl; (with_reducible repeat (first | refine zh ?_ _ | refine zj ?_ | refine zi ?_ _)); refine zw (cs := #[.int .u64 t515, .int .u32 t516, .slice A0_2 l0_2.length c0_2, .int .i64 a0_3]) ?_ 2 _ rfl; (with_reducible repeat (first | refine zh ?_ _ | refine zj ?_ | refine zi ?_ _)); refine zw (cs := #[.int .u64 t515, .int .u32 a0_1, .slice A0_2 l0_2.length c0_2, .int .i64 a0_3]) ?_ 1 _ rfl; (with_reducible repeat (first | refine zh ?_ _ | refine zj ?_ | refine zi ?_ _)); refine zw (cs := #[.int .u64 a0_0, .int .u32 a0_1, .slice A0_2 l0_2.length c0_2, .int .i64 a0_3]) ?_ 0 _ rfl; (with_reducible repeat (first | refine zh ?_ _ | refine zj ?_ | refine zi ?_ _)); exact BK513.out⟩, ⟨by (with_reducible repeat (first | refine zh ?_ _ | refine zj ?_ | refine zi ?_ _)); refine zv ?_ NB514_513.out _; (with_reducible repeat (first | refine zh ?_ _ | refine zj ?_ | refine zi ?_ _)); refine zv ?_ NB514_513.out _; (with_reducible repeat (first | refine zh ?_ _ | refine zj ?_ | refine zi ?_ _)); refine zv ?_ NB514_513.out _; (with_reducible repeat (first | refine zh ?_ _ | refine zj ?_ | refine zi ?_ _)); refine zv ?_ NB514_513.out _; (with_reducible repeat (first | refine zh ?_ _ | refine zj ?_ | refine zi ?_ _)); exact BK514.out⟩, ⟨by repeat (first | (with_reducible first | exact HB.out | apply ze | apply zd | apply zf | refine zk ?_ GE513.out | refine zk ?_ GE514.out) | exact HB.out)⟩⟩
 case rest =>
  clear HC4
  try clear c1
  try clear p2
  try clear c3
  try clear c6
  try clear c7
  try clear c12
  try clear c12b0
  try clear hcz10_0
  try clear hcz10_1
  try clear hcz10_2
  try clear hcz10_3
  try clear hcz8_0
  try clear hcz8_1
  try clear hcz8_2
  try clear hcz8_3
  try clear hfz10_0
  try clear hfz10_1
  try clear hfz10_2
  try clear hfz10_3
  try clear hfz8_0
  try clear hfz8_1
  try clear hfz8_2
  try clear hfz8_3
  obtain ⟨kq, x21_3, rfl, HA, HJ3, HO_514002, BK513, BK514, HB⟩ := hcut
  cases kq with
  | zero => exact absurd HA.out (by simp [coder_TakeNum.j0])
  | succ kj3 =>
   have H := HA.out
   clear HA
   simp only [coder_TakeNum.j0] at H
   by_cases c13 : x21_3 = true
   ·
    subst c13
    have H1 : (some (t515, t516, t517, t520, 0, 1)) = some (r1, r2, r3, r4, r5, r6) := by rw [if_pos rfl] at H; exact H
    clear H
    have H := H1
    clear H1
    simp only [Option.some.injEq, Prod.mk.injEq] at H
    obtain ⟨rfl, rfl, rfl, rfl, rfl, rfl⟩ := H
    have hnb14 := NB513_514.out
    have hnc14 := NB514_513.out
    have hcz15_0 : wc.cell? ⟨gb513, 0, none⟩ = some (.int .u64 t515) := (zs BK513.out 0).trans rfl
    have hcz15_1 : wc.cell? ⟨gb513, 1, none⟩ = some (.int .u32 t516) := (zs BK513.out 1).trans rfl
    have hcz15_2 : wc.cell? ⟨gb513, 2, none⟩ = some (.slice Ao11 t517.length co11) := (zs BK513.out 2).trans rfl
    have hcz15_3 : wc.cell? ⟨gb513, 3, none⟩ = some (.int .i64 t520) := (zs BK513.out 3).trans rfl
    have hfz15_0 := zx BK513.out 0
    have hfz15_1 := zx BK513.out 1
    have hfz15_2 := zx BK513.out 2
    have hfz15_3 := zx BK513.out 3
    have hcz16_0 : wc.cell? ⟨gb514, 0, none⟩ = some (.int .u64 0) := (zs BK514.out 0).trans rfl
    have hcz16_1 : wc.cell? ⟨gb514, 1, none⟩ = some (.int .u32 0) := (zs BK514.out 1).trans rfl
    have hcz16_2 : wc.cell? ⟨gb514, 2, none⟩ = some (.slice none 0 0) := (zs BK514.out 2).trans rfl
    have hcz16_3 : wc.cell? ⟨gb514, 3, none⟩ = some (.int .i64 0) := (zs BK514.out 3).trans rfl
    have hfz16_0 := zx BK514.out 0
    have hfz16_1 := zx BK514.out 1
    have hfz16_2 := zx BK514.out 2
    have hfz16_3 := zx BK514.out 3
    go_wp2
    refine bodyPost_ret (results_ctt rfl _ _ gb514 43 #[.int .u64 t515, .int .u32 t516, .slice Ao11 t517.length co11, .int .i64 t520] (0, 0) _ rfl (by (with_reducible repeat (first | refine zh ?_ _ | refine zj ?_ | refine zi ?_ _)); refine zw (cs := #[.int .u64 t515, .int .u32 t516, .slice Ao11 t517.length co11, .int .i64 0]) ?_ 3 _ rfl; (with_reducible repeat (first | refine zh ?_ _ | refine zj ?_ | refine zi ?_ _)); refine zw (cs := #[.int .u64 t515, .int .u32 t516, .slice none 0 0, .int .i64 0]) ?_ 2 _ rfl; (with_reducible repeat (first | refine zh ?_ _ | refine zj ?_ | refine zi ?_ _)); refine zw (cs := #[.int .u64 t515, .int .u32 0, .slice none 0 0, .int .i64 0]) ?_ 1 _ rfl; (with_reducible repeat (first | refine zh ?_ _ | refine zj ?_ | refine zi ?_ _)); refine zw (cs := #[.int .u64 0, .int .u32 0, .slice none 0 0, .int .i64 0]) ?_ 0 _ rfl; (with_reducible repeat (first | refine zh ?_ _ | refine zj ?_ | refine zi ?_ _)); exact BK514.out) Try.underlying43 rfl (by kernel_rfl)) rfl ?_
    exact ⟨_, by first | rfl | (simp [errW_none, errW_some] <;> rfl) | (simp [*, errW_none, errW_some] <;> rfl), by (with_reducible repeat (first | apply zA | apply zB | apply zC)); exact zy (zI (p := ⟨gb514, 3, none⟩) (zI (p := ⟨gb514, 2, none⟩) (zI (p := ⟨gb514, 1, none⟩) (zI (p := ⟨gb514, 0, none⟩) (zy HO_514002.out (fun k_ hk => (⟨hk, hk.2.2⟩ : _ ∧ k_ ≠ gb514))) (fun _ hk => hk.2) (.int .u64 t515)) (fun _ hk => hk.2) (.int .u32 t516)) (fun _ hk => hk.2) (.slice Ao11 t517.length co11)) (fun _ hk => hk.2) (.int .i64 t520)) (fun _ hk => hk.1.1), by repeat (first | (with_reducible first | exact HB.out | apply ze | apply zd | apply zf | refine zk ?_ GE513.out | refine zk ?_ GE514.out) | exact HB.out)⟩
   ·
    replace c13 := Bool.eq_false_iff.mpr c13
    subst c13
    have H1 : ((coder_halves.f a1).bind fun bt521 => ((coder_Get.f t515 t516 t517 t520 bt521.1).bind fun bt523 => ((coder_Take.f kj3 t515 t516 t517 t520 bt523.1 (wrap64 (bt523.1 + 1)) bt521.1).bind fun bt525 => (if bt521.2 > 1 then ((coder_Get.f bt525.1 bt525.2.1 bt525.2.2.1 bt525.2.2.2.1 bt521.2).bind fun bt532 => ((coder_Take.f kj3 bt525.1 bt525.2.1 bt525.2.2.1 bt525.2.2.2.1 bt532.1 (wrap64 (bt532.1 + 1)) bt521.2).bind fun bt534 => (some (bt534.1, bt534.2.1, bt534.2.2.1, bt534.2.2.2.1, mn (IntKind.u64.wrap ((IntKind.u64.wrap ((IntKind.u64.wrap (bt523.1)) * (IntKind.u64.wrap (bt521.2)))) + (IntKind.u64.wrap (bt532.1)))) (IntKind.u64.wrap (a1 - 1)), 0)))) else (some (bt525.1, bt525.2.1, bt525.2.2.1, bt525.2.2.2.1, mn (IntKind.u64.wrap (bt523.1)) (IntKind.u64.wrap (a1 - 1)), 0)))))) = some (r1, r2, r3, r4, r5, r6) := by rw [if_neg (show ¬ (false = true) by decide)] at H; exact H
    clear H
    have H := H1
    clear H1
    replace H := Option.bind_eq_some_iff.mp H
    obtain ⟨⟨t521, t522⟩, A170, H⟩ := H
    replace H : ((coder_Get.f t515 t516 t517 t520 t521).bind fun bt523 => ((coder_Take.f kj3 t515 t516 t517 t520 bt523.1 (wrap64 (bt523.1 + 1)) t521).bind fun bt525 => (if t522 > 1 then ((coder_Get.f bt525.1 bt525.2.1 bt525.2.2.1 bt525.2.2.2.1 t522).bind fun bt532 => ((coder_Take.f kj3 bt525.1 bt525.2.1 bt525.2.2.1 bt525.2.2.2.1 bt532.1 (wrap64 (bt532.1 + 1)) t522).bind fun bt534 => (some (bt534.1, bt534.2.1, bt534.2.2.1, bt534.2.2.2.1, mn (IntKind.u64.wrap ((IntKind.u64.wrap ((IntKind.u64.wrap (bt523.1)) * (IntKind.u64.wrap (t522)))) + (IntKind.u64.wrap (bt532.1)))) (IntKind.u64.wrap (a1 - 1)), 0)))) else (some (bt525.1, bt525.2.1, bt525.2.2.1, bt525.2.2.2.1, mn (IntKind.u64.wrap (bt523.1)) (IntKind.u64.wrap (a1 - 1)), 0))))) = some (r1, r2, r3, r4, r5, r6) := H
    have A17 := zm A170
    clear A170
    replace H := Option.bind_eq_some_iff.mp H
    obtain ⟨⟨t523, t524⟩, A180, H⟩ := H
    replace H : ((coder_Take.f kj3 t515 t516 t517 t520 t523 (wrap64 (t523 + 1)) t521).bind fun bt525 => (if t522 > 1 then ((coder_Get.f bt525.1 bt525.2.1 bt525.2.2.1 bt525.2.2.2.1 t522).bind fun bt532 => ((coder_Take.f kj3 bt525.1 bt525.2.1 bt525.2.2.1 bt525.2.2.2.1 bt532.1 (wrap64 (bt532.1 + 1)) t522).bind fun bt534 => (some (bt534.1, bt534.2.1, bt534.2.2.1, bt534.2.2.2.1, mn (IntKind.u64.wrap ((IntKind.u64.wrap ((IntKind.u64.wrap (t523)) * (IntKind.u64.wrap (t522)))) + (IntKind.u64.wrap (bt532.1)))) (IntKind.u64.wrap (a1 - 1)), 0)))) else (some (bt525.1, bt525.2.1, bt525.2.2.1, bt525.2.2.2.1, mn (IntKind.u64.wrap (t523)) (IntKind.u64.wrap (a1 - 1)), 0)))) = some (r1, r2, r3, r4, r5, r6) := H
    have A18 := zm A180
    clear A180
    replace H := Option.bind_eq_some_iff.mp H
    obtain ⟨⟨t525, t526, t527, t530, t531⟩, A190, H⟩ := H
    replace H : (if t522 > 1 then ((coder_Get.f t525 t526 t527 t530 t522).bind fun bt532 => ((coder_Take.f kj3 t525 t526 t527 t530 bt532.1 (wrap64 (bt532.1 + 1)) t522).bind fun bt534 => (some (bt534.1, bt534.2.1, bt534.2.2.1, bt534.2.2.2.1, mn (IntKind.u64.wrap ((IntKind.u64.wrap ((IntKind.u64.wrap (t523)) * (IntKind.u64.wrap (t522)))) + (IntKind.u64.wrap (bt532.1)))) (IntKind.u64.wrap (a1 - 1)), 0)))) else (some (t525, t526, t527, t530, mn (IntKind.u64.wrap (t523)) (IntKind.u64.wrap (a1 - 1)), 0))) = some (r1, r2, r3, r4, r5, r6) := H
    have A19 := zm A190
    clear A190
    by_cases c20 : t522 > 1
    ·
     rw [if_pos c20] at H
     have c20b0 : decide (1 < t522) = true := decide_eq_true c20
     clear c20
     replace H := Option.bind_eq_some_iff.mp H
     obtain ⟨⟨t532, t533⟩, A210, H⟩ := H
     replace H : ((coder_Take.f kj3 t525 t526 t527 t530 t532 (wrap64 (t532 + 1)) t522).bind fun bt534 => (some (bt534.1, bt534.2.1, bt534.2.2.1, bt534.2.2.2.1, mn (IntKind.u64.wrap ((IntKind.u64.wrap ((IntKind.u64.wrap (t523)) * (IntKind.u64.wrap (t522)))) + (IntKind.u64.wrap (t532)))) (IntKind.u64.wrap (a1 - 1)), 0))) = some (r1, r2, r3, r4, r5, r6) := H
     have A21 := zm A210
     clear A210
     replace H := Option.bind_eq_some_iff.mp H
     obtain ⟨⟨t534, t535, t536, t539, t540⟩, A220, H⟩ := H
     replace H : (some (t534, t535, t536, t539, mn (IntKind.u64.wrap ((IntKind.u64.wrap ((IntKind.u64.wrap (t523)) * (IntKind.u64.wrap (t522)))) + (IntKind.u64.wrap (t532)))) (IntKind.u64.wrap (a1 - 1)), 0)) = some (r1, r2, r3, r4, r5, r6) := H
     have A22 := zm A220
     clear A220
     obtain ⟨ji23, hji23⟩ : ∃ j_ : Int, (mn (IntKind.u64.wrap ((IntKind.u64.wrap ((IntKind.u64.wrap (t523)) * (IntKind.u64.wrap (t522)))) + (IntKind.u64.wrap (t532)))) (IntKind.u64.wrap (a1 - 1))) = j_ := ⟨_, rfl⟩
     replace H : (some (t534, t535, t536, t539, ji23, 0)) = some (r1, r2, r3, r4, r5, r6) := by first | (rw [hji23] at H; exact H) | (simp only [hji23] at H ⊢; exact H)
     (try rw [hji23] at A17)
     (try rw [hji23] at A18)
     (try rw [hji23] at A19)
     (try rw [hji23] at A21)
     (try rw [hji23] at A22)
     have hji23_ : (if (IntKind.u64.wrap (a1 - 1)) < (IntKind.u64.wrap ((IntKind.u64.wrap ((IntKind.u64.wrap (t523)) * (IntKind.u64.wrap (t522)))) + (IntKind.u64.wrap (t532)))) then (IntKind.u64.wrap (a1 - 1)) else (IntKind.u64.wrap ((IntKind.u64.wrap ((IntKind.u64.wrap (t523)) * (IntKind.u64.wrap (t522)))) + (IntKind.u64.wrap (t532))))) = ji23 := hji23
     simp only [Option.some.injEq, Prod.mk.injEq] at H
     obtain ⟨rfl, rfl, rfl, rfl, rfl, rfl⟩ := H
     go_wp2_with (first | ((with_reducible refine gate_callee (f := 63) rfl ?_); refine goesL_ (some 25) rfl rfl Try.func63 (by kernel_rfl) rfl #[.int .u64 a1] rfl (by (try simp only [List.map_toArray, List.map_cons, List.map_nil]); first | done | rfl | (simp only [List.length_drop, List.length_take]; rfl)) ?_; (with_reducible refine (coder_halves.calls a1 t521 t522 _ A17.out).mono ?_); rintro e w' ⟨rfl, ⟨nd, rfl⟩⟩; refine ⟨_, rfl, ?_⟩; (try (rw [drewN_self wc]; generalize hq_ : World.drewN wc _ = wc; have n0_ : Aside0 (Kd.V (Kd.int .u8) 5 wc w.heap.size (fun k_ => (P0_2_ k_ ∨ w.heap.size ≤ k_) ∧ k_ ≠ gb513 ∧ k_ ≠ gb514) (.slice Ao11 t517.length co11) t517) := ⟨by rw [← hq_]; exact (by (with_reducible repeat (first | apply zA | apply zB | apply zC)); exact HO_514002.out)⟩; have n1_ : Aside0 (wc.heap[gb513]? = some (.cells #[.int .u64 t515, .int .u32 t516, .slice Ao11 t517.length co11, .int .i64 t520] 43 (0, 0))) := ⟨by rw [← hq_]; exact (by (with_reducible repeat (first | refine zh ?_ _ | refine zj ?_ | refine zi ?_ _)); exact BK513.out)⟩; have n2_ : Aside0 (wc.heap[gb514]? = some (.cells #[.int .u64 0, .int .u32 0, .slice none 0 0, .int .i64 0] 43 (0, 0))) := ⟨by rw [← hq_]; exact (by (with_reducible repeat (first | refine zh ?_ _ | refine zj ?_ | refine zi ?_ _)); exact BK514.out)⟩; have n3_ : Aside0 (Below w.heap.size w wc) := ⟨by rw [← hq_]; exact (by repeat (first | (with_reducible first | exact HB.out | apply ze | apply zd | apply zf | refine zk ?_ GE513.out | refine zk ?_ GE514.out) | exact HB.out))⟩; clear HO_514002 BK513 BK514 HB hq_; have HO_514002 := n0_; have BK513 := n1_; have BK514 := n2_; have HB := n3_; clear n0_ n1_ n2_ n3_)); have hnb24 := NB513_514.out; have hnc24 := NB514_513.out; have hcz25_0 : wc.cell? ⟨gb513, 0, none⟩ = some (.int .u64 t515) := (zs BK513.out 0).trans rfl; have hcz25_1 : wc.cell? ⟨gb513, 1, none⟩ = some (.int .u32 t516) := (zs BK513.out 1).trans rfl; have hcz25_2 : wc.cell? ⟨gb513, 2, none⟩ = some (.slice Ao11 t517.length co11) := (zs BK513.out 2).trans rfl; have hcz25_3 : wc.cell? ⟨gb513, 3, none⟩ = some (.int .i64 t520) := (zs BK513.out 3).trans rfl; have hfz25_0 := zx BK513.out 0; have hfz25_1 := zx BK513.out 1; have hfz25_2 := zx BK513.out 2; have hfz25_3 := zx BK513.out 3) | ((with_reducible refine gate_callee (f := 32) rfl ?_); refine goesL_ (some 31) rfl rfl Try.func32 (by kernel_rfl) rfl #[.agg #[.int .u64 t515, .int .u32 t516, .slice Ao11 t517.length co11, .int .i64 t520], .int .i64 t521] rfl (by (try simp only [List.map_toArray, List.map_cons, List.map_nil]); first | done | rfl | (simp only [List.length_drop, List.length_take]; rfl)) ?_; (with_reducible refine (coder_Get.calls t515 t516 _ _ t517 t520 t521 t523 t524 _ ?side1 ?side2 A18.out).mono ?_); (case side1 => repeat (first | exact (Kd.V_reads' HO_514002.out).2.2 | (with_reducible refine Kd.C_alloc ?_ _) | (with_reducible refine Kd.C_drewN ?_ _) | (with_reducible refine Kd.C_drew ?_))); (case side2 => exact (Kd.V_reads' HO_514002.out).2.1); rintro e w26 ⟨rfl, hb⟩; refine ⟨_, rfl, ?_⟩; have n0_ := zm (Kd.V_below (by (with_reducible repeat (first | apply zA | apply zB | apply zC)); exact HO_514002.out) hb); have n1_ := zm (zF (g := gb513) (o := .cells #[.int .u64 t515, .int .u32 t516, .slice Ao11 t517.length co11, .int .i64 t520] 43 (0, 0)) (by (with_reducible repeat (first | refine zh ?_ _ | refine zj ?_ | refine zi ?_ _)); exact BK513.out) hb); have n2_ := zm (zF (g := gb514) (o := .cells #[.int .u64 0, .int .u32 0, .slice none 0 0, .int .i64 0] 43 (0, 0)) (by (with_reducible repeat (first | refine zh ?_ _ | refine zj ?_ | refine zi ?_ _)); exact BK514.out) hb); have n3_ := zm (zJ (by repeat (first | (with_reducible first | exact HB.out | apply ze | apply zd | apply zf | refine zk ?_ GE513.out | refine zk ?_ GE514.out) | exact HB.out)) hb); clear HO_514002; clear BK513; clear BK514; clear HB; have HO_514002 := n0_; have BK513 := n1_; have BK514 := n2_; have HB := n3_; clear n0_ n1_ n2_ n3_; (try clear hb); (try clear hb2); (try clear hk); (try clear hi); have hcz27_0 : w26.cell? ⟨gb513, 0, none⟩ = some (.int .u64 t515) := (zs BK513.out 0).trans rfl; have hcz27_1 : w26.cell? ⟨gb513, 1, none⟩ = some (.int .u32 t516) := (zs BK513.out 1).trans rfl; have hcz27_2 : w26.cell? ⟨gb513, 2, none⟩ = some (.slice Ao11 t517.length co11) := (zs BK513.out 2).trans rfl; have hcz27_3 : w26.cell? ⟨gb513, 3, none⟩ = some (.int .i64 t520) := (zs BK513.out 3).trans rfl; have hfz27_0 := zx BK513.out 0; have hfz27_1 := zx BK513.out 1; have hfz27_2 := zx BK513.out 2; have hfz27_3 := zx BK513.out 3) | ((with_reducible refine gate_callee (f := 34) rfl ?_); refine goesL_ (some 40) rfl rfl Try.func34 (by kernel_rfl) rfl #[.agg #[.int .u64 t515, .int .u32 t516, .slice Ao11 t517.length co11, .int .i64 t520], .int .i64 t523, .int .i64 (wrap64 (t523 + 1)), .int .i64 t521] rfl (by (try simp only [List.map_toArray, List.map_cons, List.map_nil]); first | done | rfl | (simp only [List.length_drop, List.length_take]; rfl)) ?_; (with_reducible refine (coder_Take.calls kj3 t515 t516 (fun k_ => ((P0_2_ k_ ∨ w.heap.size ≤ k_) ∧ (k_ ≠ gb513 ∧ k_ ≠ gb514))) _ _ t517 t520 t523 (wrap64 (t523 + 1)) t521 t525 t526 t527 t530 t531 _ ?side1 A19.out).mono ?_); (case side1 => exact HO_514002.out); rintro e w28 ⟨v528, rfl, ho0, hb⟩; refine ⟨_, rfl, ?_⟩; have n0_ := zm (Kd.V_below (by (with_reducible repeat (first | apply zA | apply zB | apply zC)); exact HO_514002.out) hb); have n1_ := zm (Kd.V_lower (zy (ok' := fun k_ => (P0_2_ k_ ∨ w.heap.size ≤ k_) ∧ k_ ≠ gb513 ∧ k_ ≠ gb514) ho0 (fun k_ hk_ => ⟨Or.elim hk_ (fun hs_ => hs_.1) (fun hn_ => (.inr (Nat.le_trans (zE (by repeat (first | (with_reducible first | exact HB.out | apply ze | apply zd | apply zf | refine zk ?_ GE513.out | refine zk ?_ GE514.out) | exact HB.out))) hn_))), Or.elim hk_ (fun hs_ => hs_.2.1) (fun hn_ => (Kd.freshB (g := gb513) (o := .cells #[.int .u64 t515, .int .u32 t516, .slice Ao11 t517.length co11, .int .i64 t520] 43 (0, 0)) (by (with_reducible repeat (first | refine zh ?_ _ | refine zj ?_ | refine zi ?_ _)); exact BK513.out) k_ hn_)), Or.elim hk_ (fun hs_ => hs_.2.2) (fun hn_ => (Kd.freshB (g := gb514) (o := .cells #[.int .u64 0, .int .u32 0, .slice none 0 0, .int .i64 0] 43 (0, 0)) (by (with_reducible repeat (first | refine zh ?_ _ | refine zj ?_ | refine zi ?_ _)); exact BK514.out) k_ hn_))⟩)) (zE (by repeat (first | (with_reducible first | exact HB.out | apply ze | apply zd | apply zf | refine zk ?_ GE513.out | refine zk ?_ GE514.out) | exact HB.out)))); have n2_ := zm (zF (g := gb513) (o := .cells #[.int .u64 t515, .int .u32 t516, .slice Ao11 t517.length co11, .int .i64 t520] 43 (0, 0)) (by (with_reducible repeat (first | refine zh ?_ _ | refine zj ?_ | refine zi ?_ _)); exact BK513.out) hb); have n3_ := zm (zF (g := gb514) (o := .cells #[.int .u64 0, .int .u32 0, .slice none 0 0, .int .i64 0] 43 (0, 0)) (by (with_reducible repeat (first | refine zh ?_ _ | refine zj ?_ | refine zi ?_ _)); exact BK514.out) hb); have n4_ := zm (zJ (by repeat (first | (with_reducible first | exact HB.out | apply ze | apply zd | apply zf | refine zk ?_ GE513.out | refine zk ?_ GE514.out) | exact HB.out)) hb); clear HO_514002; clear BK513; clear BK514; clear HB; have HO_514002 := n0_; have HO529 := n1_; have BK513 := n2_; have BK514 := n3_; have HB := n4_; clear n0_ n1_ n2_ n3_ n4_; (try clear hb); (try clear hb2); (try clear hk); (try clear hi); (try clear ho0); have hcz29_0 : w28.cell? ⟨gb513, 0, none⟩ = some (.int .u64 t515) := (zs BK513.out 0).trans rfl; have hcz29_1 : w28.cell? ⟨gb513, 1, none⟩ = some (.int .u32 t516) := (zs BK513.out 1).trans rfl; have hcz29_2 : w28.cell? ⟨gb513, 2, none⟩ = some (.slice Ao11 t517.length co11) := (zs BK513.out 2).trans rfl; have hcz29_3 : w28.cell? ⟨gb513, 3, none⟩ = some (.int .i64 t520) := (zs BK513.out 3).trans rfl; have hfz29_0 := zx BK513.out 0; have hfz29_1 := zx BK513.out 1; have hfz29_2 := zx BK513.out 2; have hfz29_3 := zx BK513.out 3; obtain ⟨Ao30, co30, eo30⟩ := Kd.V_slice HO529.out; subst eo30) | ((with_reducible refine gate_callee (f := 32) rfl ?_); refine goesL_ (some 50) rfl rfl Try.func32 (by kernel_rfl) rfl #[.agg #[.int .u64 t525, .int .u32 t526, .slice Ao30 t527.length co30, .int .i64 t530], .int .i64 t522] rfl (by (try simp only [List.map_toArray, List.map_cons, List.map_nil]); first | done | rfl | (simp only [List.length_drop, List.length_take]; rfl)) ?_; (with_reducible refine (coder_Get.calls t525 t526 _ _ t527 t530 t522 t532 t533 _ ?side1 ?side2 A21.out).mono ?_); (case side1 => refine (Kd.V_reads' (e := 5) (base := w.heap.size) (ok := fun k_ => ((P0_2_ k_ ∨ w.heap.size ≤ k_) ∧ (k_ ≠ gb513 ∧ k_ ≠ gb514))) (n := t527.length) (c := co30) ?_).2.2; exact (by (with_reducible repeat (first | apply zA | apply zB | apply zC)); exact (zy (zI (p := ⟨gb513, 3, none⟩) (zI (p := ⟨gb513, 2, none⟩) (zI (p := ⟨gb513, 1, none⟩) (zI (p := ⟨gb513, 0, none⟩) (zy HO529.out (fun k_ hk => (⟨hk, hk.2.1⟩ : _ ∧ k_ ≠ gb513))) (fun _ hk => hk.2) (.int .u64 t525)) (fun _ hk => hk.2) (.int .u32 t526)) (fun _ hk => hk.2) (.slice Ao30 t527.length co30)) (fun _ hk => hk.2) (.int .i64 t530)) (fun _ h_ => h_.1)))); (case side2 => exact (Kd.V_reads' HO529.out).2.1); rintro e w31 ⟨rfl, hb⟩; refine ⟨_, rfl, ?_⟩; have n0_ := zm (Kd.V_below (by (with_reducible repeat (first | apply zA | apply zB | apply zC)); exact (zy (zI (p := ⟨gb513, 3, none⟩) (zI (p := ⟨gb513, 2, none⟩) (zI (p := ⟨gb513, 1, none⟩) (zI (p := ⟨gb513, 0, none⟩) (zy HO_514002.out (fun k_ hk => (⟨hk, hk.2.1⟩ : _ ∧ k_ ≠ gb513))) (fun _ hk => hk.2) (.int .u64 t525)) (fun _ hk => hk.2) (.int .u32 t526)) (fun _ hk => hk.2) (.slice Ao30 t527.length co30)) (fun _ hk => hk.2) (.int .i64 t530)) (fun _ h_ => h_.1))) hb); have n1_ := zm (Kd.V_below (by (with_reducible repeat (first | apply zA | apply zB | apply zC)); exact (zy (zI (p := ⟨gb513, 3, none⟩) (zI (p := ⟨gb513, 2, none⟩) (zI (p := ⟨gb513, 1, none⟩) (zI (p := ⟨gb513, 0, none⟩) (zy HO529.out (fun k_ hk => (⟨hk, hk.2.1⟩ : _ ∧ k_ ≠ gb513))) (fun _ hk => hk.2) (.int .u64 t525)) (fun _ hk => hk.2) (.int .u32 t526)) (fun _ hk => hk.2) (.slice Ao30 t527.length co30)) (fun _ hk => hk.2) (.int .i64 t530)) (fun _ h_ => h_.1))) hb); have n2_ := zm (zF (g := gb513) (o := .cells #[.int .u64 t525, .int .u32 t526, .slice Ao30 t527.length co30, .int .i64 t530] 43 (0, 0)) (by (with_reducible repeat (first | refine zh ?_ _ | refine zj ?_ | refine zi ?_ _)); refine zw (cs := #[.int .u64 t525, .int .u32 t526, .slice Ao30 t527.length co30, .int .i64 t520]) ?_ 3 _ rfl; (with_reducible repeat (first | refine zh ?_ _ | refine zj ?_ | refine zi ?_ _)); refine zw (cs := #[.int .u64 t525, .int .u32 t526, .slice Ao11 t517.length co11, .int .i64 t520]) ?_ 2 _ rfl; (with_reducible repeat (first | refine zh ?_ _ | refine zj ?_ | refine zi ?_ _)); refine zw (cs := #[.int .u64 t525, .int .u32 t516, .slice Ao11 t517.length co11, .int .i64 t520]) ?_ 1 _ rfl; (with_reducible repeat (first | refine zh ?_ _ | refine zj ?_ | refine zi ?_ _)); refine zw (cs := #[.int .u64 t515, .int .u32 t516, .slice Ao11 t517.length co11, .int .i64 t520]) ?_ 0 _ rfl; (with_reducible repeat (first | refine zh ?_ _ | refine zj ?_ | refine zi ?_ _)); exact BK513.out) hb); have n3_ := zm (zF (g := gb514) (o := .cells #[.int .u64 0, .int .u32 0, .slice none 0 0, .int .i64 0] 43 (0, 0)) (by (with_reducible repeat (first | refine zh ?_ _ | refine zj ?_ | refine zi ?_ _)); refine zv ?_ NB514_513.out _; (with_reducible repeat (first | refine zh ?_ _ | refine zj ?_ | refine zi ?_ _)); refine zv ?_ NB514_513.out _; (with_reducible repeat (first | refine zh ?_ _ | refine zj ?_ | refine zi ?_ _)); refine zv ?_ NB514_513.out _; (with_reducible repeat (first | refine zh ?_ _ | refine zj ?_ | refine zi ?_ _)); refine zv ?_ NB514_513.out _; (with_reducible repeat (first | refine zh ?_ _ | refine zj ?_ | refine zi ?_ _)); exact BK514.out) hb); have n4_ := zm (zJ (by repeat (first | (with_reducible first | exact HB.out | apply ze | apply zd | apply zf | refine zk ?_ GE513.out | refine zk ?_ GE514.out) | exact HB.out)) hb); clear HO_514002; clear HO529; clear BK513; clear BK514; clear HB; have HO_514002 := n0_; have HO529 := n1_; have BK513 := n2_; have BK514 := n3_; have HB := n4_; clear n0_ n1_ n2_ n3_ n4_; (try clear hb); (try clear hb2); (try clear hk); (try clear hi); have hcz32_0 : w31.cell? ⟨gb513, 0, none⟩ = some (.int .u64 t525) := (zs BK513.out 0).trans rfl; have hcz32_1 : w31.cell? ⟨gb513, 1, none⟩ = some (.int .u32 t526) := (zs BK513.out 1).trans rfl; have hcz32_2 : w31.cell? ⟨gb513, 2, none⟩ = some (.slice Ao30 t527.length co30) := (zs BK513.out 2).trans rfl; have hcz32_3 : w31.cell? ⟨gb513, 3, none⟩ = some (.int .i64 t530) := (zs BK513.out 3).trans rfl; have hfz32_0 := zx BK513.out 0; have hfz32_1 := zx BK513.out 1; have hfz32_2 := zx BK513.out 2; have hfz32_3 := zx BK513.out 3) | ((with_reducible refine gate_callee (f := 34) rfl ?_); refine goesL_ (some 59) rfl rfl Try.func34 (by kernel_rfl) rfl #[.agg #[.int .u64 t525, .int .u32 t526, .slice Ao30 t527.length co30, .int .i64 t530], .int .i64 t532, .int .i64 (wrap64 (t532 + 1)), .int .i64 t522] rfl (by (try simp only [List.map_toArray, List.map_cons, List.map_nil]); first | done | rfl | (simp only [List.length_drop, List.length_take]; rfl)) ?_; (with_reducible refine (coder_Take.calls kj3 t525 t526 (fun k_ => ((P0_2_ k_ ∨ w.heap.size ≤ k_) ∧ (k_ ≠ gb513 ∧ k_ ≠ gb514))) _ _ t527 t530 t532 (wrap64 (t532 + 1)) t522 t534 t535 t536 t539 t540 _ ?side1 A22.out).mono ?_); (case side1 => exact HO529.out); rintro e w33 ⟨v537, rfl, ho0, hb⟩; refine ⟨_, rfl, ?_⟩; have n0_ := zm (Kd.V_below (by (with_reducible repeat (first | apply zA | apply zB | apply zC)); exact HO_514002.out) hb); have n1_ := zm (Kd.V_below (by (with_reducible repeat (first | apply zA | apply zB | apply zC)); exact HO529.out) hb); have n2_ := zm (Kd.V_lower (zy (ok' := fun k_ => (P0_2_ k_ ∨ w.heap.size ≤ k_) ∧ k_ ≠ gb513 ∧ k_ ≠ gb514) ho0 (fun k_ hk_ => ⟨Or.elim hk_ (fun hs_ => hs_.1) (fun hn_ => (.inr (Nat.le_trans (zE (by repeat (first | (with_reducible first | exact HB.out | apply ze | apply zd | apply zf | refine zk ?_ GE513.out | refine zk ?_ GE514.out) | exact HB.out))) hn_))), Or.elim hk_ (fun hs_ => hs_.2.1) (fun hn_ => (Kd.freshB (g := gb513) (o := .cells #[.int .u64 t525, .int .u32 t526, .slice Ao30 t527.length co30, .int .i64 t530] 43 (0, 0)) (by (with_reducible repeat (first | refine zh ?_ _ | refine zj ?_ | refine zi ?_ _)); exact BK513.out) k_ hn_)), Or.elim hk_ (fun hs_ => hs_.2.2) (fun hn_ => (Kd.freshB (g := gb514) (o := .cells #[.int .u64 0, .int .u32 0, .slice none 0 0, .int .i64 0] 43 (0, 0)) (by (with_reducible repeat (first | refine zh ?_ _ | refine zj ?_ | refine zi ?_ _)); exact BK514.out) k_ hn_))⟩)) (zE (by repeat (first | (with_reducible first | exact HB.out | apply ze | apply zd | apply zf | refine zk ?_ GE513.out | refine zk ?_ GE514.out) | exact HB.out)))); have n3_ := zm (zF (g := gb513) (o := .cells #[.int .u64 t525, .int .u32 t526, .slice Ao30 t527.length co30, .int .i64 t530] 43 (0, 0)) (by (with_reducible repeat (first | refine zh ?_ _ | refine zj ?_ | refine zi ?_ _)); exact BK513.out) hb); have n4_ := zm (zF (g := gb514) (o := .cells #[.int .u64 0, .int .u32 0, .slice none 0 0, .int .i64 0] 43 (0, 0)) (by (with_reducible repeat (first | refine zh ?_ _ | refine zj ?_ | refine zi ?_ _)); exact BK514.out) hb); have n5_ := zm (zJ (by repeat (first | (with_reducible first | exact HB.out | apply ze | apply zd | apply zf | refine zk ?_ GE513.out | refine zk ?_ GE514.out) | exact HB.out)) hb); clear HO_514002; clear HO529; clear BK513; clear BK514; clear HB; have HO_514002 := n0_; have HO529 := n1_; have HO538 := n2_; have BK513 := n3_; have BK514 := n4_; have HB := n5_; clear n0_ n1_ n2_ n3_ n4_ n5_; (try clear hb); (try clear hb2); (try clear hk); (try clear hi); (try clear ho0); have hcz34_0 : w33.cell? ⟨gb513, 0, none⟩ = some (.int .u64 t525) := (zs BK513.out 0).trans rfl; have hcz34_1 : w33.cell? ⟨gb513, 1, none⟩ = some (.int .u32 t526) := (zs BK513.out 1).trans rfl; have hcz34_2 : w33.cell? ⟨gb513, 2, none⟩ = some (.slice Ao30 t527.length co30) := (zs BK513.out 2).trans rfl; have hcz34_3 : w33.cell? ⟨gb513, 3, none⟩ = some (.int .i64 t530) := (zs BK513.out 3).trans rfl; have hfz34_0 := zx BK513.out 0; have hfz34_1 := zx BK513.out 1; have hfz34_2 := zx BK513.out 2; have hfz34_3 := zx BK513.out 3; obtain ⟨Ao35, co35, eo35⟩ := Kd.V_slice HO538.out; subst eo35; have hcz36_0 : w33.cell? ⟨gb514, 0, none⟩ = some (.int .u64 0) := (zs BK514.out 0).trans rfl; have hcz36_1 : w33.cell? ⟨gb514, 1, none⟩ = some (.int .u32 0) := (zs BK514.out 1).trans rfl; have hcz36_2 : w33.cell? ⟨gb514, 2, none⟩ = some (.slice none 0 0) := (zs BK514.out 2).trans rfl; have hcz36_3 : w33.cell? ⟨gb514, 3, none⟩ = some (.int .i64 0) := (zs BK514.out 3).trans rfl; have hfz36_0 := zx BK514.out 0; have hfz36_1 := zx BK514.out 1; have hfz36_2 := zx BK514.out 2; have hfz36_3 := zx BK514.out 3))
     refine bodyPost_ret (results_ctt rfl _ _ gb514 43 #[.int .u64 t534, .int .u32 t535, .slice Ao35 t536.length co35, .int .i64 t539] (0, 0) _ rfl (by (with_reducible repeat (first | refine zh ?_ _ | refine zj ?_ | refine zi ?_ _)); refine zw (cs := #[.int .u64 t534, .int .u32 t535, .slice Ao35 t536.length co35, .int .i64 0]) ?_ 3 _ rfl; (with_reducible repeat (first | refine zh ?_ _ | refine zj ?_ | refine zi ?_ _)); refine zw (cs := #[.int .u64 t534, .int .u32 t535, .slice none 0 0, .int .i64 0]) ?_ 2 _ rfl; (with_reducible repeat (first | refine zh ?_ _ | refine zj ?_ | refine zi ?_ _)); refine zw (cs := #[.int .u64 t534, .int .u32 0, .slice none 0 0, .int .i64 0]) ?_ 1 _ rfl; (with_reducible repeat (first | refine zh ?_ _ | refine zj ?_ | refine zi ?_ _)); refine zw (cs := #[.int .u64 0, .int .u32 0, .slice none 0 0, .int .i64 0]) ?_ 0 _ rfl; (with_reducible repeat (first | refine zh ?_ _ | refine zj ?_ | refine zi ?_ _)); refine zv ?_ NB514_513.out _; (with_reducible repeat (first | refine zh ?_ _ | refine zj ?_ | refine zi ?_ _)); refine zv ?_ NB514_513.out _; (with_reducible repeat (first | refine zh ?_ _ | refine zj ?_ | refine zi ?_ _)); refine zv ?_ NB514_513.out _; (with_reducible repeat (first | refine zh ?_ _ | refine zj ?_ | refine zi ?_ _)); refine zv ?_ NB514_513.out _; (with_reducible repeat (first | refine zh ?_ _ | refine zj ?_ | refine zi ?_ _)); exact BK514.out) Try.underlying43 rfl (by kernel_rfl)) rfl ?_
     exact ⟨_, by first | rfl | (simp [errW_none, errW_some] <;> rfl) | (simp only [← hji23]; first | rfl | (simp [errW_none, errW_some] <;> rfl)) | (simp [*, errW_none, errW_some] <;> rfl), by (with_reducible repeat (first | apply zA | apply zB | apply zC)); exact zy (zI (p := ⟨gb514, 3, none⟩) (zI (p := ⟨gb514, 2, none⟩) (zI (p := ⟨gb514, 1, none⟩) (zI (p := ⟨gb514, 0, none⟩) (zI (p := ⟨gb513, 3, none⟩) (zI (p := ⟨gb513, 2, none⟩) (zI (p := ⟨gb513, 1, none⟩) (zI (p := ⟨gb513, 0, none⟩) (zy (zy HO538.out (fun k_ hk => (⟨hk, hk.2.1⟩ : _ ∧ k_ ≠ gb513))) (fun k_ hk => (⟨hk, hk.1.2.2⟩ : _ ∧ k_ ≠ gb514))) (fun _ hk => hk.1.2) (.int .u64 t534)) (fun _ hk => hk.1.2) (.int .u32 t535)) (fun _ hk => hk.1.2) (.slice Ao35 t536.length co35)) (fun _ hk => hk.1.2) (.int .i64 t539)) (fun _ hk => hk.2) (.int .u64 t534)) (fun _ hk => hk.2) (.int .u32 t535)) (fun _ hk => hk.2) (.slice Ao35 t536.length co35)) (fun _ hk => hk.2) (.int .i64 t539)) (fun _ hk => hk.1.1.1), by repeat (first | (with_reducible first | exact HB.out | apply ze | apply zd | apply zf | refine zk ?_ GE513.out | refine zk ?_ GE514.out) | exact HB.out)⟩
    ·
     rw [if_neg c20] at H
     have c20b0 : decide (1 < t522) = false := decide_eq_false c20
     clear c20
     obtain ⟨ji37, hji37⟩ : ∃ j_ : Int, (mn (IntKind.u64.wrap (t523)) (IntKind.u64.wrap (a1 - 1))) = j_ := ⟨_, rfl⟩
     replace H : (some (t525, t526, t527, t530, ji37, 0)) = some (r1, r2, r3, r4, r5, r6) := by first | (rw [hji37] at H; exact H) | (simp only [hji37] at H ⊢; exact H)
     (try rw [hji37] at A17)
     (try rw [hji37] at A18)
     (try rw [hji37] at A19)
     have hji37_ : (if (IntKind.u64.wrap (a1 - 1)) < (IntKind.u64.wrap (t523)) then (IntKind.u64.wrap (a1 - 1)) else (IntKind.u64.wrap (t523))) = ji37 := hji37
     simp only [Option.some.injEq, Prod.mk.injEq] at H
     obtain ⟨rfl, rfl, rfl, rfl, rfl, rfl⟩ := H
     go_wp2_with (first | ((with_reducible refine gate_callee (f := 63) rfl ?_); refine goesL_ (some 25) rfl rfl Try.func63 (by kernel_rfl) rfl #[.int .u64 a1] rfl (by (try simp only [List.map_toArray, List.map_cons, List.map_nil]); first | done | rfl | (simp only [List.length_drop, List.length_take]; rfl)) ?_; (with_reducible refine (coder_halves.calls a1 t521 t522 _ A17.out).mono ?_); rintro e w' ⟨rfl, ⟨nd, rfl⟩⟩; refine ⟨_, rfl, ?_⟩; (try (rw [drewN_self wc]; generalize hq_ : World.drewN wc _ = wc; have n0_ : Aside0 (Kd.V (Kd.int .u8) 5 wc w.heap.size (fun k_ => (P0_2_ k_ ∨ w.heap.size ≤ k_) ∧ k_ ≠ gb513 ∧ k_ ≠ gb514) (.slice Ao11 t517.length co11) t517) := ⟨by rw [← hq_]; exact (by (with_reducible repeat (first | apply zA | apply zB | apply zC)); exact HO_514002.out)⟩; have n1_ : Aside0 (wc.heap[gb513]? = some (.cells #[.int .u64 t515, .int .u32 t516, .slice Ao11 t517.length co11, .int .i64 t520] 43 (0, 0))) := ⟨by rw [← hq_]; exact (by (with_reducible repeat (first | refine zh ?_ _ | refine zj ?_ | refine zi ?_ _)); exact BK513.out)⟩; have n2_ : Aside0 (wc.heap[gb514]? = some (.cells #[.int .u64 0, .int .u32 0, .slice none 0 0, .int .i64 0] 43 (0, 0))) := ⟨by rw [← hq_]; exact (by (with_reducible repeat (first | refine zh ?_ _ | refine zj ?_ | refine zi ?_ _)); exact BK514.out)⟩; have n3_ : Aside0 (Below w.heap.size w wc) := ⟨by rw [← hq_]; exact (by repeat (first | (with_reducible first | exact HB.out | apply ze | apply zd | apply zf | refine zk ?_ GE513.out | refine zk ?_ GE514.out) | exact HB.out))⟩; clear HO_514002 BK513 BK514 HB hq_; have HO_514002 := n0_; have BK513 := n1_; have BK514 := n2_; have HB := n3_; clear n0_ n1_ n2_ n3_)); have hnb38 := NB513_514.out; have hnc38 := NB514_513.out; have hcz39_0 : wc.cell? ⟨gb513, 0, none⟩ = some (.int .u64 t515) := (zs BK513.out 0).trans rfl; have hcz39_1 : wc.cell? ⟨gb513, 1, none⟩ = some (.int .u32 t516) := (zs BK513.out 1).trans rfl; have hcz39_2 : wc.cell? ⟨gb513, 2, none⟩ = some (.slice Ao11 t517.length co11) := (zs BK513.out 2).trans rfl; have hcz39_3 : wc.cell? ⟨gb513, 3, none⟩ = some (.int .i64 t520) := (zs BK513.out 3).trans rfl; have hfz39_0 := zx BK513.out 0; have hfz39_1 := zx BK513.out 1; have hfz39_2 := zx BK513.out 2; have hfz39_3 := zx BK513.out 3) | ((with_reducible refine gate_callee (f := 32) rfl ?_); refine goesL_ (some 31) rfl rfl Try.func32 (by kernel_rfl) rfl #[.agg #[.int .u64 t515, .int .u32 t516, .slice Ao11 t517.length co11, .int .i64 t520], .int .i64 t521] rfl (by (try simp only [List.map_toArray, List.map_cons, List.map_nil]); first | done | rfl | (simp only [List.length_drop, List.length_take]; rfl)) ?_; (with_reducible refine (coder_Get.calls t515 t516 _ _ t517 t520 t521 t523 t524 _ ?side1 ?side2 A18.out).mono ?_); (case side1 => repeat (first | exact (Kd.V_reads' HO_514002.out).2.2 | (with_reducible refine Kd.C_alloc ?_ _) | (with_reducible refine Kd.C_drewN ?_ _) | (with_reducible refine Kd.C_drew ?_))); (case side2 => exact (Kd.V_reads' HO_514002.out).2.1); rintro e w40 ⟨rfl, hb⟩; refine ⟨_, rfl, ?_⟩; have n0_ := zm (Kd.V_below (by (with_reducible repeat (first | apply zA | apply zB | apply zC)); exact HO_514002.out) hb); have n1_ := zm (zF (g := gb513) (o := .cells #[.int .u64 t515, .int .u32 t516, .slice Ao11 t517.length co11, .int .i64 t520] 43 (0, 0)) (by (with_reducible repeat (first | refine zh ?_ _ | refine zj ?_ | refine zi ?_ _)); exact BK513.out) hb); have n2_ := zm (zF (g := gb514) (o := .cells #[.int .u64 0, .int .u32 0, .slice none 0 0, .int .i64 0] 43 (0, 0)) (by (with_reducible repeat (first | refine zh ?_ _ | refine zj ?_ | refine zi ?_ _)); exact BK514.out) hb); have n3_ := zm (zJ (by repeat (first | (with_reducible first | exact HB.out | apply ze | apply zd | apply zf | refine zk ?_ GE513.out | refine zk ?_ GE514.out) | exact HB.out)) hb); clear HO_514002; clear BK513; clear BK514; clear HB; have HO_514002 := n0_; have BK513 := n1_; have BK514 := n2_; have HB := n3_; clear n0_ n1_ n2_ n3_; (try clear hb); (try clear hb2); (try clear hk); (try clear hi); have hcz41_0 : w40.cell? ⟨gb513, 0, none⟩ = some (.int .u64 t515) := (zs BK513.out 0).trans rfl; have hcz41_1 : w40.cell? ⟨gb513, 1, none⟩ = some (.int .u32 t516) := (zs BK513.out 1).trans rfl; have hcz41_2 : w40.cell? ⟨gb513, 2, none⟩ = some (.slice Ao11 t517.length co11) := (zs BK513.out 2).trans rfl; have hcz41_3 : w40.cell? ⟨gb513, 3, none⟩ = some (.int .i64 t520) := (zs BK513.out 3).trans rfl; have hfz41_0 := zx BK513.out 0; have hfz41_1 := zx BK513.out 1; have hfz41_2 := zx BK513.out 2; have hfz41_3 := zx BK513.out 3) | ((with_reducible refine gate_callee (f := 34) rfl ?_); refine goesL_ (some 40) rfl rfl Try.func34 (by kernel_rfl) rfl #[.agg #[.int .u64 t515, .int .u32 t516, .slice Ao11 t517.length co11, .int .i64 t520], .int .i64 t523, .int .i64 (wrap64 (t523 + 1)), .int .i64 t521] rfl (by (try simp only [List.map_toArray, List.map_cons, List.map_nil]); first | done | rfl | (simp only [List.length_drop, List.length_take]; rfl)) ?_; (with_reducible refine (coder_Take.calls kj3 t515 t516 (fun k_ => ((P0_2_ k_ ∨ w.heap.size ≤ k_) ∧ (k_ ≠ gb513 ∧ k_ ≠ gb514))) _ _ t517 t520 t523 (wrap64 (t523 + 1)) t521 t525 t526 t527 t530 t531 _ ?side1 A19.out).mono ?_); (case side1 => exact HO_514002.out); rintro e w42 ⟨v528, rfl, ho0, hb⟩; refine ⟨_, rfl, ?_⟩; have n0_ := zm (Kd.V_below (by (with_reducible repeat (first | apply zA | apply zB | apply zC)); exact HO_514002.out) hb); have n1_ := zm (Kd.V_lower (zy (ok' := fun k_ => (P0_2_ k_ ∨ w.heap.size ≤ k_) ∧ k_ ≠ gb513 ∧ k_ ≠ gb514) ho0 (fun k_ hk_ => ⟨Or.elim hk_ (fun hs_ => hs_.1) (fun hn_ => (.inr (Nat.le_trans (zE (by repeat (first | (with_reducible first | exact HB.out | apply ze | apply zd | apply zf | refine zk ?_ GE513.out | refine zk ?_ GE514.out) | exact HB.out))) hn_))), Or.elim hk_ (fun hs_ => hs_.2.1) (fun hn_ => (Kd.freshB (g := gb513) (o := .cells #[.int .u64 t515, .int .u32 t516, .slice Ao11 t517.length co11, .int .i64 t520] 43 (0, 0)) (by (with_reducible repeat (first | refine zh ?_ _ | refine zj ?_ | refine zi ?_ _)); exact BK513.out) k_ hn_)), Or.elim hk_ (fun hs_ => hs_.2.2) (fun hn_ => (Kd.freshB (g := gb514) (o := .cells #[.int .u64 0, .int .u32 0, .slice none 0 0, .int .i64 0] 43 (0, 0)) (by (with_reducible repeat (first | refine zh ?_ _ | refine zj ?_ | refine zi ?_ _)); exact BK514.out) k_ hn_))⟩)) (zE (by repeat (first | (with_reducible first | exact HB.out | apply ze | apply zd | apply zf | refine zk ?_ GE513.out | refine zk ?_ GE514.out) | exact HB.out)))); have n2_ := zm (zF (g := gb513) (o := .cells #[.int .u64 t515, .int .u32 t516, .slice Ao11 t517.length co11, .int .i64 t520] 43 (0, 0)) (by (with_reducible repeat (first | refine zh ?_ _ | refine zj ?_ | refine zi ?_ _)); exact BK513.out) hb); have n3_ := zm (zF (g := gb514) (o := .cells #[.int .u64 0, .int .u32 0, .slice none 0 0, .int .i64 0] 43 (0, 0)) (by (with_reducible repeat (first | refine zh ?_ _ | refine zj ?_ | refine zi ?_ _)); exact BK514.out) hb); have n4_ := zm (zJ (by repeat (first | (with_reducible first | exact HB.out | apply ze | apply zd | apply zf | refine zk ?_ GE513.out | refine zk ?_ GE514.out) | exact HB.out)) hb); clear HO_514002; clear BK513; clear BK514; clear HB; have HO_514002 := n0_; have HO529 := n1_; have BK513 := n2_; have BK514 := n3_; have HB := n4_; clear n0_ n1_ n2_ n3_ n4_; (try clear hb); (try clear hb2); (try clear hk); (try clear hi); (try clear ho0); have hcz43_0 : w42.cell? ⟨gb513, 0, none⟩ = some (.int .u64 t515) := (zs BK513.out 0).trans rfl; have hcz43_1 : w42.cell? ⟨gb513, 1, none⟩ = some (.int .u32 t516) := (zs BK513.out 1).trans rfl; have hcz43_2 : w42.cell? ⟨gb513, 2, none⟩ = some (.slice Ao11 t517.length co11) := (zs BK513.out 2).trans rfl; have hcz43_3 : w42.cell? ⟨gb513, 3, none⟩ = some (.int .i64 t520) := (zs BK513.out 3).trans rfl; have hfz43_0 := zx BK513.out 0; have hfz43_1 := zx BK513.out 1; have hfz43_2 := zx BK513.out 2; have hfz43_3 := zx BK513.out 3; obtain ⟨Ao44, co44, eo44⟩ := Kd.V_slice HO529.out; subst eo44; have hcz45_0 : w42.cell? ⟨gb514, 0, none⟩ = some (.int .u64 0) := (zs BK514.out 0).trans rfl; have hcz45_1 : w42.cell? ⟨gb514, 1, none⟩ = some (.int .u32 0) := (zs BK514.out 1).trans rfl; have hcz45_2 : w42.cell? ⟨gb514, 2, none⟩ = some (.slice none 0 0) := (zs BK514.out 2).trans rfl; have hcz45_3 : w42.cell? ⟨gb514, 3, none⟩ = some (.int .i64 0) := (zs BK514.out 3).trans rfl; have hfz45_0 := zx BK514.out 0; have hfz45_1 := zx BK514.out 1; have hfz45_2 := zx BK514.out 2; have hfz45_3 := zx BK514.out 3))
     refine bodyPost_ret (results_ctt rfl _ _ gb514 43 #[.int .u64 t525, .int .u32 t526, .slice Ao44 t527.length co44, .int .i64 t530] (0, 0) _ rfl (by (with_reducible repeat (first | refine zh ?_ _ | refine zj ?_ | refine zi ?_ _)); refine zw (cs := #[.int .u64 t525, .int .u32 t526, .slice Ao44 t527.length co44, .int .i64 0]) ?_ 3 _ rfl; (with_reducible repeat (first | refine zh ?_ _ | refine zj ?_ | refine zi ?_ _)); refine zw (cs := #[.int .u64 t525, .int .u32 t526, .slice none 0 0, .int .i64 0]) ?_ 2 _ rfl; (with_reducible repeat (first | refine zh ?_ _ | refine zj ?_ | refine zi ?_ _)); refine zw (cs := #[.int .u64 t525, .int .u32 0, .slice none 0 0, .int .i64 0]) ?_ 1 _ rfl; (with_reducible repeat (first | refine zh ?_ _ | refine zj ?_ | refine zi ?_ _)); refine zw (cs := #[.int .u64 0, .int .u32 0, .slice none 0 0, .int .i64 0]) ?_ 0 _ rfl; (with_reducible repeat (first | refine zh ?_ _ | refine zj ?_ | refine zi ?_ _)); refine zv ?_ NB514_513.out _; (with_reducible repeat (first | refine zh ?_ _ | refine zj ?_ | refine zi ?_ _)); refine zv ?_ NB514_513.out _; (with_reducible repeat (first | refine zh ?_ _ | refine zj ?_ | refine zi ?_ _)); refine zv ?_ NB514_513.out _; (with_reducible repeat (first | refine zh ?_ _ | refine zj ?_ | refine zi ?_ _)); refine zv ?_ NB514_513.out _; (with_reducible repeat (first | refine zh ?_ _ | refine zj ?_ | refine zi ?_ _)); exact BK514.out) Try.underlying43 rfl (by kernel_rfl)) rfl ?_
     exact ⟨_, by first | rfl | (simp [errW_none, errW_some] <;> rfl) | (simp only [← hji37]; first | rfl | (simp [errW_none, errW_some] <;> rfl)) | (simp [*, errW_none, errW_some] <;> rfl), by (with_reducible repeat (first | apply zA | apply zB | apply zC)); exact zy (zI (p := ⟨gb514, 3, none⟩) (zI (p := ⟨gb514, 2, none⟩) (zI (p := ⟨gb514, 1, none⟩) (zI (p := ⟨gb514, 0, none⟩) (zI (p := ⟨gb513, 3, none⟩) (zI (p := ⟨gb513, 2, none⟩) (zI (p := ⟨gb513, 1, none⟩) (zI (p := ⟨gb513, 0, none⟩) (zy (zy HO529.out (fun k_ hk => (⟨hk, hk.2.1⟩ : _ ∧ k_ ≠ gb513))) (fun k_ hk => (⟨hk, hk.1.2.2⟩ : _ ∧ k_ ≠ gb514))) (fun _ hk => hk.1.2) (.int .u64 t525)) (fun _ hk => hk.1.2) (.int .u32 t526)) (fun _ hk => hk.1.2) (.slice Ao44 t527.length co44)) (fun _ hk => hk.1.2) (.int .i64 t530)) (fun _ hk => hk.2) (.int .u64 t525)) (fun _ hk => hk.2) (.int .u32 t526)) (fun _ hk => hk.2) (.slice Ao44 t527.length co44)) (fun _ hk => hk.2) (.int .i64 t530)) (fun _ hk => hk.1.1.1), by repeat (first | (with_reducible first | exact HB.out | apply ze | apply zd | apply zf | refine zk ?_ GE513.out | refine zk ?_ GE514.out) | exact HB.out)⟩

end Go.Proofs.Ytkaoiblgfpphoaa.Prt
