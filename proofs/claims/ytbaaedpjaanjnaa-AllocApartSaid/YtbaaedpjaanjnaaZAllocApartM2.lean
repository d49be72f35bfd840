-- Functions of the program and of the document as plain Lean, each with the proof that the code comes to it. Written by a program of this session (wip/tools/myprint.py, pack.py) over the kit's printer; Lean checks it.
import Derived.Test.YtbaaedpjaanjnaaZAllocApartPrt0
import Derived.Test.YtbaaedpjaanjnaaZAllocApartM1
namespace Go.Proofs.Ytbaaedpjaanjnaa.Prt
open Go.RowKit Go.Proofs.YtbaaedpjaanjnaaW.PrintWords Go.Proofs.YtbaaedpjaanjnaaW.PrintLast Go.Proofs.YtbaaedpjaanjnaaW.PrintMore
attribute [local go_sem] max2_int min2_int max_two min_two max_three min_three max_four min_four   -- for this text's walks alone
set_option linter.unusedVariables false
set_option linter.unusedSimpArgs false

/-! ### psalterylaw12_knows: function 13 -/
def psalterylaw12_knows.f (k : Nat)  : Option (Bool) := (alloc_Pulses.f k 11 1 (([(([9, 0, 0, 0, 0] : List Int))] : List (List Int)))).bind fun bt164 => ((alloc_Pulses.f k 11 1 (([(([0, 0, 9, 0, 0] : List Int))] : List (List Int)))).bind fun bt174 => ((alloc_Room.f 11 1).bind fun t178 => (if t178 = 2 then ((psalteryref12_Same.f k bt164.1 (([(([1, 0, 0, 0, 0] : List Int))] : List (List Int)))).bind fun t185 => (if t185 = true then (if bt164.2 = 0 then ((psalteryref12_Same.f k bt174.1 (([(([0, 0, 1, 0, 0] : List Int))] : List (List Int)))).bind fun t192 => (if t192 = true then (if bt174.2 = 0 then ((alloc_Right.f 17 2).bind fun t193 => (if t193 = true then ((alloc_Right.f 16 2).bind fun t194 => (some (!t194))) else (none))) else (none)) else (none))) else (none)) else (none))) else (none))))
theorem psalterylaw12_knows.mono : ∀ k, LeO (psalterylaw12_knows.f k ) (psalterylaw12_knows.f (k + 1) ) := by
 intro  k
 unfold psalterylaw12_knows.f
 repeat' first
   | (with_reducible exact alloc_Pulses.mono _ _ _ _)
   | (with_reducible exact psalteryref12_Same.mono _ _ _)
   | (with_reducible exact LeO.refl _)
   | (with_reducible exact LeO.none _)
   | (with_reducible refine LeO.ite ?_ ?_)
   | (with_reducible refine LeO.bind ?_ (fun _ => ?_))
   | exact alloc_Pulses.mono _ _ _ _
   | exact psalteryref12_Same.mono _ _ _
   | exact LeO.none _
   | refine LeO.ite ?_ ?_
   | refine LeO.bind ?_ (fun _ => ?_)
set_option maxHeartbeats 8000000 in
set_option maxRecDepth 100000 in
theorem psalterylaw12_knows.calls (k : Nat)  (r : Bool) (w : World) (h : psalterylaw12_knows.f k  = some r) :
  Calls Try.prog 13 #[] w fun e w' => e = .returned (.bool r) ∧ Below w.heap.size w w' := by
 have HB := zm (Below.refl w.heap.size w)
 have H : ((alloc_Pulses.f k 11 1 (([(([9, 0, 0, 0, 0] : List Int))] : List (List Int)))).bind fun bt164 => ((alloc_Pulses.f k 11 1 (([(([0, 0, 9, 0, 0] : List Int))] : List (List Int)))).bind fun bt174 => ((alloc_Room.f 11 1).bind fun t178 => (if t178 = 2 then ((psalteryref12_Same.f k bt164.1 (([(([1, 0, 0, 0, 0] : List Int))] : List (List Int)))).bind fun t185 => (if t185 = true then (if bt164.2 = 0 then ((psalteryref12_Same.f k bt174.1 (([(([0, 0, 1, 0, 0] : List Int))] : List (List Int)))).bind fun t192 => (if t192 = true then (if bt174.2 = 0 then ((alloc_Right.f 17 2).bind fun t193 => (if t193 = true then ((alloc_Right.f 16 2).bind fun t194 => (some (!t194))) else (none))) else (none)) else (none))) else (none)) else (none))) else (none))))) = some r := h
 clear h
 obtain ⟨y158, hy158⟩ : ∃ y_ : List Int, y_ = (([9, 0, 0, 0, 0] : List Int)) := ⟨_, rfl⟩
 replace H : ((alloc_Pulses.f k 11 1 (([y158] : List (List Int)))).bind fun bt164 => ((alloc_Pulses.f k 11 1 (([(([0, 0, 9, 0, 0] : List Int))] : List (List Int)))).bind fun bt174 => ((alloc_Room.f 11 1).bind fun t178 => (if t178 = 2 then ((psalteryref12_Same.f k bt164.1 (([(([1, 0, 0, 0, 0] : List Int))] : List (List Int)))).bind fun t185 => (if t185 = true then (if bt164.2 = 0 then ((psalteryref12_Same.f k bt174.1 (([(([0, 0, 1, 0, 0] : List Int))] : List (List Int)))).bind fun t192 => (if t192 = true then (if bt174.2 = 0 then ((alloc_Right.f 17 2).bind fun t193 => (if t193 = true then ((alloc_Right.f 16 2).bind fun t194 => (some (!t194))) else (none))) else (none)) else (none))) else (none)) else (none))) else (none))))) = some r := by first | (rw [hy158]; with_reducible exact H) | (have H2_ := (Option.bind_some _ _).symm.trans H; rw [hy158]; with_reducible exact H2_) | (have H2_ := (Option.bind_some _ _).symm.trans H; with_reducible exact H2_) | with_reducible exact H | (rw [hy158]; exact H) | exact H
 have Ny158 := zm hy158
 clear hy158
 obtain ⟨y161, hy161⟩ : ∃ y_ : List (List Int), y_ = (([y158] : List (List Int))) := ⟨_, rfl⟩
 replace H : ((alloc_Pulses.f k 11 1 y161).bind fun bt164 => ((alloc_Pulses.f k 11 1 (([(([0, 0, 9, 0, 0] : List Int))] : List (List Int)))).bind fun bt174 => ((alloc_Room.f 11 1).bind fun t178 => (if t178 = 2 then ((psalteryref12_Same.f k bt164.1 (([(([1, 0, 0, 0, 0] : List Int))] : List (List Int)))).bind fun t185 => (if t185 = true then (if bt164.2 = 0 then ((psalteryref12_Same.f k bt174.1 (([(([0, 0, 1, 0, 0] : List Int))] : List (List Int)))).bind fun t192 => (if t192 = true then (if bt174.2 = 0 then ((alloc_Right.f 17 2).bind fun t193 => (if t193 = true then ((alloc_Right.f 16 2).bind fun t194 => (some (!t194))) else (none))) else (none)) else (none))) else (none)) else (none))) else (none))))) = some r := by first | (rw [hy161]; with_reducible exact H) | (have H2_ := (Option.bind_some _ _).symm.trans H; rw [hy161]; with_reducible exact H2_) | (have H2_ := (Option.bind_some _ _).symm.trans H; with_reducible exact H2_) | with_reducible exact H | (rw [hy161]; exact H) | exact H
 have Ny161 := zm hy161
 clear hy161
 replace H := Option.bind_eq_some_iff.mp H
 obtain ⟨⟨t164, t165⟩, A10, H⟩ := H
 replace H : ((alloc_Pulses.f k 11 1 (([(([0, 0, 9, 0, 0] : List Int))] : List (List Int)))).bind fun bt174 => ((alloc_Room.f 11 1).bind fun t178 => (if t178 = 2 then ((psalteryref12_Same.f k t164 (([(([1, 0, 0, 0, 0] : List Int))] : List (List Int)))).bind fun t185 => (if t185 = true then (if t165 = 0 then ((psalteryref12_Same.f k bt174.1 (([(([0, 0, 1, 0, 0] : List Int))] : List (List Int)))).bind fun t192 => (if t192 = true then (if bt174.2 = 0 then ((alloc_Right.f 17 2).bind fun t193 => (if t193 = true then ((alloc_Right.f 16 2).bind fun t194 => (some (!t194))) else (none))) else (none)) else (none))) else (none)) else (none))) else (none)))) = some r := H
 have A1 := zm A10
 clear A10
 obtain ⟨y168, hy168⟩ : ∃ y_ : List Int, y_ = (([0, 0, 9, 0, 0] : List Int)) := ⟨_, rfl⟩
 replace H : ((alloc_Pulses.f k 11 1 (([y168] : List (List Int)))).bind fun bt174 => ((alloc_Room.f 11 1).bind fun t178 => (if t178 = 2 then ((psalteryref12_Same.f k t164 (([(([1, 0, 0, 0, 0] : List Int))] : List (List Int)))).bind fun t185 => (if t185 = true then (if t165 = 0 then ((psalteryref12_Same.f k bt174.1 (([(([0, 0, 1, 0, 0] : List Int))] : List (List Int)))).bind fun t192 => (if t192 = true then (if bt174.2 = 0 then ((alloc_Right.f 17 2).bind fun t193 => (if t193 = true then ((alloc_Right.f 16 2).bind fun t194 => (some (!t194))) else (none))) else (none)) else (none))) else (none)) else (none))) else (none)))) = some r := by first | (rw [hy168]; with_reducible exact H) | (have H2_ := (Option.bind_some _ _).symm.trans H; rw [hy168]; with_reducible exact H2_) | (have H2_ := (Option.bind_some _ _).symm.trans H; with_reducible exact H2_) | with_reducible exact H | (rw [hy168]; exact H) | exact H
 have Ny168 := zm hy168
 clear hy168
 obtain ⟨y171, hy171⟩ : ∃ y_ : List (List Int), y_ = (([y168] : List (List Int))) := ⟨_, rfl⟩
 replace H : ((alloc_Pulses.f k 11 1 y171).bind fun bt174 => ((alloc_Room.f 11 1).bind fun t178 => (if t178 = 2 then ((psalteryref12_Same.f k t164 (([(([1, 0, 0, 0, 0] : List Int))] : List (List Int)))).bind fun t185 => (if t185 = true then (if t165 = 0 then ((psalteryref12_Same.f k bt174.1 (([(([0, 0, 1, 0, 0] : List Int))] : List (List Int)))).bind fun t192 => (if t192 = true then (if bt174.2 = 0 then ((alloc_Right.f 17 2).bind fun t193 => (if t193 = true then ((alloc_Right.f 16 2).bind fun t194 => (some (!t194))) else (none))) else (none)) else (none))) else (none)) else (none))) else (none)))) = some r := by first | (rw [hy171]; with_reducible exact H) | (have H2_ := (Option.bind_some _ _).symm.trans H; rw [hy171]; with_reducible exact H2_) | (have H2_ := (Option.bind_some _ _).symm.trans H; with_reducible exact H2_) | with_reducible exact H | (rw [hy171]; exact H) | exact H
 have Ny171 := zm hy171
 clear hy171
 replace H := Option.bind_eq_some_iff.mp H
 obtain ⟨⟨t174, t175⟩, A20, H⟩ := H
 replace H : ((alloc_Room.f 11 1).bind fun t178 => (if t178 = 2 then ((psalteryref12_Same.f k t164 (([(([1, 0, 0, 0, 0] : List Int))] : List (List Int)))).bind fun t185 => (if t185 = true then (if t165 = 0 then ((psalteryref12_Same.f k t174 (([(([0, 0, 1, 0, 0] : List Int))] : List (List Int)))).bind fun t192 => (if t192 = true then (if t175 = 0 then ((alloc_Right.f 17 2).bind fun t193 => (if t193 = true then ((alloc_Right.f 16 2).bind fun t194 => (some (!t194))) else (none))) else (none)) else (none))) else (none)) else (none))) else (none))) = some r := H
 have A2 := zm A20
 clear A20
 replace H := Option.bind_eq_some_iff.mp H
 obtain ⟨t178, A30, H⟩ := H
 replace H : (if t178 = 2 then ((psalteryref12_Same.f k t164 (([(([1, 0, 0, 0, 0] : List Int))] : List (List Int)))).bind fun t185 => (if t185 = true then (if t165 = 0 then ((psalteryref12_Same.f k t174 (([(([0, 0, 1, 0, 0] : List Int))] : List (List Int)))).bind fun t192 => (if t192 = true then (if t175 = 0 then ((alloc_Right.f 17 2).bind fun t193 => (if t193 = true then ((alloc_Right.f 16 2).bind fun t194 => (some (!t194))) else (none))) else (none)) else (none))) else (none)) else (none))) else (none)) = some r := H
 have A3 := zm A30
 clear A30
 by_cases c4 : t178 = 2
 ·
  rw [if_pos c4] at H
  have c4b0 : (t178 == 2) = true := beq_iff_eq.mpr c4
  have c4b1 : (t178 != 2) = false := bne_eq_false_iff_eq.mpr c4
  clear c4
  obtain ⟨y179, hy179⟩ : ∃ y_ : List Int, y_ = (([1, 0, 0, 0, 0] : List Int)) := ⟨_, rfl⟩
  replace H : ((psalteryref12_Same.f k t164 (([y179] : List (List Int)))).bind fun t185 => (if t185 = true then (if t165 = 0 then ((psalteryref12_Same.f k t174 (([(([0, 0, 1, 0, 0] : List Int))] : List (List Int)))).bind fun t192 => (if t192 = true then (if t175 = 0 then ((alloc_Right.f 17 2).bind fun t193 => (if t193 = true then ((alloc_Right.f 16 2).bind fun t194 => (some (!t194))) else (none))) else (none)) else (none))) else (none)) else (none))) = some r := by first | (rw [hy179]; with_reducible exact H) | (have H2_ := (Option.bind_some _ _).symm.trans H; rw [hy179]; with_reducible exact H2_) | (have H2_ := (Option.bind_some _ _).symm.trans H; with_reducible exact H2_) | with_reducible exact H | (rw [hy179]; exact H) | exact H
  have Ny179 := zm hy179
  clear hy179
  obtain ⟨y182, hy182⟩ : ∃ y_ : List (List Int), y_ = (([y179] : List (List Int))) := ⟨_, rfl⟩
  replace H : ((psalteryref12_Same.f k t164 y182).bind fun t185 => (if t185 = true then (if t165 = 0 then ((psalteryref12_Same.f k t174 (([(([0, 0, 1, 0, 0] : List Int))] : List (List Int)))).bind fun t192 => (if t192 = true then (if t175 = 0 then ((alloc_Right.f 17 2).bind fun t193 => (if t193 = true then ((alloc_Right.f 16 2).bind fun t194 => (some (!t194))) else (none))) else (none)) else (none))) else (none)) else (none))) = some r := by first | (rw [hy182]; with_reducible exact H) | (have H2_ := (Option.bind_some _ _).symm.trans H; rw [hy182]; with_reducible exact H2_) | (have H2_ := (Option.bind_some _ _).symm.trans H; with_reducible exact H2_) | with_reducible exact H | (rw [hy182]; exact H) | exact H
  have Ny182 := zm hy182
  clear hy182
  replace H := Option.bind_eq_some_iff.mp H
  obtain ⟨t185, A50, H⟩ := H
  replace H : (if t185 = true then (if t165 = 0 then ((psalteryref12_Same.f k t174 (([(([0, 0, 1, 0, 0] : List Int))] : List (List Int)))).bind fun t192 => (if t192 = true then (if t175 = 0 then ((alloc_Right.f 17 2).bind fun t193 => (if t193 = true then ((alloc_Right.f 16 2).bind fun t194 => (some (!t194))) else (none))) else (none)) else (none))) else (none)) else (none)) = some r := H
  have A5 := zm A50
  clear A50
  by_cases c6 : t185 = true
  ·
   subst c6
   have H1 : (if t165 = 0 then ((psalteryref12_Same.f k t174 (([(([0, 0, 1, 0, 0] : List Int))] : List (List Int)))).bind fun t192 => (if t192 = true then (if t175 = 0 then ((alloc_Right.f 17 2).bind fun t193 => (if t193 = true then ((alloc_Right.f 16 2).bind fun t194 => (some (!t194))) else (none))) else (none)) else (none))) else (none)) = some r := by rw [if_pos rfl] at H; exact H
   clear H
   have H := H1
   clear H1
   by_cases c7 : t165 = 0
   ·
    rw [if_pos c7] at H
    have c7b0 : (t165 == 0) = true := beq_iff_eq.mpr c7
    have c7b1 : (t165 != 0) = false := bne_eq_false_iff_eq.mpr c7
    clear c7
    obtain ⟨y186, hy186⟩ : ∃ y_ : List Int, y_ = (([0, 0, 1, 0, 0] : List Int)) := ⟨_, rfl⟩
    replace H : ((psalteryref12_Same.f k t174 (([y186] : List (List Int)))).bind fun t192 => (if t192 = true then (if t175 = 0 then ((alloc_Right.f 17 2).bind fun t193 => (if t193 = true then ((alloc_Right.f 16 2).bind fun t194 => (some (!t194))) else (none))) else (none)) else (none))) = some r := by first | (rw [hy186]; with_reducible exact H) | (have H2_ := (Option.bind_some _ _).symm.trans H; rw [hy186]; with_reducible exact H2_) | (have H2_ := (Option.bind_some _ _).symm.trans H; with_reducible exact H2_) | with_reducible exact H | (rw [hy186]; exact H) | exact H
    have Ny186 := zm hy186
    clear hy186
    obtain ⟨y189, hy189⟩ : ∃ y_ : List (List Int), y_ = (([y186] : List (List Int))) := ⟨_, rfl⟩
    replace H : ((psalteryref12_Same.f k t174 y189).bind fun t192 => (if t192 = true then (if t175 = 0 then ((alloc_Right.f 17 2).bind fun t193 => (if t193 = true then ((alloc_Right.f 16 2).bind fun t194 => (some (!t194))) else (none))) else (none)) else (none))) = some r := by first | (rw [hy189]; with_reducible exact H) | (have H2_ := (Option.bind_some _ _).symm.trans H; rw [hy189]; with_reducible exact H2_) | (have H2_ := (Option.bind_some _ _).symm.trans H; with_reducible exact H2_) | with_reducible exact H | (rw [hy189]; exact H) | exact H
    have Ny189 := zm hy189
    clear hy189
    replace H := Option.bind_eq_some_iff.mp H
    obtain ⟨t192, A80, H⟩ := H
    replace H : (if t192 = true then (if t175 = 0 then ((alloc_Right.f 17 2).bind fun t193 => (if t193 = true then ((alloc_Right.f 16 2).bind fun t194 => (some (!t194))) else (none))) else (none)) else (none)) = some r := H
    have A8 := zm A80
    clear A80
    by_cases c9 : t192 = true
    ·
     subst c9
     have H1 : (if t175 = 0 then ((alloc_Right.f 17 2).bind fun t193 => (if t193 = true then ((alloc_Right.f 16 2).bind fun t194 => (some (!t194))) else (none))) else (none)) = some r := by rw [if_pos rfl] at H; exact H
     clear H
     have H := H1
     clear H1
     by_cases c10 : t175 = 0
     ·
      rw [if_pos c10] at H
      have c10b0 : (t175 == 0) = true := beq_iff_eq.mpr c10
      have c10b1 : (t175 != 0) = false := bne_eq_false_iff_eq.mpr c10
      clear c10
      replace H := Option.bind_eq_some_iff.mp H
      obtain ⟨t193, A110, H⟩ := H
      replace H : (if t193 = true then ((alloc_Right.f 16 2).bind fun t194 => (some (!t194))) else (none)) = some r := H
      have A11 := zm A110
      clear A110
      by_cases c12 : t193 = true
      ·
       subst c12
       have H1 : ((alloc_Right.f 16 2).bind fun t194 => (some (!t194))) = some r := by rw [if_pos rfl] at H; exact H
       clear H
       have H := H1
       clear H1
       replace H := Option.bind_eq_some_iff.mp H
       obtain ⟨t194, A130, H⟩ := H
       replace H : (some (!t194)) = some r := H
       have A13 := zm A130
       clear A130
       obtain rfl := Option.some.inj H
       go_enter Try.func13, Try.ntmps13
       go_wp2_with (first | ((with_reducible refine gate_dst (N := 6) rfl ?_); (try (refine gate_guard (by rfl) ?_; dsimp only)); refine Kd.R_lit (Kd.int .i64) _ 3 ?hg (N := 6) ?hd (xs := ([9, 0, 0, 0, 0] : List Int)) (inner := [.int .i64 9, .int .i64 0, .int .i64 0, .int .i64 0, .int .i64 0]) (ok := fun _ => True) (okp := fun _ => True) ?hr ?hp (fun _ hk => hk) trivial (Below.refl _ _) (Nat.le_refl _) (by simp) ?_; (case hd => rfl); (case hg => rfl); (case hr => first | (go_simp; done) | (go_simp; rfl)); (case hp => exact (Reps.one (show Kd.M (Kd.int .i64) _ _ _ 9 [.int .i64 9] from rfl) (Reps.one (show Kd.M (Kd.int .i64) _ _ _ 0 [.int .i64 0] from rfl) (Reps.one (show Kd.M (Kd.int .i64) _ _ _ 0 [.int .i64 0] from rfl) (Reps.one (show Kd.M (Kd.int .i64) _ _ _ 0 [.int .i64 0] from rfl) (Reps.one (show Kd.M (Kd.int .i64) _ _ _ 0 [.int .i64 0] from rfl) (Reps.none _ _))))))); intro v159 w14 ho15 hb hg_ hnew_; clear hg_ hnew_; (first | rw [← Ny158.out] at ho15 | (simp only [Int.reduceToNat] at ho15; rw [← Ny158.out] at ho15)); have n0_ := zm (Kd.R_lower ho15 (zE (by repeat (first | (with_reducible first | exact HB.out | apply ze | apply zd | apply zf) | exact HB.out)))); have n1_ := zm (zJ (by repeat (first | (with_reducible first | exact HB.out | apply ze | apply zd | apply zf) | exact HB.out)) hb); clear HB; have HO160 := n0_; have HB := n1_; clear n0_ n1_; clear hb ho15; obtain ⟨Ao16, co16, eo16⟩ := Kd.R_slice HO160.out; subst eo16) | ((with_reducible refine gate_dst (N := 7) rfl ?_); (try (refine gate_guard (by rfl) ?_; dsimp only)); refine Kd.N_lit (Kd.slice 3 (Kd.int .i64)) _ 34 ?hg (N' := 7) ?hd (xs := ([y158] : List (List Int))) (inner := [.slice Ao16 y158.length co16]) (ok := (fun _ => True)) (okp := (fun _ => True)) ?hr ?hp (fun _ hk => hk) ((show ∀ k_, w14.heap.size ≤ k_ → (fun _ => True) k_ from fun k_ hk => trivial) _ (Nat.le_refl _)) (Below.refl _ _) (Nat.le_refl _) (by simp) ?_; (case hd => rfl); (case hg => rfl); (case hr => first | (go_simp; done) | (go_simp; rfl)); (case hp => exact (Reps.one (show Kd.FK (Kd.slice 3 (Kd.int .i64)) _ _ y158 [.slice Ao16 y158.length co16] from (Kd.FK_slice_mk (Kd.R_reads' (zG (ok' := (fun _ => True)) (HO160.out) (fun k_ hk => trivial))).2.1 (Kd.R_F (zG (ok' := (fun _ => True)) (HO160.out) (fun k_ hk => trivial))))) (Reps.none _ _))); intro v162 w17 ho18 hb hg_ hnew_; clear hg_ hnew_; (first | rw [← Ny161.out] at ho18 | (simp only [Int.reduceToNat] at ho18; rw [← Ny161.out] at ho18)); have n0_ := zm (Kd.N_lower ho18 (zE (by repeat (first | (with_reducible first | exact HB.out | apply ze | apply zd | apply zf) | exact HB.out)))); have n1_ := zm (zJ (by repeat (first | (with_reducible first | exact HB.out | apply ze | apply zd | apply zf) | exact HB.out)) hb); clear HB; clear HO160; have HO163 := n0_; have HB := n1_; clear n0_ n1_; clear hb ho18; obtain ⟨Ao19, co19, eo19⟩ := Kd.N_slice HO163.out; subst eo19) | ((with_reducible refine gate_callee (f := 15) rfl ?_); refine goesL_ (some 8) rfl rfl Try.func15 (by kernel_rfl) rfl #[.int .i64 11, .int .i64 1, .slice Ao19 y161.length co19] rfl (by (try simp only [List.map_toArray, List.map_cons, List.map_nil]); first | done | rfl | (simp only [List.length_drop, List.length_take]; rfl)) ?_; (with_reducible refine (alloc_Pulses.calls k 11 1 _ _ y161 t164 t165 _ ?side1 ?side2 A1.out).mono ?_); (case side1 => repeat (first | exact (Kd.N_reads' HO163.out).2.2 | (with_reducible refine Kd.C_alloc ?_ _) | (with_reducible refine Kd.C_drewN ?_ _) | (with_reducible refine Kd.C_drew ?_))); (case side2 => exact (Kd.N_reads' HO163.out).2.1); rintro e w20 ⟨v166, rfl, ho0, hb⟩; refine ⟨_, rfl, ?_⟩; have n0_ := zm (Kd.N_elder' (by (with_reducible repeat (first | apply Kd.N_alloc | apply Kd.N_drewN | apply Kd.N_drew)); exact HO163.out) (Kd.S_base ho0) hb); have n1_ := zm (Kd.N_lower (Kd.N_mono (ok' := fun k_ => some k_ ≠ (.slice Ao19 y161.length co19 : Value).ownBlock) (Kd.S_N (Kd.S_bound ho0)) (fun k_ hk_ => (Kd.fresh' (Kd.N_lt (by (with_reducible repeat (first | apply Kd.N_alloc | apply Kd.N_drewN | apply Kd.N_drew)); exact HO163.out)) k_ hk_.2.1))) (zE (by repeat (first | (with_reducible first | exact HB.out | apply ze | apply zd | apply zf) | exact HB.out)))); have n2_ := zm (zJ (by repeat (first | (with_reducible first | exact HB.out | apply ze | apply zd | apply zf) | exact HB.out)) hb); clear HO163; clear HB; have HO163 := n0_; have HO167 := n1_; have HB := n2_; clear n0_ n1_ n2_; (try clear hb); (try clear hb2); (try clear hk); (try clear hi); (try clear ho0)) | ((with_reducible refine gate_dst (N := 12) rfl ?_); (try (refine gate_guard (by rfl) ?_; dsimp only)); refine Kd.R_lit (Kd.int .i64) _ 3 ?hg (N := 12) ?hd (xs := ([0, 0, 9, 0, 0] : List Int)) (inner := [.int .i64 0, .int .i64 0, .int .i64 9, .int .i64 0, .int .i64 0]) (ok := fun _ => True) (okp := fun _ => True) ?hr ?hp (fun _ hk => hk) trivial (Below.refl _ _) (Nat.le_refl _) (by simp) ?_; (case hd => rfl); (case hg => rfl); (case hr => first | (go_simp; done) | (go_simp; rfl)); (case hp => exact (Reps.one (show Kd.M (Kd.int .i64) _ _ _ 0 [.int .i64 0] from rfl) (Reps.one (show Kd.M (Kd.int .i64) _ _ _ 0 [.int .i64 0] from rfl) (Reps.one (show Kd.M (Kd.int .i64) _ _ _ 9 [.int .i64 9] from rfl) (Reps.one (show Kd.M (Kd.int .i64) _ _ _ 0 [.int .i64 0] from rfl) (Reps.one (show Kd.M (Kd.int .i64) _ _ _ 0 [.int .i64 0] from rfl) (Reps.none _ _))))))); intro v169 w21 ho22 hb hg_ hnew_; clear hg_ hnew_; (first | rw [← Ny168.out] at ho22 | (simp only [Int.reduceToNat] at ho22; rw [← Ny168.out] at ho22)); have n0_ := zm (Kd.N_elder' (by (with_reducible repeat (first | apply Kd.N_alloc | apply Kd.N_drewN | apply Kd.N_drew)); exact HO163.out) (Kd.R_base ho22) hb); have n1_ := zm (Kd.N_elder' (by (with_reducible repeat (first | apply Kd.N_alloc | apply Kd.N_drewN | apply Kd.N_drew)); exact HO167.out) (Kd.R_base ho22) hb); have n2_ := zm (Kd.R_lower ho22 (zE (by repeat (first | (with_reducible first | exact HB.out | apply ze | apply zd | apply zf) | exact HB.out)))); have n3_ := zm (zJ (by repeat (first | (with_reducible first | exact HB.out | apply ze | apply zd | apply zf) | exact HB.out)) hb); clear HO163; clear HO167; clear HB; have HO163 := n0_; have HO167 := n1_; have HO170 := n2_; have HB := n3_; clear n0_ n1_ n2_ n3_; clear hb ho22; obtain ⟨Ao23, co23, eo23⟩ := Kd.R_slice HO170.out; subst eo23) | ((with_reducible refine gate_dst (N := 13) rfl ?_); (try (refine gate_guard (by rfl) ?_; dsimp only)); refine Kd.N_lit (Kd.slice 3 (Kd.int .i64)) _ 34 ?hg (N' := 13) ?hd (xs := ([y168] : List (List Int))) (inner := [.slice Ao23 y168.length co23]) (ok := (fun k_ => some k_ ≠ (.slice Ao19 y161.length co19 : Value).ownBlock ∧ some k_ ≠ (v166 : Value).ownBlock)) (okp := (fun k_ => some k_ ≠ (.slice Ao19 y161.length co19 : Value).ownBlock ∧ some k_ ≠ (v166 : Value).ownBlock)) ?hr ?hp (fun _ hk => hk) ((show ∀ k_, w21.heap.size ≤ k_ → (fun k_ => some k_ ≠ (.slice Ao19 y161.length co19 : Value).ownBlock ∧ some k_ ≠ (v166 : Value).ownBlock) k_ from fun k_ hk => ⟨Kd.fresh' (Kd.N_lt (by (with_reducible repeat (first | apply Kd.N_alloc | apply Kd.N_drewN | apply Kd.N_drew)); exact HO163.out)) k_ hk, Kd.fresh' (Kd.N_lt (by (with_reducible repeat (first | apply Kd.N_alloc | apply Kd.N_drewN | apply Kd.N_drew)); exact HO167.out)) k_ hk⟩) _ (Nat.le_refl _)) (Below.refl _ _) (Nat.le_refl _) (by simp) ?_; (case hd => rfl); (case hg => rfl); (case hr => first | (go_simp; done) | (go_simp; rfl)); (case hp => exact (Reps.one (show Kd.FK (Kd.slice 3 (Kd.int .i64)) _ _ y168 [.slice Ao23 y168.length co23] from (Kd.FK_slice_mk (Kd.R_reads' (zG (ok' := (fun k_ => some k_ ≠ (.slice Ao19 y161.length co19 : Value).ownBlock ∧ some k_ ≠ (v166 : Value).ownBlock)) (Kd.R_apart' (Kd.R_apart' (HO170.out) (Kd.N_typed HO163.out) (by decide)) (Kd.N_typed HO167.out) (by decide)) (fun k_ hk => ⟨hk.1.2, hk.2⟩))).2.1 (Kd.R_F (zG (ok' := (fun k_ => some k_ ≠ (.slice Ao19 y161.length co19 : Value).ownBlock ∧ some k_ ≠ (v166 : Value).ownBlock)) (Kd.R_apart' (Kd.R_apart' (HO170.out) (Kd.N_typed HO163.out) (by decide)) (Kd.N_typed HO167.out) (by decide)) (fun k_ hk => ⟨hk.1.2, hk.2⟩))))) (Reps.none _ _))); intro v172 w24 ho25 hb hg_ hnew_; clear hg_ hnew_; (first | rw [← Ny171.out] at ho25 | (simp only [Int.reduceToNat] at ho25; rw [← Ny171.out] at ho25)); have n0_ := zm (Kd.N_elder' (by (with_reducible repeat (first | apply Kd.N_alloc | apply Kd.N_drewN | apply Kd.N_drew)); exact HO163.out) (Kd.N_base ho25) hb); have n1_ := zm (Kd.N_elder' (by (with_reducible repeat (first | apply Kd.N_alloc | apply Kd.N_drewN | apply Kd.N_drew)); exact HO167.out) (Kd.N_base ho25) hb); have n2_ := zm (Kd.N_lower ho25 (zE (by repeat (first | (with_reducible first | exact HB.out | apply ze | apply zd | apply zf) | exact HB.out)))); have n3_ := zm (zJ (by repeat (first | (with_reducible first | exact HB.out | apply ze | apply zd | apply zf) | exact HB.out)) hb); clear HO163; clear HO167; clear HB; clear HO170; have HO163 := n0_; have HO167 := n1_; have HO173 := n2_; have HB := n3_; clear n0_ n1_ n2_ n3_; clear hb ho25; obtain ⟨Ao26, co26, eo26⟩ := Kd.N_slice HO173.out; subst eo26) | ((with_reducible refine gate_callee (f := 15) rfl ?_); refine goesL_ (some 14) rfl rfl Try.func15 (by kernel_rfl) rfl #[.int .i64 11, .int .i64 1, .slice Ao26 y171.length co26] rfl (by (try simp only [List.map_toArray, List.map_cons, List.map_nil]); first | done | rfl | (simp only [List.length_drop, List.length_take]; rfl)) ?_; (with_reducible refine (alloc_Pulses.calls k 11 1 _ _ y171 t174 t175 _ ?side1 ?side2 A2.out).mono ?_); (case side1 => repeat (first | exact (Kd.N_reads' HO173.out).2.2 | (with_reducible refine Kd.C_alloc ?_ _) | (with_reducible refine Kd.C_drewN ?_ _) | (with_reducible refine Kd.C_drew ?_))); (case side2 => exact (Kd.N_reads' HO173.out).2.1); rintro e w27 ⟨v176, rfl, ho0, hb⟩; refine ⟨_, rfl, ?_⟩; have n0_ := zm (Kd.N_elder' (by (with_reducible repeat (first | apply Kd.N_alloc | apply Kd.N_drewN | apply Kd.N_drew)); exact HO163.out) (Kd.S_base ho0) hb); have n1_ := zm (Kd.N_elder' (by (with_reducible repeat (first | apply Kd.N_alloc | apply Kd.N_drewN | apply Kd.N_drew)); exact HO167.out) (Kd.S_base ho0) hb); have n2_ := zm (Kd.N_elder' (by (with_reducible repeat (first | apply Kd.N_alloc | apply Kd.N_drewN | apply Kd.N_drew)); exact HO173.out) (Kd.S_base ho0) hb); have n3_ := zm (Kd.N_lower (Kd.N_mono (ok' := fun k_ => some k_ ≠ (.slice Ao19 y161.length co19 : Value).ownBlock ∧ some k_ ≠ (v166 : Value).ownBlock ∧ some k_ ≠ (.slice Ao26 y171.length co26 : Value).ownBlock) (Kd.S_N (Kd.S_bound ho0)) (fun k_ hk_ => ⟨(Kd.fresh' (Kd.N_lt (by (with_reducible repeat (first | apply Kd.N_alloc | apply Kd.N_drewN | apply Kd.N_drew)); exact HO163.out)) k_ hk_.2.1), (Kd.fresh' (Kd.N_lt (by (with_reducible repeat (first | apply Kd.N_alloc | apply Kd.N_drewN | apply Kd.N_drew)); exact HO167.out)) k_ hk_.2.1), (Kd.fresh' (Kd.N_lt (by (with_reducible repeat (first | apply Kd.N_alloc | apply Kd.N_drewN | apply Kd.N_drew)); exact HO173.out)) k_ hk_.2.1)⟩)) (zE (by repeat (first | (with_reducible first | exact HB.out | apply ze | apply zd | apply zf) | exact HB.out)))); have n4_ := zm (zJ (by repeat (first | (with_reducible first | exact HB.out | apply ze | apply zd | apply zf) | exact HB.out)) hb); clear HO163; clear HO167; clear HO173; clear HB; have HO163 := n0_; have HO167 := n1_; have HO173 := n2_; have HO177 := n3_; have HB := n4_; clear n0_ n1_ n2_ n3_ n4_; (try clear hb); (try clear hb2); (try clear hk); (try clear hi); (try clear ho0)) | ((with_reducible refine gate_callee (f := 11) rfl ?_); refine goesL_ (some 17) rfl rfl Try.func11 (by kernel_rfl) rfl #[.int .i64 11, .int .i64 1] rfl (by (try simp only [List.map_toArray, List.map_cons, List.map_nil]); first | done | rfl | (simp only [List.length_drop, List.length_take]; rfl)) ?_; (with_reducible refine (alloc_Room.calls 11 1 t178 _ A3.out).mono ?_); rintro e w' ⟨rfl, ⟨nd, rfl⟩⟩; refine ⟨_, rfl, ?_⟩) | ((with_reducible refine gate_dst (N := 21) rfl ?_); (try (refine gate_guard (by rfl) ?_; dsimp only)); refine Kd.R_lit (Kd.int .i64) _ 3 ?hg (N := 21) ?hd (xs := ([1, 0, 0, 0, 0] : List Int)) (inner := [.int .i64 1, .int .i64 0, .int .i64 0, .int .i64 0, .int .i64 0]) (ok := fun _ => True) (okp := fun _ => True) ?hr ?hp (fun _ hk => hk) trivial (Below.refl _ _) (Nat.le_refl _) (by simp) ?_; (case hd => rfl); (case hg => rfl); (case hr => first | (go_simp; done) | (go_simp; rfl)); (case hp => exact (Reps.one (show Kd.M (Kd.int .i64) _ _ _ 1 [.int .i64 1] from rfl) (Reps.one (show Kd.M (Kd.int .i64) _ _ _ 0 [.int .i64 0] from rfl) (Reps.one (show Kd.M (Kd.int .i64) _ _ _ 0 [.int .i64 0] from rfl) (Reps.one (show Kd.M (Kd.int .i64) _ _ _ 0 [.int .i64 0] from rfl) (Reps.one (show Kd.M (Kd.int .i64) _ _ _ 0 [.int .i64 0] from rfl) (Reps.none _ _))))))); intro v180 w28 ho29 hb hg_ hnew_; clear hg_ hnew_; (first | rw [← Ny179.out] at ho29 | (simp only [Int.reduceToNat] at ho29; rw [← Ny179.out] at ho29)); have n0_ := zm (Kd.N_elder' (by (with_reducible repeat (first | apply Kd.N_alloc | apply Kd.N_drewN | apply Kd.N_drew)); exact HO163.out) (Kd.R_base ho29) hb); have n1_ := zm (Kd.N_elder' (by (with_reducible repeat (first | apply Kd.N_alloc | apply Kd.N_drewN | apply Kd.N_drew)); exact HO167.out) (Kd.R_base ho29) hb); have n2_ := zm (Kd.N_elder' (by (with_reducible repeat (first | apply Kd.N_alloc | apply Kd.N_drewN | apply Kd.N_drew)); exact HO173.out) (Kd.R_base ho29) hb); have n3_ := zm (Kd.N_elder' (by (with_reducible repeat (first | apply Kd.N_alloc | apply Kd.N_drewN | apply Kd.N_drew)); exact HO177.out) (Kd.R_base ho29) hb); have n4_ := zm (Kd.R_lower ho29 (zE (by repeat (first | (with_reducible first | exact HB.out | apply ze | apply zd | apply zf) | exact HB.out)))); have n5_ := zm (zJ (by repeat (first | (with_reducible first | exact HB.out | apply ze | apply zd | apply zf) | exact HB.out)) hb); clear HO163; clear HO167; clear HO173; clear HO177; clear HB; have HO163 := n0_; have HO167 := n1_; have HO173 := n2_; have HO177 := n3_; have HO181 := n4_; have HB := n5_; clear n0_ n1_ n2_ n3_ n4_ n5_; clear hb ho29; obtain ⟨Ao30, co30, eo30⟩ := Kd.R_slice HO181.out; subst eo30) | ((with_reducible refine gate_dst (N := 22) rfl ?_); (try (refine gate_guard (by rfl) ?_; dsimp only)); refine Kd.N_lit (Kd.slice 3 (Kd.int .i64)) _ 34 ?hg (N' := 22) ?hd (xs := ([y179] : List (List Int))) (inner := [.slice Ao30 y179.length co30]) (ok := (fun k_ => some k_ ≠ (.slice Ao19 y161.length co19 : Value).ownBlock ∧ some k_ ≠ (v166 : Value).ownBlock ∧ some k_ ≠ (.slice Ao26 y171.length co26 : Value).ownBlock ∧ some k_ ≠ (v176 : Value).ownBlock)) (okp := (fun k_ => some k_ ≠ (.slice Ao19 y161.length co19 : Value).ownBlock ∧ some k_ ≠ (v166 : Value).ownBlock ∧ some k_ ≠ (.slice Ao26 y171.length co26 : Value).ownBlock ∧ some k_ ≠ (v176 : Value).ownBlock)) ?hr ?hp (fun _ hk => hk) ((show ∀ k_, w28.heap.size ≤ k_ → (fun k_ => some k_ ≠ (.slice Ao19 y161.length co19 : Value).ownBlock ∧ some k_ ≠ (v166 : Value).ownBlock ∧ some k_ ≠ (.slice Ao26 y171.length co26 : Value).ownBlock ∧ some k_ ≠ (v176 : Value).ownBlock) k_ from fun k_ hk => ⟨Kd.fresh' (Kd.N_lt (by (with_reducible repeat (first | apply Kd.N_alloc | apply Kd.N_drewN | apply Kd.N_drew)); exact HO163.out)) k_ hk, Kd.fresh' (Kd.N_lt (by (with_reducible repeat (first | apply Kd.N_alloc | apply Kd.N_drewN | apply Kd.N_drew)); exact HO167.out)) k_ hk, Kd.fresh' (Kd.N_lt (by (with_reducible repeat (first | apply Kd.N_alloc | apply Kd.N_drewN | apply Kd.N_drew)); exact HO173.out)) k_ hk, Kd.fresh' (Kd.N_lt (by (with_reducible repeat (first | apply Kd.N_alloc | apply Kd.N_drewN | apply Kd.N_drew)); exact HO177.out)) k_ hk⟩) _ (Nat.le_refl _)) (Below.refl _ _) (Nat.le_refl _) (by simp) ?_; (case hd => rfl); (case hg => rfl); (case hr => first | (go_simp; done) | (go_simp; rfl)); (case hp => exact (Reps.one (show Kd.FK (Kd.slice 3 (Kd.int .i64)) _ _ y179 [.slice Ao30 y179.length co30] from (Kd.FK_slice_mk (Kd.R_reads' (zG (ok' := (fun k_ => some k_ ≠ (.slice Ao19 y161.length co19 : Value).ownBlock ∧ some k_ ≠ (v166 : Value).ownBlock ∧ some k_ ≠ (.slice Ao26 y171.length co26 : Value).ownBlock ∧ some k_ ≠ (v176 : Value).ownBlock)) (Kd.R_apart' (Kd.R_apart' (Kd.R_apart' (Kd.R_apart' (HO181.out) (Kd.N_typed HO163.out) (by decide)) (Kd.N_typed HO167.out) (by decide)) (Kd.N_typed HO173.out) (by decide)) (Kd.N_typed HO177.out) (by decide)) (fun k_ hk => ⟨hk.1.1.1.2, ⟨hk.1.1.2, ⟨hk.1.2, hk.2⟩⟩⟩))).2.1 (Kd.R_F (zG (ok' := (fun k_ => some k_ ≠ (.slice Ao19 y161.length co19 : Value).ownBlock ∧ some k_ ≠ (v166 : Value).ownBlock ∧ some k_ ≠ (.slice Ao26 y171.length co26 : Value).ownBlock ∧ some k_ ≠ (v176 : Value).ownBlock)) (Kd.R_apart' (Kd.R_apart' (Kd.R_apart' (Kd.R_apart' (HO181.out) (Kd.N_typed HO163.out) (by decide)) (Kd.N_typed HO167.out) (by decide)) (Kd.N_typed HO173.out) (by decide)) (Kd.N_typed HO177.out) (by decide)) (fun k_ hk => ⟨hk.1.1.1.2, ⟨hk.1.1.2, ⟨hk.1.2, hk.2⟩⟩⟩))))) (Reps.none _ _))); intro v183 w31 ho32 hb hg_ hnew_; clear hg_ hnew_; (first | rw [← Ny182.out] at ho32 | (simp only [Int.reduceToNat] at ho32; rw [← Ny182.out] at ho32)); have n0_ := zm (Kd.N_elder' (by (with_reducible repeat (first | apply Kd.N_alloc | apply Kd.N_drewN | apply Kd.N_drew)); exact HO163.out) (Kd.N_base ho32) hb); have n1_ := zm (Kd.N_elder' (by (with_reducible repeat (first | apply Kd.N_alloc | apply Kd.N_drewN | apply Kd.N_drew)); exact HO167.out) (Kd.N_base ho32) hb); have n2_ := zm (Kd.N_elder' (by (with_reducible repeat (first | apply Kd.N_alloc | apply Kd.N_drewN | apply Kd.N_drew)); exact HO173.out) (Kd.N_base ho32) hb); have n3_ := zm (Kd.N_elder' (by (with_reducible repeat (first | apply Kd.N_alloc | apply Kd.N_drewN | apply Kd.N_drew)); exact HO177.out) (Kd.N_base ho32) hb); have n4_ := zm (Kd.N_lower ho32 (zE (by repeat (first | (with_reducible first | exact HB.out | apply ze | apply zd | apply zf) | exact HB.out)))); have n5_ := zm (zJ (by repeat (first | (with_reducible first | exact HB.out | apply ze | apply zd | apply zf) | exact HB.out)) hb); clear HO163; clear HO167; clear HO173; clear HO177; clear HB; clear HO181; have HO163 := n0_; have HO167 := n1_; have HO173 := n2_; have HO177 := n3_; have HO184 := n4_; have HB := n5_; clear n0_ n1_ n2_ n3_ n4_ n5_; clear hb ho32; obtain ⟨Ao33, co33, eo33⟩ := Kd.N_slice HO167.out; subst eo33; obtain ⟨Ao34, co34, eo34⟩ := Kd.N_slice HO184.out; subst eo34) | (go_at_call 17; (with_reducible refine (psalteryref12_Same.calls k _ _ t164 _ _ y182 true _ ?side1 ?side2 ?side3 ?side4 A5.out).mono ?_); (case side1 => repeat (first | exact (Kd.N_reads' HO167.out).2.2 | (with_reducible refine Kd.C_alloc ?_ _) | (with_reducible refine Kd.C_drewN ?_ _) | (with_reducible refine Kd.C_drew ?_))); (case side2 => exact (Kd.N_reads' HO167.out).2.1); (case side3 => repeat (first | exact (Kd.N_reads' HO184.out).2.2 | (with_reducible refine Kd.C_alloc ?_ _) | (with_reducible refine Kd.C_drewN ?_ _) | (with_reducible refine Kd.C_drew ?_))); (case side4 => exact (Kd.N_reads' HO184.out).2.1); rintro e w' ⟨rfl, ⟨nd, rfl⟩⟩) | ((with_reducible refine gate_dst (N := 31) rfl ?_); (try (refine gate_guard (by rfl) ?_; dsimp only)); refine Kd.R_lit (Kd.int .i64) _ 3 ?hg (N := 31) ?hd (xs := ([0, 0, 1, 0, 0] : List Int)) (inner := [.int .i64 0, .int .i64 0, .int .i64 1, .int .i64 0, .int .i64 0]) (ok := fun _ => True) (okp := fun _ => True) ?hr ?hp (fun _ hk => hk) trivial (Below.refl _ _) (Nat.le_refl _) (by simp) ?_; (case hd => rfl); (case hg => rfl); (case hr => first | (go_simp; done) | (go_simp; rfl)); (case hp => exact (Reps.one (show Kd.M (Kd.int .i64) _ _ _ 0 [.int .i64 0] from rfl) (Reps.one (show Kd.M (Kd.int .i64) _ _ _ 0 [.int .i64 0] from rfl) (Reps.one (show Kd.M (Kd.int .i64) _ _ _ 1 [.int .i64 1] from rfl) (Reps.one (show Kd.M (Kd.int .i64) _ _ _ 0 [.int .i64 0] from rfl) (Reps.one (show Kd.M (Kd.int .i64) _ _ _ 0 [.int .i64 0] from rfl) (Reps.none _ _))))))); intro v187 w35 ho36 hb hg_ hnew_; clear hg_ hnew_; (first | rw [← Ny186.out] at ho36 | (simp only [Int.reduceToNat] at ho36; rw [← Ny186.out] at ho36)); have n0_ := zm (Kd.N_elder' (by (with_reducible repeat (first | apply Kd.N_alloc | apply Kd.N_drewN | apply Kd.N_drew)); exact HO163.out) (Kd.R_base ho36) hb); have n1_ := zm (Kd.N_elder' (by (with_reducible repeat (first | apply Kd.N_alloc | apply Kd.N_drewN | apply Kd.N_drew)); exact HO167.out) (Kd.R_base ho36) hb); have n2_ := zm (Kd.N_elder' (by (with_reducible repeat (first | apply Kd.N_alloc | apply Kd.N_drewN | apply Kd.N_drew)); exact HO173.out) (Kd.R_base ho36) hb); have n3_ := zm (Kd.N_elder' (by (with_reducible repeat (first | apply Kd.N_alloc | apply Kd.N_drewN | apply Kd.N_drew)); exact HO177.out) (Kd.R_base ho36) hb); have n4_ := zm (Kd.N_elder' (by (with_reducible repeat (first | apply Kd.N_alloc | apply Kd.N_drewN | apply Kd.N_drew)); exact HO184.out) (Kd.R_base ho36) hb); have n5_ := zm (Kd.R_lower ho36 (zE (by repeat (first | (with_reducible first | exact HB.out | apply ze | apply zd | apply zf) | exact HB.out)))); have n6_ := zm (zJ (by repeat (first | (with_reducible first | exact HB.out | apply ze | apply zd | apply zf) | exact HB.out)) hb); clear HO163; clear HO167; clear HO173; clear HO177; clear HO184; clear HB; have HO163 := n0_; have HO167 := n1_; have HO173 := n2_; have HO177 := n3_; have HO184 := n4_; have HO188 := n5_; have HB := n6_; clear n0_ n1_ n2_ n3_ n4_ n5_ n6_; clear hb ho36; obtain ⟨Ao37, co37, eo37⟩ := Kd.R_slice HO188.out; subst eo37) | ((with_reducible refine gate_dst (N := 32) rfl ?_); (try (refine gate_guard (by rfl) ?_; dsimp only)); refine Kd.N_lit (Kd.slice 3 (Kd.int .i64)) _ 34 ?hg (N' := 32) ?hd (xs := ([y186] : List (List Int))) (inner := [.slice Ao37 y186.length co37]) (ok := (fun k_ => some k_ ≠ (.slice Ao19 y161.length co19 : Value).ownBlock ∧ some k_ ≠ (.slice Ao33 t164.length co33 : Value).ownBlock ∧ some k_ ≠ (.slice Ao26 y171.length co26 : Value).ownBlock ∧ some k_ ≠ (v176 : Value).ownBlock ∧ some k_ ≠ (.slice Ao34 y182.length co34 : Value).ownBlock)) (okp := (fun k_ => some k_ ≠ (.slice Ao19 y161.length co19 : Value).ownBlock ∧ some k_ ≠ (.slice Ao33 t164.length co33 : Value).ownBlock ∧ some k_ ≠ (.slice Ao26 y171.length co26 : Value).ownBlock ∧ some k_ ≠ (v176 : Value).ownBlock ∧ some k_ ≠ (.slice Ao34 y182.length co34 : Value).ownBlock)) ?hr ?hp (fun _ hk => hk) ((show ∀ k_, w35.heap.size ≤ k_ → (fun k_ => some k_ ≠ (.slice Ao19 y161.length co19 : Value).ownBlock ∧ some k_ ≠ (.slice Ao33 t164.length co33 : Value).ownBlock ∧ some k_ ≠ (.slice Ao26 y171.length co26 : Value).ownBlock ∧ some k_ ≠ (v176 : Value).ownBlock ∧ some k_ ≠ (.slice Ao34 y182.length co34 : Value).ownBlock) k_ from fun k_ hk => ⟨Kd.fresh' (Kd.N_lt (by (with_reducible repeat (first | apply Kd.N_alloc | apply Kd.N_drewN | apply Kd.N_drew)); exact HO163.out)) k_ hk, Kd.fresh' (Kd.N_lt (by (with_reducible repeat (first | apply Kd.N_alloc | apply Kd.N_drewN | apply Kd.N_drew)); exact HO167.out)) k_ hk, Kd.fresh' (Kd.N_lt (by (with_reducible repeat (first | apply Kd.N_alloc | apply Kd.N_drewN | apply Kd.N_drew)); exact HO173.out)) k_ hk, Kd.fresh' (Kd.N_lt (by (with_reducible repeat (first | apply Kd.N_alloc | apply Kd.N_drewN | apply Kd.N_drew)); exact HO177.out)) k_ hk, Kd.fresh' (Kd.N_lt (by (with_reducible repeat (first | apply Kd.N_alloc | apply Kd.N_drewN | apply Kd.N_drew)); exact HO184.out)) k_ hk⟩) _ (Nat.le_refl _)) (Below.refl _ _) (Nat.le_refl _) (by simp) ?_; (case hd => rfl); (case hg => rfl); (case hr => first | (go_simp; done) | (go_simp; rfl)); (case hp => exact (Reps.one (show Kd.FK (Kd.slice 3 (Kd.int .i64)) _ _ y186 [.slice Ao37 y186.length co37] from (Kd.FK_slice_mk (Kd.R_reads' (zG (ok' := (fun k_ => some k_ ≠ (.slice Ao19 y161.length co19 : Value).ownBlock ∧ some k_ ≠ (.slice Ao33 t164.length co33 : Value).ownBlock ∧ some k_ ≠ (.slice Ao26 y171.length co26 : Value).ownBlock ∧ some k_ ≠ (v176 : Value).ownBlock ∧ some k_ ≠ (.slice Ao34 y182.length co34 : Value).ownBlock)) (Kd.R_apart' (Kd.R_apart' (Kd.R_apart' (Kd.R_apart' (Kd.R_apart' (HO188.out) (Kd.N_typed HO163.out) (by decide)) (Kd.N_typed HO167.out) (by decide)) (Kd.N_typed HO173.out) (by decide)) (Kd.N_typed HO177.out) (by decide)) (Kd.N_typed HO184.out) (by decide)) (fun k_ hk => ⟨hk.1.1.1.1.2, ⟨hk.1.1.1.2, ⟨hk.1.1.2, ⟨hk.1.2, hk.2⟩⟩⟩⟩))).2.1 (Kd.R_F (zG (ok' := (fun k_ => some k_ ≠ (.slice Ao19 y161.length co19 : Value).ownBlock ∧ some k_ ≠ (.slice Ao33 t164.length co33 : Value).ownBlock ∧ some k_ ≠ (.slice Ao26 y171.length co26 : Value).ownBlock ∧ some k_ ≠ (v176 : Value).ownBlock ∧ some k_ ≠ (.slice Ao34 y182.length co34 : Value).ownBlock)) (Kd.R_apart' (Kd.R_apart' (Kd.R_apart' (Kd.R_apart' (Kd.R_apart' (HO188.out) (Kd.N_typed HO163.out) (by decide)) (Kd.N_typed HO167.out) (by decide)) (Kd.N_typed HO173.out) (by decide)) (Kd.N_typed HO177.out) (by decide)) (Kd.N_typed HO184.out) (by decide)) (fun k_ hk => ⟨hk.1.1.1.1.2, ⟨hk.1.1.1.2, ⟨hk.1.1.2, ⟨hk.1.2, hk.2⟩⟩⟩⟩))))) (Reps.none _ _))); intro v190 w38 ho39 hb hg_ hnew_; clear hg_ hnew_; (first | rw [← Ny189.out] at ho39 | (simp only [Int.reduceToNat] at ho39; rw [← Ny189.out] at ho39)); have n0_ := zm (Kd.N_elder' (by (with_reducible repeat (first | apply Kd.N_alloc | apply Kd.N_drewN | apply Kd.N_drew)); exact HO163.out) (Kd.N_base ho39) hb); have n1_ := zm (Kd.N_elder' (by (with_reducible repeat (first | apply Kd.N_alloc | apply Kd.N_drewN | apply Kd.N_drew)); exact HO167.out) (Kd.N_base ho39) hb); have n2_ := zm (Kd.N_elder' (by (with_reducible repeat (first | apply Kd.N_alloc | apply Kd.N_drewN | apply Kd.N_drew)); exact HO173.out) (Kd.N_base ho39) hb); have n3_ := zm (Kd.N_elder' (by (with_reducible repeat (first | apply Kd.N_alloc | apply Kd.N_drewN | apply Kd.N_drew)); exact HO177.out) (Kd.N_base ho39) hb); have n4_ := zm (Kd.N_elder' (by (with_reducible repeat (first | apply Kd.N_alloc | apply Kd.N_drewN | apply Kd.N_drew)); exact HO184.out) (Kd.N_base ho39) hb); have n5_ := zm (Kd.N_lower ho39 (zE (by repeat (first | (with_reducible first | exact HB.out | apply ze | apply zd | apply zf) | exact HB.out)))); have n6_ := zm (zJ (by repeat (first | (with_reducible first | exact HB.out | apply ze | apply zd | apply zf) | exact HB.out)) hb); clear HO163; clear HO167; clear HO173; clear HO177; clear HO184; clear HB; clear HO188; have HO163 := n0_; have HO167 := n1_; have HO173 := n2_; have HO177 := n3_; have HO184 := n4_; have HO191 := n5_; have HB := n6_; clear n0_ n1_ n2_ n3_ n4_ n5_ n6_; clear hb ho39; obtain ⟨Ao40, co40, eo40⟩ := Kd.N_slice HO177.out; subst eo40; obtain ⟨Ao41, co41, eo41⟩ := Kd.N_slice HO191.out; subst eo41) | (go_at_call 17; (with_reducible refine (psalteryref12_Same.calls k _ _ t174 _ _ y189 true _ ?side1 ?side2 ?side3 ?side4 A8.out).mono ?_); (case side1 => repeat (first | exact (Kd.N_reads' HO177.out).2.2 | (with_reducible refine Kd.C_alloc ?_ _) | (with_reducible refine Kd.C_drewN ?_ _) | (with_reducible refine Kd.C_drew ?_))); (case side2 => exact (Kd.N_reads' HO177.out).2.1); (case side3 => repeat (first | exact (Kd.N_reads' HO191.out).2.2 | (with_reducible refine Kd.C_alloc ?_ _) | (with_reducible refine Kd.C_drewN ?_ _) | (with_reducible refine Kd.C_drew ?_))); (case side4 => exact (Kd.N_reads' HO191.out).2.1); rintro e w' ⟨rfl, ⟨nd, rfl⟩⟩) | (go_at_call 9; (with_reducible refine (alloc_Right.calls 17 2 true _ A11.out).mono ?_); rintro e w' ⟨rfl, ⟨nd, rfl⟩⟩) | (go_at_call 9; (with_reducible refine (alloc_Right.calls 16 2 t194 _ A13.out).mono ?_); rintro e w' ⟨rfl, ⟨nd, rfl⟩⟩))
       go_ret
       exact ⟨by first | rfl | (simp [errW_none, errW_some] <;> rfl) | (simp [*, errW_none, errW_some] <;> rfl), by repeat (first | (with_reducible first | exact HB.out | apply ze | apply zd | apply zf) | exact HB.out)⟩
      ·
       replace c12 := Bool.eq_false_iff.mpr c12
       subst c12
       have H1 : (none) = some r := by rw [if_neg (show ¬ (false = true) by decide)] at H; exact H
       clear H
       have H := H1
       clear H1
       exact absurd H (by simp)
     ·
      rw [if_neg c10] at H
      exact absurd H (by simp)
    ·
     replace c9 := Bool.eq_false_iff.mpr c9
     subst c9
     have H1 : (none) = some r := by rw [if_neg (show ¬ (false = true) by decide)] at H; exact H
     clear H
     have H := H1
     clear H1
     exact absurd H (by simp)
   ·
    rw [if_neg c7] at H
    exact absurd H (by simp)
  ·
   replace c6 := Bool.eq_false_iff.mpr c6
   subst c6
   have H1 : (none) = some r := by rw [if_neg (show ¬ (false = true) by decide)] at H; exact H
   clear H
   have H := H1
   clear H1
   exact absurd H (by simp)
 ·
  rw [if_neg c4] at H
  exact absurd H (by simp)

end Go.Proofs.Ytbaaedpjaanjnaa.Prt

namespace Go.Proofs.Ytbaaedpjaanjnaa.Prt
open Go.RowKit Go.Proofs.YtbaaedpjaanjnaaW.PrintWords Go.Proofs.YtbaaedpjaanjnaaW.PrintLast Go.Proofs.YtbaaedpjaanjnaaW.PrintMore
attribute [local go_sem] max2_int min2_int max_two min_two max_three min_three max_four min_four   -- for this text's walks alone
set_option linter.unusedVariables false
set_option linter.unusedSimpArgs false

/-! ### psalterylaw12_AllocApart: function 7 -/
mutual
def psalterylaw12_AllocApart.j0 : Nat → Int → List (List Int) → List (List Int) → List (List Int) → Bool → Option (Bool)
 | 0, _, _, _, _, _ => none
 | k + 1, x0, x4, x5, x6, x27 => if x27 = true then ((psalterylaw12_knows.f k).bind fun t326 => (some t326)) else ((alloc_Pulses.f k x0 2 x4).bind fun bt327 => ((alloc_Pulses.f k x0 2 x5).bind fun bt331 => ((alloc_Pulses.f k x0 2 x6).bind fun bt335 => (if bt327.2 = 0 then (if bt331.2 = 0 then (psalterylaw12_AllocApart.j1 k bt327.1 bt327.2 bt331.1 bt335.1 (bt335.2 != 0)) else (psalterylaw12_AllocApart.j1 k bt327.1 bt327.2 bt331.1 bt335.1 true)) else (psalterylaw12_AllocApart.j1 k bt327.1 bt327.2 bt331.1 bt335.1 true)))))
def psalterylaw12_AllocApart.j1 : Nat → List (List Int) → Int → List (List Int) → List (List Int) → Bool → Option (Bool)
 | 0, _, _, _, _, _ => none
 | k + 1, x9, x10, x11, x13, x62 => if x62 = true then (if x10 = 0 then ((psalterylaw12_knows.f k).bind fun t339 => (some t339)) else (if (x9.length : Int) = 0 then ((psalterylaw12_knows.f k).bind fun t340 => (some t340)) else (none))) else (if (x9.length : Int) = 2 then (if (x11.length : Int) = 2 then (if (x13.length : Int) = 2 then (if 0 < (x9.length : Int) then (if 0 < (x11.length : Int) then ((psalteryref06_Same.f k (rd_L1 x9 0) (rd_L1 x11 0)).bind fun t343 => (if t343 = true then (if 1 < (x13.length : Int) then ((psalteryref06_Same.f k (rd_L1 x9 0) (rd_L1 x13 1)).bind fun t346 => (if t346 = true then (if 1 < (x9.length : Int) then (if 0 < (x13.length : Int) then ((psalteryref06_Same.f k (rd_L1 x9 1) (rd_L1 x13 0)).bind fun t349 => (if t349 = true then ((psalterylaw12_knows.f k).bind fun t350 => (some t350)) else (none))) else (none)) else (none)) else (none))) else (none)) else (none))) else (none)) else (none)) else (none)) else (none)) else (none))
end
def psalterylaw12_AllocApart.f7 (k : Nat) (a0 : Int) (l1 : List Int) (l2 : List Int) (l3 : List Int) (l4 : List (List Int)) (l5 : List (List Int)) (l6 : List (List Int)) : Option (Bool) := if (l1.length : Int) > 100 then (psalterylaw12_AllocApart.j0 k a0 l4 l5 l6 true) else (if (l2.length : Int) > 100 then (psalterylaw12_AllocApart.j0 k a0 l4 l5 l6 true) else (psalterylaw12_AllocApart.j0 k a0 l4 l5 l6 (decide ((l3.length : Int) > 100))))
theorem psalterylaw12_AllocApart.mono_l : ∀ k, (∀ y0 y1 y2 y3 y4, LeO (psalterylaw12_AllocApart.j0 k y0 y1 y2 y3 y4) (psalterylaw12_AllocApart.j0 (k + 1) y0 y1 y2 y3 y4)) ∧ (∀ y0 y1 y2 y3 y4, LeO (psalterylaw12_AllocApart.j1 k y0 y1 y2 y3 y4) (psalterylaw12_AllocApart.j1 (k + 1) y0 y1 y2 y3 y4))
 | 0 => ⟨fun _ _ _ _ _ r h => by simp [psalterylaw12_AllocApart.j0] at h, fun _ _ _ _ _ r h => by simp [psalterylaw12_AllocApart.j1] at h⟩
 | k + 1 => by
  obtain ⟨ih0, ih1⟩ := psalterylaw12_AllocApart.mono_l k
  refine ⟨?_, ?_⟩
  ·
   intro y0 y1 y2 y3 y4
   unfold psalterylaw12_AllocApart.j0
   repeat' first
   | (with_reducible exact ih0 _ _ _ _ _)
   | (with_reducible exact ih1 _ _ _ _ _)
   | (with_reducible exact alloc_Pulses.mono _ _ _ _)
   | (with_reducible exact psalterylaw12_knows.mono _)
   | (with_reducible exact psalteryref06_Same.mono _ _ _)
   | (with_reducible exact LeO.refl _)
   | (with_reducible exact LeO.none _)
   | (with_reducible refine LeO.ite ?_ ?_)
   | (with_reducible refine LeO.bind ?_ (fun _ => ?_))
   | exact ih0 _ _ _ _ _
   | exact ih1 _ _ _ _ _
   | exact alloc_Pulses.mono _ _ _ _
   | exact psalterylaw12_knows.mono _
   | exact psalteryref06_Same.mono _ _ _
   | exact LeO.none _
   | refine LeO.ite ?_ ?_
   | refine LeO.bind ?_ (fun _ => ?_)
  ·
   intro y0 y1 y2 y3 y4
   unfold psalterylaw12_AllocApart.j1
   repeat' first
   | (with_reducible exact ih0 _ _ _ _ _)
   | (with_reducible exact ih1 _ _ _ _ _)
   | (with_reducible exact alloc_Pulses.mono _ _ _ _)
   | (with_reducible exact psalterylaw12_knows.mono _)
   | (with_reducible exact psalteryref06_Same.mono _ _ _)
   | (with_reducible exact LeO.refl _)
   | (with_reducible exact LeO.none _)
   | (with_reducible refine LeO.ite ?_ ?_)
   | (with_reducible refine LeO.bind ?_ (fun _ => ?_))
   | exact ih0 _ _ _ _ _
   | exact ih1 _ _ _ _ _
   | exact alloc_Pulses.mono _ _ _ _
   | exact psalterylaw12_knows.mono _
   | exact psalteryref06_Same.mono _ _ _
   | exact LeO.none _
   | refine LeO.ite ?_ ?_
   | refine LeO.bind ?_ (fun _ => ?_)
theorem psalterylaw12_AllocApart.mono : ∀ a0 a1 a2 a3 a4 a5 a6 k, LeO (psalterylaw12_AllocApart.f7 k a0 a1 a2 a3 a4 a5 a6) (psalterylaw12_AllocApart.f7 (k + 1) a0 a1 a2 a3 a4 a5 a6) := by
 intro a0 a1 a2 a3 a4 a5 a6 k
 obtain ⟨ih0, ih1⟩ := psalterylaw12_AllocApart.mono_l k
 unfold psalterylaw12_AllocApart.f7
 repeat' first
   | (with_reducible exact ih0 _ _ _ _ _)
   | (with_reducible exact ih1 _ _ _ _ _)
   | (with_reducible exact alloc_Pulses.mono _ _ _ _)
   | (with_reducible exact psalterylaw12_knows.mono _)
   | (with_reducible exact psalteryref06_Same.mono _ _ _)
   | (with_reducible exact LeO.refl _)
   | (with_reducible exact LeO.none _)
   | (with_reducible refine LeO.ite ?_ ?_)
   | (with_reducible refine LeO.bind ?_ (fun _ => ?_))
   | exact ih0 _ _ _ _ _
   | exact ih1 _ _ _ _ _
   | exact alloc_Pulses.mono _ _ _ _
   | exact psalterylaw12_knows.mono _
   | exact psalteryref06_Same.mono _ _ _
   | exact LeO.none _
   | refine LeO.ite ?_ ?_
   | refine LeO.bind ?_ (fun _ => ?_)
def psalterylaw12_AllocApart.T8 : Bool × List (List Nat × List Nat) := (true, [([], []), ([0], [0]), ([1], [1]), ([2], [2]), ([3], [3]), ([4, 3], [3, 4]), ([5, 3], [3, 5]), ([3, 6], [3, 6]), ([7, 3], [7]), ([8], [8]), ([9, 8], [8, 9]), ([10, 8], [8, 10]), ([8, 11], [8, 11]), ([12, 8], [12]), ([13], [13]), ([14, 13], [13, 14]), ([15, 13], [13, 15]), ([13], [13]), ([17, 13], [13, 17]), ([18, 13], [13, 18]), ([16, 19, 13, 13], [13, 16, 19]), ([13, 20], [13, 20]), ([21, 20], [21]), ([22], [22]), ([23, 22], [22, 23]), ([24, 22], [22, 24]), ([22], [22]), ([26, 22], [22, 26]), ([27, 22], [22, 27]), ([25, 28, 22, 22], [22, 25, 28]), ([22, 29], [22, 29]), ([30, 29], [30]), ([31], [31]), ([32, 31], [31, 32]), ([33, 31], [31, 33]), ([31], [31]), ([35, 31], [31, 35]), ([36, 31], [31, 36]), ([34, 37, 31, 31], [31, 34, 37]), ([31, 38], [31, 38]), ([39, 38], [39]), ([40, 40], [40]), ([40, 41], [40, 41]), ([42, 41, 0, 1, 2, 3, 4, 5, 6, 7, 8, 9, 10, 11, 12, 13, 14, 15, 16, 17, 18, 19, 20, 21, 22, 23, 24, 25, 26, 27, 28, 29, 30, 31, 32, 33, 34, 35, 36, 37, 38, 39, 40, 41, 42], [42])])
def psalterylaw12_AllocApart.B8 : List Nat := [0, 1, 3, 7, 15, 31, 63, 127, 255, 511, 1023, 2047, 4095, 8191, 16383, 32767, 65535, 16383, 147455, 409599, 1048575, 2097151, 4194303, 8388607, 16777215, 33554431, 8388607, 75497471, 209715199, 536870911, 1073741823, 2147483647, 4294967295, 8589934591, 17179869183, 4294967295, 38654705663, 107374182399, 274877906943, 549755813887, 1099511627775, 2199023255551, 4398046511103, 8796093022207]
theorem psalterylaw12_AllocApart.tab8 : rtab .any (opsOf Try.f7 8) = psalterylaw12_AllocApart.T8 := by kernel_rfl
theorem psalterylaw12_AllocApart.bits8 : waitsOk psalterylaw12_AllocApart.T8.2 psalterylaw12_AllocApart.B8 = true := by kernel_rfl
/-- The law's own function: the rows are made of what came in. -/
def psalterylaw12_AllocApart.f (k : Nat) (a0 : Int) (l1 l2 l3 : List Int) : Option (Bool) := psalterylaw12_AllocApart.f7 k a0 l1 l2 l3 [l1, l2] [l1, l3] [l2, l1]
theorem C_pair {W : World} {t : Nat} {A1 A2 : Option Addr} {c1 c2 : Nat} {l1 l2 : List Int} (h1 : Kd.C (Kd.int .i64) W A1 l1.length l1) (k1 : l1.length ≤ c1) (h2 : Kd.C (Kd.int .i64) W A2 l2.length l2) (k2 : l2.length ≤ c2) :
  Kd.C (Kd.slice 3 (Kd.int .i64)) (W.alloc (.cells #[.slice A1 l1.length c1, .slice A2 l2.length c2] t)) (some ⟨W.heap.size, 0, none⟩) 2 [l1, l2] := by
 have hb := ze (Below.refl W.heap.size W) (.cells #[.slice A1 l1.length c1, .slice A2 l2.length c2] t)
 refine ⟨rfl, by decide, fun _ => ⟨_, rfl, fun j p hj => ?_⟩⟩
 match j, hj with
 | 0, hj =>
  obtain rfl : l1 = p := by simpa using hj
  refine ⟨[.slice A1 l1.length c1], rfl, ⟨A1, c1, rfl, k1, Kd.C_below h1 hb⟩, fun i u hu => ?_⟩
  match i, hu with
  | 0, hu =>
   obtain rfl : Value.slice A1 l1.length c1 = u := by simpa using hu
   exact World.cell?_alloc_at _ _ _ _ (by simp)
 | 1, hj =>
  obtain rfl : l2 = p := by simpa using hj
  refine ⟨[.slice A2 l2.length c2], rfl, ⟨A2, c2, rfl, k2, Kd.C_below h2 hb⟩, fun i u hu => ?_⟩
  match i, hu with
  | 0, hu =>
   obtain rfl : Value.slice A2 l2.length c2 = u := by simpa using hu
   exact World.cell?_alloc_at _ _ _ _ (by simp)
theorem pair_event {P : Program} {ops : Array Oper} {rest : List Oper} {o : Oper} {a : Act} {Q : Exit → Act → World → Prop} {W : World} {t : Nat} {A1 A2 : Option Addr} {c1 c2 : Nat} {l1 l2 : List Int} {l : List (List Int)} (hl : l = [l1, l2]) (hgd : o.guard = none) {N : Tmp} (_hd : o.dst = some N)
  (hrun : (execOp a.eval o).run P W = .ok (.value (.slice (some ⟨W.heap.size, 0, none⟩) 2 2)) (W.alloc (.cells #[.slice A1 l1.length c1, .slice A2 l2.length c2] t)))
  (h1 : Kd.C (Kd.int .i64) W A1 l1.length l1) (k1 : l1.length ≤ c1) (h2 : Kd.C (Kd.int .i64) W A2 l2.length l2) (k2 : l2.length ≤ c2)
  (h : ∀ (A : Option Addr) (W1 : World), Kd.C (Kd.slice 3 (Kd.int .i64)) W1 A l.length l → Below W.heap.size W W1 → wpList P ops Q rest (a.put o.dst (.slice A l.length l.length)) W1) : wpList P ops Q (o :: rest) a W := by
 subst hl
 exact Kd.event_run hgd hrun (h _ _ (C_pair h1 k1 h2 k2) (ze (Below.refl _ _) _))
set_option maxHeartbeats 8000000 in
set_option maxRecDepth 100000 in
theorem psalterylaw12_AllocApart.calls (k : Nat) (a0 : Int) (A1 : Option Addr) (c1 : Nat) (l1 : List Int) (A2 : Option Addr) (c2 : Nat) (l2 : List Int) (A3 : Option Addr) (c3 : Nat) (l3 : List Int) (r : Bool) (w : World) (hr1 : Kd.C (Kd.int .i64) w A1 l1.length l1) (hc1 : l1.length ≤ c1) (hr2 : Kd.C (Kd.int .i64) w A2 l2.length l2) (hc2 : l2.length ≤ c2) (hr3 : Kd.C (Kd.int .i64) w A3 l3.length l3) (hc3 : l3.length ≤ c3) (h : psalterylaw12_AllocApart.f k a0 l1 l2 l3 = some r) :
  Calls Try.prog 7 #[.int .i64 a0, .slice A1 l1.length c1, .slice A2 l2.length c2, .slice A3 l3.length c3] w fun e w' => e = .returned (.bool r) ∧ Below w.heap.size w w' := by
 unfold psalterylaw12_AllocApart.f at h
 obtain ⟨l4, he4⟩ : ∃ l : List (List Int), l = [l1, l2] := ⟨_, rfl⟩
 obtain ⟨l5, he5⟩ : ∃ l : List (List Int), l = [l1, l3] := ⟨_, rfl⟩
 obtain ⟨l6, he6⟩ : ∃ l : List (List Int), l = [l2, l1] := ⟨_, rfl⟩
 rw [← he4, ← he5, ← he6] at h
 have HE4 := zm he4
 have HE5 := zm he5
 have HE6 := zm he6
 clear he4 he5 he6
 have HR1 := zm hr1
 have HC1 := zm hc1
 clear hr1 hc1
 have HR2 := zm hr2
 have HC2 := zm hc2
 clear hr2 hc2
 have HR3 := zm hr3
 have HC3 := zm hc3
 clear hr3 hc3
 have HB := zm (Below.refl w.heap.size w)
 have H : (if (l1.length : Int) > 100 then (psalterylaw12_AllocApart.j0 k a0 l4 l5 l6 true) else (if (l2.length : Int) > 100 then (psalterylaw12_AllocApart.j0 k a0 l4 l5 l6 true) else (psalterylaw12_AllocApart.j0 k a0 l4 l5 l6 (decide ((l3.length : Int) > 100))))) = some r := h
 clear h
 have HC8 := zm H
 clear H
 go_enter Try.func7, Try.ntmps7
 go_upto_region 1 with (fail)
 go_cut [27] (fun v27 wc => ∃ (kq : Nat) (x27_7 : Bool), v27 = .bool x27_7 ∧ Aside0 (psalterylaw12_AllocApart.j0 kq a0 l4 l5 l6 x27_7 = some r) ∧ Aside0 (kq ≤ k) ∧ Aside0 (Below w.heap.size w wc))
 case first =>
  have H := HC8.out
  clear HC8
  by_cases c9 : (l1.length : Int) > 100
  ·
   rw [if_pos c9] at H
   have c9b0 : decide (100 < (l1.length : Int)) = true := decide_eq_true c9
   have c9b1 : decide (100 < l1.length) = true := decide_eq_true (by omega)
   clear c9
   (first | rw [c9b0] | (simp only [i64_w, i32_w]; rw [c9b0]) | skip)
   have H' := zm H
   clear H
   go_wp2
   go_meet
   case rel => exact ⟨_, (true), (by first | rfl | (simp; done) | (simp [*]; done)), H', ⟨by first | omega | exact Nat.le_refl _⟩, ⟨by repeat (first | (with_reducible first | exact HB.out | apply ze | apply zd | apply zf) | exact HB.out)⟩⟩
  ·
   rw [if_neg c9] at H
   have c9b0 : decide (100 < (l1.length : Int)) = false := decide_eq_false c9
   have c9b1 : decide (100 < l1.length) = false := decide_eq_false (by omega)
   clear c9
   (first | rw [c9b0] | (simp only [i64_w, i32_w]; rw [c9b0]) | skip)
   by_cases c10 : (l2.length : Int) > 100
   ·
    rw [if_pos c10] at H
    have c10b0 : decide (100 < (l2.length : Int)) = true := decide_eq_true c10
    have c10b1 : decide (100 < l2.length) = true := decide_eq_true (by omega)
    clear c10
    have H' := zm H
    clear H
    go_wp2
    go_meet
    case rel => exact ⟨_, (true), (by first | rfl | (simp; done) | (simp [*]; done)), H', ⟨by first | omega | exact Nat.le_refl _⟩, ⟨by repeat (first | (with_reducible first | exact HB.out | apply ze | apply zd | apply zf) | exact HB.out)⟩⟩
   ·
    rw [if_neg c10] at H
    have c10b0 : decide (100 < (l2.length : Int)) = false := decide_eq_false c10
    have c10b1 : decide (100 < l2.length) = false := decide_eq_false (by omega)
    clear c10
    have H' := zm H
    clear H
    go_wp2
    go_meet
    case rel => exact ⟨_, (decide ((l3.length : Int) > 100)), (by first | rfl | (simp; done) | (simp [*]; done)), H', ⟨by first | omega | exact Nat.le_refl _⟩, ⟨by repeat (first | (with_reducible first | exact HB.out | apply ze | apply zd | apply zf) | exact HB.out)⟩⟩
 case rest =>
  clear HC8
  try clear c1
  try clear c2
  try clear p2
  try clear c3
  try clear c4
  try clear c5
  try clear c6
  try clear c7
  try clear c9
  try clear c9b0
  try clear c9b1
  try clear c10
  try clear c10b0
  try clear c10b1
  obtain ⟨kq, x27_7, rfl, HA, HJ7, HB⟩ := hcut
  cases kq with
  | zero => exact absurd HA.out (by simp [psalterylaw12_AllocApart.j0])
  | succ kj7 =>
   have H := HA.out
   clear HA
   simp only [psalterylaw12_AllocApart.j0] at H
   by_cases c11 : x27_7 = true
   ·
    subst c11
    have H1 : ((psalterylaw12_knows.f kj7).bind fun t326 => (some t326)) = some r := by rw [if_pos rfl] at H; exact H
    clear H
    have H := H1
    clear H1
    replace H := Option.bind_eq_some_iff.mp H
    obtain ⟨t326, A120, H⟩ := H
    replace H : (some t326) = some r := H
    have A12 := zm A120
    clear A120
    obtain rfl := Option.some.inj H
    go_wp2_with (first | ((with_reducible refine gate_callee (f := 13) rfl ?_); refine goesL_ (some 28) rfl rfl Try.func13 (by kernel_rfl) rfl #[] rfl (by (try simp only [List.map_toArray, List.map_cons, List.map_nil]); first | done | rfl | (simp only [List.length_drop, List.length_take]; rfl)) ?_; (with_reducible refine (psalterylaw12_knows.calls kj7  t326 _ A12.out).mono ?_); rintro e w13 ⟨rfl, hb⟩; refine ⟨_, rfl, ?_⟩; have n0_ := zm (zJ (by repeat (first | (with_reducible first | exact HB.out | apply ze | apply zd | apply zf) | exact HB.out)) hb); clear HB; have HB := n0_; clear n0_; (try clear hb); (try clear hb2); (try clear hk); (try clear hi)))
    go_ret
    exact ⟨by first | rfl | (simp [errW_none, errW_some] <;> rfl) | (simp [*, errW_none, errW_some] <;> rfl), by repeat (first | (with_reducible first | exact HB.out | apply ze | apply zd | apply zf) | exact HB.out)⟩
   ·
    replace c11 := Bool.eq_false_iff.mpr c11
    subst c11
    have H1 : ((alloc_Pulses.f kj7 a0 2 l4).bind fun bt327 => ((alloc_Pulses.f kj7 a0 2 l5).bind fun bt331 => ((alloc_Pulses.f kj7 a0 2 l6).bind fun bt335 => (if bt327.2 = 0 then (if bt331.2 = 0 then (psalterylaw12_AllocApart.j1 kj7 bt327.1 bt327.2 bt331.1 bt335.1 (bt335.2 != 0)) else (psalterylaw12_AllocApart.j1 kj7 bt327.1 bt327.2 bt331.1 bt335.1 true)) else (psalterylaw12_AllocApart.j1 kj7 bt327.1 bt327.2 bt331.1 bt335.1 true))))) = some r := by rw [if_neg (show ¬ (false = true) by decide)] at H; exact H
    clear H
    have H := H1
    clear H1
    replace H := Option.bind_eq_some_iff.mp H
    obtain ⟨⟨t327, t328⟩, A140, H⟩ := H
    replace H : ((alloc_Pulses.f kj7 a0 2 l5).bind fun bt331 => ((alloc_Pulses.f kj7 a0 2 l6).bind fun bt335 => (if t328 = 0 then (if bt331.2 = 0 then (psalterylaw12_AllocApart.j1 kj7 t327 t328 bt331.1 bt335.1 (bt335.2 != 0)) else (psalterylaw12_AllocApart.j1 kj7 t327 t328 bt331.1 bt335.1 true)) else (psalterylaw12_AllocApart.j1 kj7 t327 t328 bt331.1 bt335.1 true)))) = some r := H
    have A14 := zm A140
    clear A140
    replace H := Option.bind_eq_some_iff.mp H
    obtain ⟨⟨t331, t332⟩, A150, H⟩ := H
    replace H : ((alloc_Pulses.f kj7 a0 2 l6).bind fun bt335 => (if t328 = 0 then (if t332 = 0 then (psalterylaw12_AllocApart.j1 kj7 t327 t328 t331 bt335.1 (bt335.2 != 0)) else (psalterylaw12_AllocApart.j1 kj7 t327 t328 t331 bt335.1 true)) else (psalterylaw12_AllocApart.j1 kj7 t327 t328 t331 bt335.1 true))) = some r := H
    have A15 := zm A150
    clear A150
    replace H := Option.bind_eq_some_iff.mp H
    obtain ⟨⟨t335, t336⟩, A160, H⟩ := H
    replace H : (if t328 = 0 then (if t332 = 0 then (psalterylaw12_AllocApart.j1 kj7 t327 t328 t331 t335 (t336 != 0)) else (psalterylaw12_AllocApart.j1 kj7 t327 t328 t331 t335 true)) else (psalterylaw12_AllocApart.j1 kj7 t327 t328 t331 t335 true)) = some r := H
    have A16 := zm A160
    clear A160
    have HC17 := zm H
    clear H
    go_upto_region 6 with (first | ((with_reducible refine gate_dst (N := 33) rfl ?_); refine pair_event (t := 34) HE4.out ?hg (N := 33) ?hd ?hr (Kd.C_below HR1.out (by repeat (first | (with_reducible first | exact HB.out | apply ze | apply zd | apply zf) | exact HB.out))) HC1.out (Kd.C_below HR2.out (by repeat (first | (with_reducible first | exact HB.out | apply ze | apply zd | apply zf) | exact HB.out))) HC2.out ?_; (case hd => rfl); (case hg => rfl); (case hr => first | (go_simp; done) | (go_simp; rfl)); intro A4 w9 hp hb; have HR4 := zm hp; clear hp; have n8_ := zm (zJ (by repeat (first | (with_reducible first | exact HB.out | apply ze | apply zd | apply zf) | exact HB.out)) hb); clear HB; have HB := n8_; clear n8_; clear hb) | ((with_reducible refine gate_callee (f := 15) rfl ?_); refine goesL_ (some 34) rfl rfl Try.func15 (by kernel_rfl) rfl #[.int .i64 a0, .int .i64 2, .slice A4 l4.length l4.length] rfl (by (try simp only [List.map_toArray, List.map_cons, List.map_nil]); first | done | rfl | (simp only [List.length_drop, List.length_take]; rfl)) ?_; (with_reducible refine (alloc_Pulses.calls kj7 a0 2 _ _ l4 t327 t328 _ ?side1 ?side2 A14.out).mono ?_); (case side1 => repeat (first | exact HR4.out | (with_reducible refine Kd.C_alloc ?_ _) | (with_reducible refine Kd.C_drewN ?_ _) | (with_reducible refine Kd.C_drew ?_))); (case side2 => exact Nat.le_refl _); rintro e w18 ⟨v329, rfl, ho0, hb⟩; refine ⟨_, rfl, ?_⟩; have n0_ := zm (Kd.S_lower ho0 (zE (by repeat (first | (with_reducible first | exact HB.out | apply ze | apply zd | apply zf) | exact HB.out)))); have n1_ := zm (zJ (by repeat (first | (with_reducible first | exact HB.out | apply ze | apply zd | apply zf) | exact HB.out)) hb); clear HB; have HO330 := n0_; have HB := n1_; clear n0_ n1_; (try clear hb); (try clear hb2); (try clear hk); (try clear hi); (try clear ho0)) | ((with_reducible refine gate_dst (N := 41) rfl ?_); refine pair_event (t := 34) HE5.out ?hg (N := 41) ?hd ?hr (Kd.C_below HR1.out (by repeat (first | (with_reducible first | exact HB.out | apply ze | apply zd | apply zf) | exact HB.out))) HC1.out (Kd.C_below HR3.out (by repeat (first | (with_reducible first | exact HB.out | apply ze | apply zd | apply zf) | exact HB.out))) HC3.out ?_; (case hd => rfl); (case hg => rfl); (case hr => first | (go_simp; done) | (go_simp; rfl)); intro A5 w9 hp hb; have HR5 := zm hp; clear hp; have n7_ := zm (Kd.S_below HO330.out hb); clear HO330; have HO330 := n7_; clear n7_; have n8_ := zm (zJ (by repeat (first | (with_reducible first | exact HB.out | apply ze | apply zd | apply zf) | exact HB.out)) hb); clear HB; have HB := n8_; clear n8_; clear hb) | ((with_reducible refine gate_callee (f := 15) rfl ?_); refine goesL_ (some 42) rfl rfl Try.func15 (by kernel_rfl) rfl #[.int .i64 a0, .int .i64 2, .slice A5 l5.length l5.length] rfl (by (try simp only [List.map_toArray, List.map_cons, List.map_nil]); first | done | rfl | (simp only [List.length_drop, List.length_take]; rfl)) ?_; (with_reducible refine (alloc_Pulses.calls kj7 a0 2 _ _ l5 t331 t332 _ ?side1 ?side2 A15.out).mono ?_); (case side1 => repeat (first | exact HR5.out | (with_reducible refine Kd.C_alloc ?_ _) | (with_reducible refine Kd.C_drewN ?_ _) | (with_reducible refine Kd.C_drew ?_))); (case side2 => exact Nat.le_refl _); rintro e w19 ⟨v333, rfl, ho0, hb⟩; refine ⟨_, rfl, ?_⟩; have n0_ := zm (Kd.S_elder' (by (with_reducible repeat (first | apply Kd.S_alloc | apply Kd.S_drewN | apply Kd.S_drew)); exact HO330.out) (Kd.S_base ho0) hb); have n1_ := zm (Kd.S_lower (Kd.S_new' ho0 (Kd.S_lt (by (with_reducible repeat (first | apply Kd.S_alloc | apply Kd.S_drewN | apply Kd.S_drew)); exact HO330.out))) (zE (by repeat (first | (with_reducible first | exact HB.out | apply ze | apply zd | apply zf) | exact HB.out)))); have n2_ := zm (zJ (by repeat (first | (with_reducible first | exact HB.out | apply ze | apply zd | apply zf) | exact HB.out)) hb); clear HO330; clear HB; have HO330 := n0_; have HO334 := n1_; have HB := n2_; clear n0_ n1_ n2_; (try clear hb); (try clear hb2); (try clear hk); (try clear hi); (try clear ho0)) | ((with_reducible refine gate_dst (N := 49) rfl ?_); refine pair_event (t := 34) HE6.out ?hg (N := 49) ?hd ?hr (Kd.C_below HR2.out (by repeat (first | (with_reducible first | exact HB.out | apply ze | apply zd | apply zf) | exact HB.out))) HC2.out (Kd.C_below HR1.out (by repeat (first | (with_reducible first | exact HB.out | apply ze | apply zd | apply zf) | exact HB.out))) HC1.out ?_; (case hd => rfl); (case hg => rfl); (case hr => first | (go_simp; done) | (go_simp; rfl)); intro A6 w9 hp hb; have HR6 := zm hp; clear hp; have n7_ := zm (Kd.S_below HO330.out hb); clear HO330; have HO330 := n7_; clear n7_; have n7_ := zm (Kd.S_below HO334.out hb); clear HO334; have HO334 := n7_; clear n7_; have n8_ := zm (zJ (by repeat (first | (with_reducible first | exact HB.out | apply ze | apply zd | apply zf) | exact HB.out)) hb); clear HB; have HB := n8_; clear n8_; clear hb) | ((with_reducible refine gate_callee (f := 15) rfl ?_); refine goesL_ (some 50) rfl rfl Try.func15 (by kernel_rfl) rfl #[.int .i64 a0, .int .i64 2, .slice A6 l6.length l6.length] rfl (by (try simp only [List.map_toArray, List.map_cons, List.map_nil]); first | done | rfl | (simp only [List.length_drop, List.length_take]; rfl)) ?_; (with_reducible refine (alloc_Pulses.calls kj7 a0 2 _ _ l6 t335 t336 _ ?side1 ?side2 A16.out).mono ?_); (case side1 => repeat (first | exact HR6.out | (with_reducible refine Kd.C_alloc ?_ _) | (with_reducible refine Kd.C_drewN ?_ _) | (with_reducible refine Kd.C_drew ?_))); (case side2 => exact Nat.le_refl _); rintro e w20 ⟨v337, rfl, ho0, hb⟩; refine ⟨_, rfl, ?_⟩; have n0_ := zm (Kd.S_elder' (by (with_reducible repeat (first | apply Kd.S_alloc | apply Kd.S_drewN | apply Kd.S_drew)); exact HO330.out) (Kd.S_base ho0) hb); have n1_ := zm (Kd.S_elder' (by (with_reducible repeat (first | apply Kd.S_alloc | apply Kd.S_drewN | apply Kd.S_drew)); exact HO334.out) (Kd.S_base ho0) hb); have n2_ := zm (Kd.S_lower (Kd.S_new' (Kd.S_new' ho0 (Kd.S_lt (by (with_reducible repeat (first | apply Kd.S_alloc | apply Kd.S_drewN | apply Kd.S_drew)); exact HO330.out))) (Kd.S_lt (by (with_reducible repeat (first | apply Kd.S_alloc | apply Kd.S_drewN | apply Kd.S_drew)); exact HO334.out))) (zE (by repeat (first | (with_reducible first | exact HB.out | apply ze | apply zd | apply zf) | exact HB.out)))); have n3_ := zm (zJ (by repeat (first | (with_reducible first | exact HB.out | apply ze | apply zd | apply zf) | exact HB.out)) hb); clear HO330; clear HO334; clear HB; have HO330 := n0_; have HO334 := n1_; have HO338 := n2_; have HB := n3_; clear n0_ n1_ n2_ n3_; (try clear hb); (try clear hb2); (try clear hk); (try clear hi); (try clear ho0)))
    (try simp only [Act.put, List.setIfInBounds_toArray, List.set_cons_zero, List.set_cons_succ])
    go_cut [62] (fun v62 wc => ∃ (kq : Nat) (x62_16 : Bool), v62 = .bool x62_16 ∧ Aside0 (psalterylaw12_AllocApart.j1 kq t327 t328 t331 t335 x62_16 = some r) ∧ Aside0 (kq ≤ kj7) ∧ Aside0 (Kd.S (Kd.slice 3 (Kd.int .i64)) 34 wc w.heap.size (fun k_ => some k_ ≠ (v333 : Value).ownBlock ∧ some k_ ≠ (v337 : Value).ownBlock) v329 t327) ∧ Aside0 (Kd.S (Kd.slice 3 (Kd.int .i64)) 34 wc w.heap.size (fun k_ => some k_ ≠ (v329 : Value).ownBlock ∧ some k_ ≠ (v337 : Value).ownBlock) v333 t331) ∧ Aside0 (Kd.S (Kd.slice 3 (Kd.int .i64)) 34 wc w.heap.size (fun k_ => some k_ ≠ (v329 : Value).ownBlock ∧ some k_ ≠ (v333 : Value).ownBlock) v337 t335) ∧ Aside0 (Below w.heap.size w wc))
    case first =>
     have H := HC17.out
     clear HC17
     by_cases c21 : t328 = 0
     ·
      rw [if_pos c21] at H
      have c21b0 : (t328 == 0) = true := beq_iff_eq.mpr c21
      have c21b1 : (t328 != 0) = false := bne_eq_false_iff_eq.mpr c21
      clear c21
      (first | rw [c21b0] | (simp only [i64_w, i32_w]; rw [c21b0]) | skip)
      by_cases c22 : t332 = 0
      ·
       rw [if_pos c22] at H
       have c22b0 : (t332 == 0) = true := beq_iff_eq.mpr c22
       have c22b1 : (t332 != 0) = false := bne_eq_false_iff_eq.mpr c22
       clear c22
       have H' := zm H
       clear H
       go_wp2
       go_meet
       case rel => exact ⟨_, ((t336 != 0)), (by first | rfl | (simp; done) | (simp [*]; done)), H', ⟨by have := HJ7.out; first | omega | exact Nat.le_refl _⟩, ⟨by (with_reducible repeat (first | apply Kd.S_alloc | apply Kd.S_drewN | apply Kd.S_drew)); exact Kd.S_mono HO330.out (fun _ hk => ⟨hk.1.2, hk.2⟩)⟩, ⟨by (with_reducible repeat (first | apply Kd.S_alloc | apply Kd.S_drewN | apply Kd.S_drew)); exact Kd.S_mono HO334.out (fun _ hk => ⟨hk.1.2, hk.2⟩)⟩, ⟨by (with_reducible repeat (first | apply Kd.S_alloc | apply Kd.S_drewN | apply Kd.S_drew)); exact Kd.S_mono HO338.out (fun _ hk => ⟨hk.1.2, hk.2⟩)⟩, ⟨by repeat (first | (with_reducible first | exact HB.out | apply ze | apply zd | apply zf) | exact HB.out)⟩⟩
      ·
       rw [if_neg c22] at H
       have c22b0 : (t332 == 0) = false := beq_eq_false_iff_ne.mpr c22
       have c22b1 : (t332 != 0) = true := bne_iff_ne.mpr c22
       have H' := zm H
       clear H
       go_wp2
       go_meet
       case rel => exact ⟨_, (true), (by first | rfl | (simp; done) | (simp [*]; done)), H', ⟨by have := HJ7.out; first | omega | exact Nat.le_refl _⟩, ⟨by (with_reducible repeat (first | apply Kd.S_alloc | apply Kd.S_drewN | apply Kd.S_drew)); exact Kd.S_mono HO330.out (fun _ hk => ⟨hk.1.2, hk.2⟩)⟩, ⟨by (with_reducible repeat (first | apply Kd.S_alloc | apply Kd.S_drewN | apply Kd.S_drew)); exact Kd.S_mono HO334.out (fun _ hk => ⟨hk.1.2, hk.2⟩)⟩, ⟨by (with_reducible repeat (first | apply Kd.S_alloc | apply Kd.S_drewN | apply Kd.S_drew)); exact Kd.S_mono HO338.out (fun _ hk => ⟨hk.1.2, hk.2⟩)⟩, ⟨by repeat (first | (with_reducible first | exact HB.out | apply ze | apply zd | apply zf) | exact HB.out)⟩⟩
     ·
      rw [if_neg c21] at H
      have c21b0 : (t328 == 0) = false := beq_eq_false_iff_ne.mpr c21
      have c21b1 : (t328 != 0) = true := bne_iff_ne.mpr c21
      (first | rw [c21b0] | (simp only [i64_w, i32_w]; rw [c21b0]) | skip)
      have H' := zm H
      clear H
      go_wp2
      go_meet
      case rel => exact ⟨_, (true), (by first | rfl | (simp; done) | (simp [*]; done)), H', ⟨by have := HJ7.out; first | omega | exact Nat.le_refl _⟩, ⟨by (with_reducible repeat (first | apply Kd.S_alloc | apply Kd.S_drewN | apply Kd.S_drew)); exact Kd.S_mono HO330.out (fun _ hk => ⟨hk.1.2, hk.2⟩)⟩, ⟨by (with_reducible repeat (first | apply Kd.S_alloc | apply Kd.S_drewN | apply Kd.S_drew)); exact Kd.S_mono HO334.out (fun _ hk => ⟨hk.1.2, hk.2⟩)⟩, ⟨by (with_reducible repeat (first | apply Kd.S_alloc | apply Kd.S_drewN | apply Kd.S_drew)); exact Kd.S_mono HO338.out (fun _ hk => ⟨hk.1.2, hk.2⟩)⟩, ⟨by repeat (first | (with_reducible first | exact HB.out | apply ze | apply zd | apply zf) | exact HB.out)⟩⟩
    case rest =>
     clear HC17
     try clear c1
     try clear c2
     try clear p2
     try clear c3
     try clear c4
     try clear c5
     try clear c6
     try clear c7
     try clear c9
     try clear c9b0
     try clear c9b1
     try clear c10
     try clear c10b0
     try clear c10b1
     try clear c11
     try clear c13
     try clear c15
     try clear c21
     try clear c21b0
     try clear c21b1
     try clear c22
     try clear c22b0
     try clear c22b1
     try clear p2
     obtain ⟨kq, x62_16, rfl, HA, HJ16, HO_9, HO_11, HO_13, HB⟩ := hcut
     cases kq with
     | zero => exact absurd HA.out (by simp [psalterylaw12_AllocApart.j1])
     | succ kj16 =>
      have H := HA.out
      clear HA
      simp only [psalterylaw12_AllocApart.j1] at H
      by_cases c23 : x62_16 = true
      ·
       subst c23
       have H1 : (if t328 = 0 then ((psalterylaw12_knows.f kj16).bind fun t339 => (some t339)) else (if (t327.length : Int) = 0 then ((psalterylaw12_knows.f kj16).bind fun t340 => (some t340)) else (none))) = some r := by rw [if_pos rfl] at H; exact H
       clear H
       have H := H1
       clear H1
       by_cases c24 : t328 = 0
       ·
        rw [if_pos c24] at H
        have c24b0 : (t328 == 0) = true := beq_iff_eq.mpr c24
        have c24b1 : (t328 != 0) = false := bne_eq_false_iff_eq.mpr c24
        clear c24
        replace H := Option.bind_eq_some_iff.mp H
        obtain ⟨t339, A250, H⟩ := H
        replace H : (some t339) = some r := H
        have A25 := zm A250
        clear A250
        obtain rfl := Option.some.inj H
        go_wp2_with (first | (go_at_call 13; (with_reducible refine (psalterylaw12_knows.calls kj16  t339 _ A25.out).mono ?_); rintro e w26 ⟨rfl, hb⟩; have n0_ := zm (Kd.S_below (by (with_reducible repeat (first | apply Kd.S_alloc | apply Kd.S_drewN | apply Kd.S_drew)); exact HO_9.out) hb); have n1_ := zm (Kd.S_below (by (with_reducible repeat (first | apply Kd.S_alloc | apply Kd.S_drewN | apply Kd.S_drew)); exact HO_11.out) hb); have n2_ := zm (Kd.S_below (by (with_reducible repeat (first | apply Kd.S_alloc | apply Kd.S_drewN | apply Kd.S_drew)); exact HO_13.out) hb); have n3_ := zm (zJ (by repeat (first | (with_reducible first | exact HB.out | apply ze | apply zd | apply zf) | exact HB.out)) hb); clear HO_9; clear HO_11; clear HO_13; clear HB; have HO_9 := n0_; have HO_11 := n1_; have HO_13 := n2_; have HB := n3_; clear n0_ n1_ n2_ n3_; (try clear hb); (try clear hb2); (try clear hk); (try clear hi)))
        go_ret
        exact ⟨by first | rfl | (simp [errW_none, errW_some] <;> rfl) | (simp [*, errW_none, errW_some] <;> rfl), by repeat (first | (with_reducible first | exact HB.out | apply ze | apply zd | apply zf) | exact HB.out)⟩
       ·
        rw [if_neg c24] at H
        have c24b0 : (t328 == 0) = false := beq_eq_false_iff_ne.mpr c24
        have c24b1 : (t328 != 0) = true := bne_iff_ne.mpr c24
        by_cases c27 : (t327.length : Int) = 0
        ·
         rw [if_pos c27] at H
         have c27b0 : ((t327.length : Int) == 0) = true := beq_iff_eq.mpr c27
         have c27b1 : ((t327.length : Int) != 0) = false := bne_eq_false_iff_eq.mpr c27
         clear c27
         replace H := Option.bind_eq_some_iff.mp H
         obtain ⟨t340, A280, H⟩ := H
         replace H : (some t340) = some r := H
         have A28 := zm A280
         clear A280
         obtain rfl := Option.some.inj H
         obtain ⟨Ao29, co29, eo29⟩ := Kd.S_slice HO_9.out
         subst eo29
         go_wp2_with (first | (go_at_call 13; (with_reducible refine (psalterylaw12_knows.calls kj16  t340 _ A28.out).mono ?_); rintro e w30 ⟨rfl, hb⟩; have n0_ := zm (Kd.S_below (by (with_reducible repeat (first | apply Kd.S_alloc | apply Kd.S_drewN | apply Kd.S_drew)); exact HO_9.out) hb); have n1_ := zm (Kd.S_below (by (with_reducible repeat (first | apply Kd.S_alloc | apply Kd.S_drewN | apply Kd.S_drew)); exact HO_11.out) hb); have n2_ := zm (Kd.S_below (by (with_reducible repeat (first | apply Kd.S_alloc | apply Kd.S_drewN | apply Kd.S_drew)); exact HO_13.out) hb); have n3_ := zm (zJ (by repeat (first | (with_reducible first | exact HB.out | apply ze | apply zd | apply zf) | exact HB.out)) hb); clear HO_9; clear HO_11; clear HO_13; clear HB; have HO_9 := n0_; have HO_11 := n1_; have HO_13 := n2_; have HB := n3_; clear n0_ n1_ n2_ n3_; (try clear hb); (try clear hb2); (try clear hk); (try clear hi)))
         go_ret
         exact ⟨by first | rfl | (simp [errW_none, errW_some] <;> rfl) | (simp [*, errW_none, errW_some] <;> rfl), by repeat (first | (with_reducible first | exact HB.out | apply ze | apply zd | apply zf) | exact HB.out)⟩
        ·
         rw [if_neg c27] at H
         exact absurd H (by simp)
      ·
       replace c23 := Bool.eq_false_iff.mpr c23
       subst c23
       have H1 : (if (t327.length : Int) = 2 then (if (t331.length : Int) = 2 then (if (t335.length : Int) = 2 then (if 0 < (t327.length : Int) then (if 0 < (t331.length : Int) then ((psalteryref06_Same.f kj16 (rd_L1 t327 0) (rd_L1 t331 0)).bind fun t343 => (if t343 = true then (if 1 < (t335.length : Int) then ((psalteryref06_Same.f kj16 (rd_L1 t327 0) (rd_L1 t335 1)).bind fun t346 => (if t346 = true then (if 1 < (t327.length : Int) then (if 0 < (t335.length : Int) then ((psalteryref06_Same.f kj16 (rd_L1 t327 1) (rd_L1 t335 0)).bind fun t349 => (if t349 = true then ((psalterylaw12_knows.f kj16).bind fun t350 => (some t350)) else (none))) else (none)) else (none)) else (none))) else (none)) else (none))) else (none)) else (none)) else (none)) else (none)) else (none)) = some r := by rw [if_neg (show ¬ (false = true) by decide)] at H; exact H
       clear H
       have H := H1
       clear H1
       by_cases c31 : (t327.length : Int) = 2
       ·
        rw [if_pos c31] at H
        have c31b0 : ((t327.length : Int) == 2) = true := beq_iff_eq.mpr c31
        have c31b1 : ((t327.length : Int) != 2) = false := bne_eq_false_iff_eq.mpr c31
        clear c31
        by_cases c32 : (t331.length : Int) = 2
        ·
         rw [if_pos c32] at H
         have c32b0 : ((t331.length : Int) == 2) = true := beq_iff_eq.mpr c32
         have c32b1 : ((t331.length : Int) != 2) = false := bne_eq_false_iff_eq.mpr c32
         clear c32
         by_cases c33 : (t335.length : Int) = 2
         ·
          rw [if_pos c33] at H
          have c33b0 : ((t335.length : Int) == 2) = true := beq_iff_eq.mpr c33
          have c33b1 : ((t335.length : Int) != 2) = false := bne_eq_false_iff_eq.mpr c33
          clear c33
          by_cases c34 : 0 < (t327.length : Int)
          ·
           rw [if_pos c34] at H
           have c34b0 : decide (0 < (t327.length : Int)) = true := decide_eq_true c34
           have c34b1 : decide (0 < t327.length) = true := decide_eq_true (by omega)
           clear c34
           by_cases c35 : 0 < (t331.length : Int)
           ·
            rw [if_pos c35] at H
            have c35b0 : decide (0 < (t331.length : Int)) = true := decide_eq_true c35
            have c35b1 : decide (0 < t331.length) = true := decide_eq_true (by omega)
            clear c35
            replace H := Option.bind_eq_some_iff.mp H
            obtain ⟨t343, A360, H⟩ := H
            replace H : (if t343 = true then (if 1 < (t335.length : Int) then ((psalteryref06_Same.f kj16 (rd_L1 t327 0) (rd_L1 t335 1)).bind fun t346 => (if t346 = true then (if 1 < (t327.length : Int) then (if 0 < (t335.length : Int) then ((psalteryref06_Same.f kj16 (rd_L1 t327 1) (rd_L1 t335 0)).bind fun t349 => (if t349 = true then ((psalterylaw12_knows.f kj16).bind fun t350 => (some t350)) else (none))) else (none)) else (none)) else (none))) else (none)) else (none)) = some r := H
            have A36 := zm A360
            clear A360
            by_cases c37 : t343 = true
            ·
             subst c37
             have H1 : (if 1 < (t335.length : Int) then ((psalteryref06_Same.f kj16 (rd_L1 t327 0) (rd_L1 t335 1)).bind fun t346 => (if t346 = true then (if 1 < (t327.length : Int) then (if 0 < (t335.length : Int) then ((psalteryref06_Same.f kj16 (rd_L1 t327 1) (rd_L1 t335 0)).bind fun t349 => (if t349 = true then ((psalterylaw12_knows.f kj16).bind fun t350 => (some t350)) else (none))) else (none)) else (none)) else (none))) else (none)) = some r := by rw [if_pos rfl] at H; exact H
             clear H
             have H := H1
             clear H1
             by_cases c38 : 1 < (t335.length : Int)
             ·
              rw [if_pos c38] at H
              have c38b0 : decide (1 < (t335.length : Int)) = true := decide_eq_true c38
              have c38b1 : decide (1 < t335.length) = true := decide_eq_true (by omega)
              clear c38
              replace H := Option.bind_eq_some_iff.mp H
              obtain ⟨t346, A390, H⟩ := H
              replace H : (if t346 = true then (if 1 < (t327.length : Int) then (if 0 < (t335.length : Int) then ((psalteryref06_Same.f kj16 (rd_L1 t327 1) (rd_L1 t335 0)).bind fun t349 => (if t349 = true then ((psalterylaw12_knows.f kj16).bind fun t350 => (some t350)) else (none))) else (none)) else (none)) else (none)) = some r := H
              have A39 := zm A390
              clear A390
              by_cases c40 : t346 = true
              ·
               subst c40
               have H1 : (if 1 < (t327.length : Int) then (if 0 < (t335.length : Int) then ((psalteryref06_Same.f kj16 (rd_L1 t327 1) (rd_L1 t335 0)).bind fun t349 => (if t349 = true then ((psalterylaw12_knows.f kj16).bind fun t350 => (some t350)) else (none))) else (none)) else (none)) = some r := by rw [if_pos rfl] at H; exact H
               clear H
               have H := H1
               clear H1
               by_cases c41 : 1 < (t327.length : Int)
               ·
                rw [if_pos c41] at H
                have c41b0 : decide (1 < (t327.length : Int)) = true := decide_eq_true c41
                have c41b1 : decide (1 < t327.length) = true := decide_eq_true (by omega)
                clear c41
                by_cases c42 : 0 < (t335.length : Int)
                ·
                 rw [if_pos c42] at H
                 have c42b0 : decide (0 < (t335.length : Int)) = true := decide_eq_true c42
                 have c42b1 : decide (0 < t335.length) = true := decide_eq_true (by omega)
                 clear c42
                 replace H := Option.bind_eq_some_iff.mp H
                 obtain ⟨t349, A430, H⟩ := H
                 replace H : (if t349 = true then ((psalterylaw12_knows.f kj16).bind fun t350 => (some t350)) else (none)) = some r := H
                 have A43 := zm A430
                 clear A430
                 by_cases c44 : t349 = true
                 ·
                  subst c44
                  have H1 : ((psalterylaw12_knows.f kj16).bind fun t350 => (some t350)) = some r := by rw [if_pos rfl] at H; exact H
                  clear H
                  have H := H1
                  clear H1
                  replace H := Option.bind_eq_some_iff.mp H
                  obtain ⟨t350, A450, H⟩ := H
                  replace H : (some t350) = some r := H
                  have A45 := zm A450
                  clear A450
                  obtain rfl := Option.some.inj H
                  try go_wp2
                  have n0_ := zm (Kd.S_drew HO_9.out)
                  have n1_ := zm (Kd.S_drew HO_11.out)
                  have n2_ := zm (Kd.S_drew HO_13.out)
                  have n3_ := zm (zf HB.out)
                  clear HO_9
                  clear HO_11
                  clear HO_13
                  clear HB
                  have HO_9 := n0_
                  have HO_11 := n1_
                  have HO_13 := n2_
                  have HB := n3_
                  clear n0_ n1_ n2_ n3_
                  obtain ⟨Ao47, co47, eo47⟩ := Kd.S_slice HO_9.out
                  (first | subst eo47 | (injection eo47 with f1_ f2_ f3_; have f4_ := f1_.symm; have f5_ := f3_.symm; clear f1_ f2_ f3_; subst f4_; subst f5_))
                  obtain ⟨Ao48, co48, eo48⟩ := Kd.S_slice HO_11.out
                  (first | subst eo48 | (injection eo48 with f1_ f2_ f3_; have f4_ := f1_.symm; have f5_ := f3_.symm; clear f1_ f2_ f3_; subst f4_; subst f5_))
                  obtain ⟨Ao49, co49, eo49⟩ := Kd.S_slice HO_13.out
                  (first | subst eo49 | (injection eo49 with f1_ f2_ f3_; have f4_ := f1_.symm; have f5_ := f3_.symm; clear f1_ f2_ f3_; subst f4_; subst f5_))
                  have p341 : 0 ≤ (0 : Int) := (by omega)
                  have q341 : 0 < (t327.length : Int) := of_decide_eq_true (by first | (with_reducible assumption) | assumption)
                  obtain ⟨ad341, A341_0, c341_0, e341, hx341_0, hl341_0, hi341_0⟩ := at_L1 (Kd.S_reads' HO_9.out).2.2 0 p341 q341
                  cases e341
                  obtain ⟨ce341, hce341, hMe341, hcc341⟩ := Kd.S_get HO_9.out [] 0 p341 (by first | exact q341 | exact of_decide_eq_true (by first | (with_reducible assumption) | assumption) | (have e_ := (Kd.S_reads' HO_9.out).1; omega))
                  obtain ⟨ve341_0, rfl, ge341_0⟩ := hMe341
                  have hv341_0 := hcc341 0 _ rfl
                  rw [Nat.add_zero, show ((Kd.slice 3 (Kd.int .i64))).sz = 1 from rfl, Nat.mul_one] at hv341_0
                  replace hv341_0 := Option.some.inj (hv341_0.symm.trans hx341_0)
                  rw [hv341_0] at ge341_0
                  have HL341_0 := zm (show Kd.R (Kd.int .i64) 3 _ _ _ _ (rd_L1 t327 0) from ge341_0)
                  clear hv341_0 ge341_0
                  clear hcc341 hce341
                  have qi341 : (0 < t327.length) = True := eq_true (by omega)
                  (try rw [show ((0 : Int)).toNat = 0 from rfl] at hx341_0)
                  (try rw [Addr.add_zero'] at hx341_0)
                  have HR341_0 := zm hi341_0
                  have HC341_0 := zm hl341_0
                  clear hi341_0 hl341_0
                  replace p341 := eq_true p341
                  replace q341 := eq_true q341
                  have p342 : 0 ≤ (0 : Int) := (by omega)
                  have q342 : 0 < (t331.length : Int) := of_decide_eq_true (by first | (with_reducible assumption) | assumption)
                  obtain ⟨ad342, A342_0, c342_0, e342, hx342_0, hl342_0, hi342_0⟩ := at_L1 (Kd.S_reads' HO_11.out).2.2 0 p342 q342
                  cases e342
                  obtain ⟨ce342, hce342, hMe342, hcc342⟩ := Kd.S_get HO_11.out [] 0 p342 (by first | exact q342 | exact of_decide_eq_true (by first | (with_reducible assumption) | assumption) | (have e_ := (Kd.S_reads' HO_11.out).1; omega))
                  obtain ⟨ve342_0, rfl, ge342_0⟩ := hMe342
                  have hv342_0 := hcc342 0 _ rfl
                  rw [Nat.add_zero, show ((Kd.slice 3 (Kd.int .i64))).sz = 1 from rfl, Nat.mul_one] at hv342_0
                  replace hv342_0 := Option.some.inj (hv342_0.symm.trans hx342_0)
                  rw [hv342_0] at ge342_0
                  have HL342_0 := zm (show Kd.R (Kd.int .i64) 3 _ _ _ _ (rd_L1 t331 0) from ge342_0)
                  clear hv342_0 ge342_0
                  clear hcc342 hce342
                  have qi342 : (0 < t331.length) = True := eq_true (by omega)
                  (try rw [show ((0 : Int)).toNat = 0 from rfl] at hx342_0)
                  (try rw [Addr.add_zero'] at hx342_0)
                  have HR342_0 := zm hi342_0
                  have HC342_0 := zm hl342_0
                  clear hi342_0 hl342_0
                  replace p342 := eq_true p342
                  replace q342 := eq_true q342
                  have p344 : 0 ≤ (0 : Int) := (by omega)
                  have q344 : 0 < (t327.length : Int) := of_decide_eq_true (by first | (with_reducible assumption) | assumption)
                  obtain ⟨ad344, A344_0, c344_0, e344, hx344_0, hl344_0, hi344_0⟩ := at_L1 (Kd.S_reads' HO_9.out).2.2 0 p344 q344
                  obtain rfl : ad341 = ad344 := (by injection e344)
                  obtain ⟨ce344, hce344, hMe344, hcc344⟩ := Kd.S_get HO_9.out [] 0 p344 (by first | exact q344 | exact of_decide_eq_true (by first | (with_reducible assumption) | assumption) | (have e_ := (Kd.S_reads' HO_9.out).1; omega))
                  obtain ⟨ve344_0, rfl, ge344_0⟩ := hMe344
                  have hv344_0 := hcc344 0 _ rfl
                  rw [Nat.add_zero, show ((Kd.slice 3 (Kd.int .i64))).sz = 1 from rfl, Nat.mul_one] at hv344_0
                  replace hv344_0 := Option.some.inj (hv344_0.symm.trans hx344_0)
                  rw [hv344_0] at ge344_0
                  have HL344_0 := zm (show Kd.R (Kd.int .i64) 3 _ _ _ _ (rd_L1 t327 0) from ge344_0)
                  clear hv344_0 ge344_0
                  clear hcc344 hce344
                  have qi344 : (0 < t327.length) = True := eq_true (by omega)
                  (try rw [show ((0 : Int)).toNat = 0 from rfl] at hx344_0)
                  (try rw [Addr.add_zero'] at hx344_0)
                  have HR344_0 := zm hi344_0
                  have HC344_0 := zm hl344_0
                  clear hi344_0 hl344_0
                  replace p344 := eq_true p344
                  replace q344 := eq_true q344
                  have ea_ := Option.some.inj (hx341_0.symm.trans hx344_0)
                  injection ea_ with ea_ en_ ec_
                  subst ea_
                  subst ec_
                  clear en_
                  have p345 : 0 ≤ (1 : Int) := (by omega)
                  have q345 : 1 < (t335.length : Int) := of_decide_eq_true (by first | (with_reducible assumption) | assumption)
                  obtain ⟨ad345, A345_0, c345_0, e345, hx345_0, hl345_0, hi345_0⟩ := at_L1 (Kd.S_reads' HO_13.out).2.2 1 p345 q345
                  cases e345
                  obtain ⟨ce345, hce345, hMe345, hcc345⟩ := Kd.S_get HO_13.out [] 1 p345 (by first | exact q345 | exact of_decide_eq_true (by first | (with_reducible assumption) | assumption) | (have e_ := (Kd.S_reads' HO_13.out).1; omega))
                  obtain ⟨ve345_0, rfl, ge345_0⟩ := hMe345
                  have hv345_0 := hcc345 0 _ rfl
                  rw [Nat.add_zero, show ((Kd.slice 3 (Kd.int .i64))).sz = 1 from rfl, Nat.mul_one] at hv345_0
                  replace hv345_0 := Option.some.inj (hv345_0.symm.trans hx345_0)
                  rw [hv345_0] at ge345_0
                  have HL345_0 := zm (show Kd.R (Kd.int .i64) 3 _ _ _ _ (rd_L1 t335 1) from ge345_0)
                  clear hv345_0 ge345_0
                  clear hcc345 hce345
                  (try simp only [show (1 : Int).toNat = 1 from rfl, Nat.reduceMul, Nat.reduceEqDiff, Go.Addr.add, ↓reduceIte] at hx345_0)
                  have qi345 : (1 < t335.length) = True := eq_true (by omega)
                  (try rw [show ((1 : Int)).toNat = 1 from rfl] at hx345_0)
                  have HR345_0 := zm hi345_0
                  have HC345_0 := zm hl345_0
                  clear hi345_0 hl345_0
                  replace p345 := eq_true p345
                  replace q345 := eq_true q345
                  have p347 : 0 ≤ (1 : Int) := (by omega)
                  have q347 : 1 < (t327.length : Int) := of_decide_eq_true (by first | (with_reducible assumption) | assumption)
                  obtain ⟨ad347, A347_0, c347_0, e347, hx347_0, hl347_0, hi347_0⟩ := at_L1 (Kd.S_reads' HO_9.out).2.2 1 p347 q347
                  obtain rfl : ad341 = ad347 := (by injection e347)
                  obtain ⟨ce347, hce347, hMe347, hcc347⟩ := Kd.S_get HO_9.out [] 1 p347 (by first | exact q347 | exact of_decide_eq_true (by first | (with_reducible assumption) | assumption) | (have e_ := (Kd.S_reads' HO_9.out).1; omega))
                  obtain ⟨ve347_0, rfl, ge347_0⟩ := hMe347
                  have hv347_0 := hcc347 0 _ rfl
                  rw [Nat.add_zero, show ((Kd.slice 3 (Kd.int .i64))).sz = 1 from rfl, Nat.mul_one] at hv347_0
                  replace hv347_0 := Option.some.inj (hv347_0.symm.trans hx347_0)
                  rw [hv347_0] at ge347_0
                  have HL347_0 := zm (show Kd.R (Kd.int .i64) 3 _ _ _ _ (rd_L1 t327 1) from ge347_0)
                  clear hv347_0 ge347_0
                  clear hcc347 hce347
                  (try simp only [show (1 : Int).toNat = 1 from rfl, Nat.reduceMul, Nat.reduceEqDiff, Go.Addr.add, ↓reduceIte] at hx347_0)
                  have qi347 : (1 < t327.length) = True := eq_true (by omega)
                  (try rw [show ((1 : Int)).toNat = 1 from rfl] at hx347_0)
                  have HR347_0 := zm hi347_0
                  have HC347_0 := zm hl347_0
                  clear hi347_0 hl347_0
                  replace p347 := eq_true p347
                  replace q347 := eq_true q347
                  have p348 : 0 ≤ (0 : Int) := (by omega)
                  have q348 : 0 < (t335.length : Int) := of_decide_eq_true (by first | (with_reducible assumption) | assumption)
                  obtain ⟨ad348, A348_0, c348_0, e348, hx348_0, hl348_0, hi348_0⟩ := at_L1 (Kd.S_reads' HO_13.out).2.2 0 p348 q348
                  obtain rfl : ad345 = ad348 := (by injection e348)
                  obtain ⟨ce348, hce348, hMe348, hcc348⟩ := Kd.S_get HO_13.out [] 0 p348 (by first | exact q348 | exact of_decide_eq_true (by first | (with_reducible assumption) | assumption) | (have e_ := (Kd.S_reads' HO_13.out).1; omega))
                  obtain ⟨ve348_0, rfl, ge348_0⟩ := hMe348
                  have hv348_0 := hcc348 0 _ rfl
                  rw [Nat.add_zero, show ((Kd.slice 3 (Kd.int .i64))).sz = 1 from rfl, Nat.mul_one] at hv348_0
                  replace hv348_0 := Option.some.inj (hv348_0.symm.trans hx348_0)
                  rw [hv348_0] at ge348_0
                  have HL348_0 := zm (show Kd.R (Kd.int .i64) 3 _ _ _ _ (rd_L1 t335 0) from ge348_0)
                  clear hv348_0 ge348_0
                  clear hcc348 hce348
                  have qi348 : (0 < t335.length) = True := eq_true (by omega)
                  (try rw [show ((0 : Int)).toNat = 0 from rfl] at hx348_0)
                  (try rw [Addr.add_zero'] at hx348_0)
                  have HR348_0 := zm hi348_0
                  have HC348_0 := zm hl348_0
                  clear hi348_0 hl348_0
                  replace p348 := eq_true p348
                  replace q348 := eq_true q348
                  refine start_ (n := 44) (S := fun w' => w'.cell? ad341 = some (.slice A341_0 (rd_L1 t327 0).length c341_0) ∧ w'.cell? ad342 = some (.slice A342_0 (rd_L1 t331 0).length c342_0) ∧ w'.cell? ad341 = some (.slice A341_0 (rd_L1 t327 0).length c341_0) ∧ w'.cell? ⟨ad345.block, ad345.off + 1, none⟩ = some (.slice A345_0 (rd_L1 t335 1).length c345_0) ∧ w'.cell? ⟨ad341.block, ad341.off + 1, none⟩ = some (.slice A347_0 (rd_L1 t327 1).length c347_0) ∧ w'.cell? ad345 = some (.slice A348_0 (rd_L1 t335 0).length c348_0)) (ds := []) #[false, false, false, false, false, false, false, false, false, false, false, false, false, false, false, false, false, false, false, false, false, false, false, false, false, false, false, false, false, false, false, false, false, false, false, false, false, false, false, false, false, false, false, false] (by kernel_rfl) rfl rfl ⟨hx341_0, hx342_0, hx344_0, hx345_0, hx347_0, hx348_0⟩ (fun hHeld => ?_); refine with_tabW psalterylaw12_AllocApart.tab8 psalterylaw12_AllocApart.bits8 (fun HT_ HW_ => ?_)
                  generalize wc.drew = w46 at HO_9 HO_11 HO_13 HB HL341_0 HL342_0 HL344_0 HL345_0 HL347_0 HL348_0 HR341_0 HR342_0 HR344_0 HR345_0 HR347_0 HR348_0 hx341_0 hx342_0 hx344_0 hx345_0 hx347_0 hx348_0 hHeld ⊢
                  refine pure_ (i := 0) (N := some 73) (v := ?_) (a' := ?_) #[true, false, false, false, false, false, false, false, false, false, false, false, false, false, false, false, false, false, false, false, false, false, false, false, false, false, false, false, false, false, false, false, false, false, false, false, false, false, false, false, false, false, false, false] rfl rfl (any_of HT_.out (by kernel_rfl)) (fun _ _ _ h => h) (Or.inl ⟨by rfl, ?_⟩) ?_ ?_
                  rotate_left
                  ·
                   intro w'
                   go_simp
                   with_reducible rfl
                  rotate_left
                  ·
                   simp only [Act.put, List.setIfInBounds_toArray, List.set_cons_zero, List.set_cons_succ, i64_w, i32_w]
                   rfl
                  refine pure_ (i := 1) (N := some 74) (v := ?_) (a' := ?_) #[true, true, false, false, false, false, false, false, false, false, false, false, false, false, false, false, false, false, false, false, false, false, false, false, false, false, false, false, false, false, false, false, false, false, false, false, false, false, false, false, false, false, false, false] rfl rfl (any_of HT_.out (by kernel_rfl)) (fun _ _ _ h => h) (Or.inl ⟨by rfl, ?_⟩) ?_ ?_
                  rotate_left
                  ·
                   intro w'
                   go_simp
                   with_reducible rfl
                  rotate_left
                  ·
                   simp only [Act.put, List.setIfInBounds_toArray, List.set_cons_zero, List.set_cons_succ, i64_w, i32_w]
                   rfl
                  refine pure_ (i := 2) (N := some 75) (v := ?_) (a' := ?_) #[true, true, true, false, false, false, false, false, false, false, false, false, false, false, false, false, false, false, false, false, false, false, false, false, false, false, false, false, false, false, false, false, false, false, false, false, false, false, false, false, false, false, false, false] rfl rfl (any_of HT_.out (by kernel_rfl)) (fun _ _ _ h => h) (Or.inl ⟨by rfl, ?_⟩) ?_ ?_
                  rotate_left
                  ·
                   intro w'
                   go_simp
                   with_reducible rfl
                  rotate_left
                  ·
                   simp only [Act.put, List.setIfInBounds_toArray, List.set_cons_zero, List.set_cons_succ, i64_w, i32_w]
                   rfl
                  refine pure_ (i := 3) (N := some 76) (v := ?_) (a' := ?_) #[true, true, true, true, false, false, false, false, false, false, false, false, false, false, false, false, false, false, false, false, false, false, false, false, false, false, false, false, false, false, false, false, false, false, false, false, false, false, false, false, false, false, false, false] rfl rfl (any_of HT_.out (by kernel_rfl)) (fun _ _ _ h => h) (Or.inl ⟨by rfl, ?_⟩) ?_ ?_
                  rotate_left
                  ·
                   intro w'
                   go_simp
                   with_reducible rfl
                  rotate_left
                  ·
                   simp only [Act.put, List.setIfInBounds_toArray, List.set_cons_zero, List.set_cons_succ, i64_w, i32_w]
                   rfl
                  refine pure_ (i := 4) (N := some 77) (v := ?_) (a' := ?_) #[true, true, true, true, true, false, false, false, false, false, false, false, false, false, false, false, false, false, false, false, false, false, false, false, false, false, false, false, false, false, false, false, false, false, false, false, false, false, false, false, false, false, false, false] rfl rfl (any_of HT_.out (by kernel_rfl)) (fun _ _ _ h => h) (Or.inl ⟨by rfl, ?_⟩) ?_ ?_
                  rotate_left
                  ·
                   intro w'
                   go_simp
                   with_reducible rfl
                  rotate_left
                  ·
                   simp only [Act.put, List.setIfInBounds_toArray, List.set_cons_zero, List.set_cons_succ, i64_w, i32_w]
                   rfl
                  refine pure_ (i := 5) (N := some 78) (v := ?_) (a' := ?_) #[true, true, true, true, true, true, false, false, false, false, false, false, false, false, false, false, false, false, false, false, false, false, false, false, false, false, false, false, false, false, false, false, false, false, false, false, false, false, false, false, false, false, false, false] rfl rfl (any_of HT_.out (by kernel_rfl)) (fun _ _ _ h => h) (Or.inl ⟨by rfl, ?_⟩) ?_ ?_
                  rotate_left
                  ·
                   intro w'
                   go_simp
                   with_reducible rfl
                  rotate_left
                  ·
                   simp only [Act.put, List.setIfInBounds_toArray, List.set_cons_zero, List.set_cons_succ, i64_w, i32_w]
                   rfl
                  refine pure_ (i := 6) (N := some 79) (v := ?_) (a' := ?_) #[true, true, true, true, true, true, true, false, false, false, false, false, false, false, false, false, false, false, false, false, false, false, false, false, false, false, false, false, false, false, false, false, false, false, false, false, false, false, false, false, false, false, false, false] rfl rfl (any_of HT_.out (by kernel_rfl)) (fun _ _ _ h => h) (Or.inl ⟨by rfl, ?_⟩) ?_ ?_
                  rotate_left
                  ·
                   intro w'
                   go_simp
                   with_reducible rfl
                  rotate_left
                  ·
                   simp only [Act.put, List.setIfInBounds_toArray, List.set_cons_zero, List.set_cons_succ, i64_w, i32_w]
                   rfl
                  refine pure_ (i := 7) (N := some 80) (v := ?_) (a' := ?_) #[true, true, true, true, true, true, true, true, false, false, false, false, false, false, false, false, false, false, false, false, false, false, false, false, false, false, false, false, false, false, false, false, false, false, false, false, false, false, false, false, false, false, false, false] rfl rfl (any_of HT_.out (by kernel_rfl)) (fun _ _ _ h => h) (Or.inl ⟨by rfl, ?_⟩) ?_ ?_
                  rotate_left
                  ·
                   intro w'
                   go_simp
                   with_reducible rfl
                  rotate_left
                  ·
                   simp only [Act.put, List.setIfInBounds_toArray, List.set_cons_zero, List.set_cons_succ, i64_w, i32_w]
                   rfl
                  refine pure_ (i := 8) (N := some 81) (v := ?_) (a' := ?_) #[true, true, true, true, true, true, true, true, true, false, false, false, false, false, false, false, false, false, false, false, false, false, false, false, false, false, false, false, false, false, false, false, false, false, false, false, false, false, false, false, false, false, false, false] rfl rfl (any_of HT_.out (by kernel_rfl)) (fun _ _ _ h => h) (Or.inl ⟨by rfl, ?_⟩) ?_ ?_
                  rotate_left
                  ·
                   intro w'
                   go_simp
                   with_reducible rfl
                  rotate_left
                  ·
                   simp only [Act.put, List.setIfInBounds_toArray, List.set_cons_zero, List.set_cons_succ, i64_w, i32_w]
                   rfl
                  refine pure_ (i := 9) (N := some 82) (v := ?_) (a' := ?_) #[true, true, true, true, true, true, true, true, true, true, false, false, false, false, false, false, false, false, false, false, false, false, false, false, false, false, false, false, false, false, false, false, false, false, false, false, false, false, false, false, false, false, false, false] rfl rfl (any_of HT_.out (by kernel_rfl)) (fun _ _ _ h => h) (Or.inl ⟨by rfl, ?_⟩) ?_ ?_
                  rotate_left
                  ·
                   intro w'
                   go_simp
                   with_reducible rfl
                  rotate_left
                  ·
                   simp only [Act.put, List.setIfInBounds_toArray, List.set_cons_zero, List.set_cons_succ, i64_w, i32_w]
                   rfl
                  refine pure_ (i := 10) (N := some 83) (v := ?_) (a' := ?_) #[true, true, true, true, true, true, true, true, true, true, true, false, false, false, false, false, false, false, false, false, false, false, false, false, false, false, false, false, false, false, false, false, false, false, false, false, false, false, false, false, false, false, false, false] rfl rfl (any_of HT_.out (by kernel_rfl)) (fun _ _ _ h => h) (Or.inl ⟨by rfl, ?_⟩) ?_ ?_
                  rotate_left
                  ·
                   intro w'
                   go_simp
                   with_reducible rfl
                  rotate_left
                  ·
                   simp only [Act.put, List.setIfInBounds_toArray, List.set_cons_zero, List.set_cons_succ, i64_w, i32_w]
                   rfl
                  refine pure_ (i := 11) (N := some 84) (v := ?_) (a' := ?_) #[true, true, true, true, true, true, true, true, true, true, true, true, false, false, false, false, false, false, false, false, false, false, false, false, false, false, false, false, false, false, false, false, false, false, false, false, false, false, false, false, false, false, false, false] rfl rfl (any_of HT_.out (by kernel_rfl)) (fun _ _ _ h => h) (Or.inl ⟨by rfl, ?_⟩) ?_ ?_
                  rotate_left
                  ·
                   intro w'
                   go_simp
                   with_reducible rfl
                  rotate_left
                  ·
                   simp only [Act.put, List.setIfInBounds_toArray, List.set_cons_zero, List.set_cons_succ, i64_w, i32_w]
                   rfl
                  refine pure_ (i := 12) (N := some 85) (v := ?_) (a' := ?_) #[true, true, true, true, true, true, true, true, true, true, true, true, true, false, false, false, false, false, false, false, false, false, false, false, false, false, false, false, false, false, false, false, false, false, false, false, false, false, false, false, false, false, false, false] rfl rfl (any_of HT_.out (by kernel_rfl)) (fun _ _ _ h => h) (Or.inl ⟨by rfl, ?_⟩) ?_ ?_
                  rotate_left
                  ·
                   intro w'
                   go_simp
                   with_reducible rfl
                  rotate_left
                  ·
                   simp only [Act.put, List.setIfInBounds_toArray, List.set_cons_zero, List.set_cons_succ, i64_w, i32_w]
                   rfl
                  refine pure_ (i := 13) (N := some 86) (v := ?_) (a' := ?_) #[true, true, true, true, true, true, true, true, true, true, true, true, true, true, false, false, false, false, false, false, false, false, false, false, false, false, false, false, false, false, false, false, false, false, false, false, false, false, false, false, false, false, false, false] rfl rfl (any_of HT_.out (by kernel_rfl)) (fun _ _ _ h => h) (Or.inl ⟨by rfl, ?_⟩) ?_ ?_
                  rotate_left
                  ·
                   intro w'
                   go_simp
                   with_reducible rfl
                  rotate_left
                  ·
                   simp only [Act.put, List.setIfInBounds_toArray, List.set_cons_zero, List.set_cons_succ, i64_w, i32_w]
                   rfl
                  refine pure_ (i := 14) (N := some 87) (v := ?_) (a' := ?_) #[true, true, true, true, true, true, true, true, true, true, true, true, true, true, true, false, false, false, false, false, false, false, false, false, false, false, false, false, false, false, false, false, false, false, false, false, false, false, false, false, false, false, false, false] rfl rfl (any_of HT_.out (by kernel_rfl)) (fun _ _ _ h => h) (Or.inl ⟨by rfl, ?_⟩) ?_ ?_
                  rotate_left
                  ·
                   intro w'
                   go_simp
                   with_reducible rfl
                  rotate_left
                  ·
                   simp only [Act.put, List.setIfInBounds_toArray, List.set_cons_zero, List.set_cons_succ, i64_w, i32_w]
                   rfl
                  refine pure_ (i := 15) (N := some 88) (v := ?_) (a' := ?_) #[true, true, true, true, true, true, true, true, true, true, true, true, true, true, true, true, false, false, false, false, false, false, false, false, false, false, false, false, false, false, false, false, false, false, false, false, false, false, false, false, false, false, false, false] rfl rfl (any_of HT_.out (by kernel_rfl)) (fun _ _ _ h => h) (Or.inl ⟨by rfl, ?_⟩) ?_ ?_
                  rotate_left
                  ·
                   intro w'
                   go_simp
                   with_reducible rfl
                  rotate_left
                  ·
                   simp only [Act.put, List.setIfInBounds_toArray, List.set_cons_zero, List.set_cons_succ, i64_w, i32_w]
                   rfl
                  refine pure_ (i := 17) (N := some 90) (v := ?_) (a' := ?_) #[true, true, true, true, true, true, true, true, true, true, true, true, true, true, true, true, false, true, false, false, false, false, false, false, false, false, false, false, false, false, false, false, false, false, false, false, false, false, false, false, false, false, false, false] rfl rfl (any_of HT_.out (by kernel_rfl)) (fun _ _ _ h => h) (Or.inl ⟨by rfl, ?_⟩) ?_ ?_
                  rotate_left
                  ·
                   intro w'
                   go_simp
                   with_reducible rfl
                  rotate_left
                  ·
                   simp only [Act.put, List.setIfInBounds_toArray, List.set_cons_zero, List.set_cons_succ, i64_w, i32_w]
                   rfl
                  refine pure_ (i := 18) (N := some 91) (v := ?_) (a' := ?_) #[true, true, true, true, true, true, true, true, true, true, true, true, true, true, true, true, false, true, true, false, false, false, false, false, false, false, false, false, false, false, false, false, false, false, false, false, false, false, false, false, false, false, false, false] rfl rfl (any_of HT_.out (by kernel_rfl)) (fun _ _ _ h => h) (Or.inl ⟨by rfl, ?_⟩) ?_ ?_
                  rotate_left
                  ·
                   intro w'
                   go_simp
                   with_reducible rfl
                  rotate_left
                  ·
                   simp only [Act.put, List.setIfInBounds_toArray, List.set_cons_zero, List.set_cons_succ, i64_w, i32_w]
                   rfl
                  refine take_ (i := 16) (N := some 89) (v := ?_) (a' := ?_) #[true, true, true, true, true, true, true, true, true, true, true, true, true, true, true, true, true, true, true, false, false, false, false, false, false, false, false, false, false, false, false, false, false, false, false, false, false, false, false, false, false, false, false, false] rfl rfl (take_ofW HT_.out HW_.out (by kernel_rfl)) (fun _ _ _ h => h) (Or.inl ⟨by rfl, ?_⟩) hHeld ?_ ?_
                  rotate_left
                  ·
                   rintro w' ⟨s0, s1, s2, s3, s4, s5⟩
                   go_simp
                   with_reducible rfl
                  rotate_left
                  ·
                   simp only [Act.put, List.setIfInBounds_toArray, List.set_cons_zero, List.set_cons_succ, i64_w, i32_w]
                   rfl
                  refine take_ (i := 19) (N := some 92) (v := ?_) (a' := ?_) #[true, true, true, true, true, true, true, true, true, true, true, true, true, true, true, true, true, true, true, true, false, false, false, false, false, false, false, false, false, false, false, false, false, false, false, false, false, false, false, false, false, false, false, false] rfl rfl (take_ofW HT_.out HW_.out (by kernel_rfl)) (fun _ _ _ h => h) (Or.inl ⟨by rfl, ?_⟩) hHeld ?_ ?_
                  rotate_left
                  ·
                   rintro w' ⟨s0, s1, s2, s3, s4, s5⟩
                   go_simp
                   with_reducible rfl
                  rotate_left
                  ·
                   simp only [Act.put, List.setIfInBounds_toArray, List.set_cons_zero, List.set_cons_succ, i64_w, i32_w]
                   rfl
                  refine one_ (i := 20) (N := some 93) #[true, true, true, true, true, true, true, true, true, true, true, true, true, true, true, true, true, true, true, true, true, false, false, false, false, false, false, false, false, false, false, false, false, false, false, false, false, false, false, false, false, false, false, false] rfl rfl (one_of HT_.out (by kernel_rfl)) (by decide) (fun K hK => ?_)
                  refine goes_ Try.func22 (by kernel_rfl) rfl #[.slice A341_0 (rd_L1 t327 0).length c341_0, .slice A342_0 (rd_L1 t331 0).length c342_0] (by rfl) rfl rfl (by (try simp only [List.map_toArray, List.map_cons, List.map_nil]); first | done | rfl | (simp only [List.length_drop, List.length_take]; rfl)) ?_
                  with_reducible refine (psalteryref06_Same.calls kj16 _ _ (rd_L1 t327 0) _ _ (rd_L1 t331 0) true _ ?side1 ?side2 ?side3 ?side4 A36.out).mono ?_
                  (case side1 => repeat (first | exact (by repeat (first | (with_reducible exact HR341_0.out) | (with_reducible refine Kd.C_alloc ?_ _) | (with_reducible refine Kd.C_drewN ?_ _) | (with_reducible refine Kd.C_drew ?_) | exact HR341_0.out)) | (with_reducible refine Kd.C_alloc ?_ _) | (with_reducible refine Kd.C_drewN ?_ _) | (with_reducible refine Kd.C_drew ?_)))
                  (case side2 => exact HC341_0.out)
                  (case side3 => repeat (first | exact (by repeat (first | (with_reducible exact HR342_0.out) | (with_reducible refine Kd.C_alloc ?_ _) | (with_reducible refine Kd.C_drewN ?_ _) | (with_reducible refine Kd.C_drew ?_) | exact HR342_0.out)) | (with_reducible refine Kd.C_alloc ?_ _) | (with_reducible refine Kd.C_drewN ?_ _) | (with_reducible refine Kd.C_drew ?_)))
                  (case side4 => exact HC342_0.out)
                  rintro e w' ⟨rfl, ⟨nd, rfl⟩⟩
                  refine ⟨_, rfl, ?_⟩
                  refine hK.out _ _ ⟨hHeld.1, hHeld.2.1, hHeld.2.2.1, hHeld.2.2.2.1, hHeld.2.2.2.2.1, hHeld.2.2.2.2.2⟩ (fun hHeld => ?_)
                  clear hK K
                  refine norm_ (a' := ?_) ?_ ?_
                  rotate_left
                  ·
                   show Act.put _ (some 93) _ = _
                   simp only [Act.put, List.setIfInBounds_toArray, List.set_cons_zero, List.set_cons_succ, i64_w, i32_w]
                   rfl
                  refine pure_ (i := 21) (N := some 94) (v := ?_) (a' := ?_) #[true, true, true, true, true, true, true, true, true, true, true, true, true, true, true, true, true, true, true, true, true, true, false, false, false, false, false, false, false, false, false, false, false, false, false, false, false, false, false, false, false, false, false, false] rfl rfl (any_of HT_.out (by kernel_rfl)) (fun _ _ _ h => h) (Or.inl ⟨by rfl, ?_⟩) ?_ ?_
                  rotate_left
                  ·
                   intro w'
                   go_simp
                   with_reducible rfl
                  rotate_left
                  ·
                   simp only [Act.put, List.setIfInBounds_toArray, List.set_cons_zero, List.set_cons_succ, i64_w, i32_w]
                   rfl
                  refine pure_ (i := 22) (N := some 95) (v := ?_) (a' := ?_) #[true, true, true, true, true, true, true, true, true, true, true, true, true, true, true, true, true, true, true, true, true, true, true, false, false, false, false, false, false, false, false, false, false, false, false, false, false, false, false, false, false, false, false, false] rfl rfl (any_of HT_.out (by kernel_rfl)) (fun _ _ _ h => h) (Or.inl ⟨by rfl, ?_⟩) ?_ ?_
                  rotate_left
                  ·
                   intro w'
                   go_simp
                   with_reducible rfl
                  rotate_left
                  ·
                   simp only [Act.put, List.setIfInBounds_toArray, List.set_cons_zero, List.set_cons_succ, i64_w, i32_w]
                   rfl
                  refine pure_ (i := 23) (N := some 96) (v := ?_) (a' := ?_) #[true, true, true, true, true, true, true, true, true, true, true, true, true, true, true, true, true, true, true, true, true, true, true, true, false, false, false, false, false, false, false, false, false, false, false, false, false, false, false, false, false, false, false, false] rfl rfl (any_of HT_.out (by kernel_rfl)) (fun _ _ _ h => h) (Or.inl ⟨by rfl, ?_⟩) ?_ ?_
                  rotate_left
                  ·
                   intro w'
                   go_simp
                   with_reducible rfl
                  rotate_left
                  ·
                   simp only [Act.put, List.setIfInBounds_toArray, List.set_cons_zero, List.set_cons_succ, i64_w, i32_w]
                   rfl
                  refine pure_ (i := 24) (N := some 97) (v := ?_) (a' := ?_) #[true, true, true, true, true, true, true, true, true, true, true, true, true, true, true, true, true, true, true, true, true, true, true, true, true, false, false, false, false, false, false, false, false, false, false, false, false, false, false, false, false, false, false, false] rfl rfl (any_of HT_.out (by kernel_rfl)) (fun _ _ _ h => h) (Or.inl ⟨by rfl, ?_⟩) ?_ ?_
                  rotate_left
                  ·
                   intro w'
                   go_simp
                   with_reducible rfl
                  rotate_left
                  ·
                   simp only [Act.put, List.setIfInBounds_toArray, List.set_cons_zero, List.set_cons_succ, i64_w, i32_w]
                   rfl
                  refine pure_ (i := 26) (N := some 99) (v := ?_) (a' := ?_) #[true, true, true, true, true, true, true, true, true, true, true, true, true, true, true, true, true, true, true, true, true, true, true, true, true, false, true, false, false, false, false, false, false, false, false, false, false, false, false, false, false, false, false, false] rfl rfl (any_of HT_.out (by kernel_rfl)) (fun _ _ _ h => h) (Or.inl ⟨by rfl, ?_⟩) ?_ ?_
                  rotate_left
                  ·
                   intro w'
                   go_simp
                   with_reducible rfl
                  rotate_left
                  ·
                   simp only [Act.put, List.setIfInBounds_toArray, List.set_cons_zero, List.set_cons_succ, i64_w, i32_w]
                   rfl
                  refine pure_ (i := 27) (N := some 100) (v := ?_) (a' := ?_) #[true, true, true, true, true, true, true, true, true, true, true, true, true, true, true, true, true, true, true, true, true, true, true, true, true, false, true, true, false, false, false, false, false, false, false, false, false, false, false, false, false, false, false, false] rfl rfl (any_of HT_.out (by kernel_rfl)) (fun _ _ _ h => h) (Or.inl ⟨by rfl, ?_⟩) ?_ ?_
                  rotate_left
                  ·
                   intro w'
                   go_simp
                   with_reducible rfl
                  rotate_left
                  ·
                   simp only [Act.put, List.setIfInBounds_toArray, List.set_cons_zero, List.set_cons_succ, i64_w, i32_w]
                   rfl
                  refine take_ (i := 25) (N := some 98) (v := ?_) (a' := ?_) #[true, true, true, true, true, true, true, true, true, true, true, true, true, true, true, true, true, true, true, true, true, true, true, true, true, true, true, true, false, false, false, false, false, false, false, false, false, false, false, false, false, false, false, false] rfl rfl (take_ofW HT_.out HW_.out (by kernel_rfl)) (fun _ _ _ h => h) (Or.inl ⟨by rfl, ?_⟩) hHeld ?_ ?_
                  rotate_left
                  ·
                   rintro w' ⟨s0, s1, s2, s3, s4, s5⟩
                   go_simp
                   with_reducible rfl
                  rotate_left
                  ·
                   simp only [Act.put, List.setIfInBounds_toArray, List.set_cons_zero, List.set_cons_succ, i64_w, i32_w]
                   rfl
                  refine take_ (i := 28) (N := some 101) (v := ?_) (a' := ?_) #[true, true, true, true, true, true, true, true, true, true, true, true, true, true, true, true, true, true, true, true, true, true, true, true, true, true, true, true, true, false, false, false, false, false, false, false, false, false, false, false, false, false, false, false] rfl rfl (take_ofW HT_.out HW_.out (by kernel_rfl)) (fun _ _ _ h => h) (Or.inl ⟨by rfl, ?_⟩) hHeld ?_ ?_
                  rotate_left
                  ·
                   rintro w' ⟨s0, s1, s2, s3, s4, s5⟩
                   go_simp
                   with_reducible rfl
                  rotate_left
                  ·
                   simp only [Act.put, List.setIfInBounds_toArray, List.set_cons_zero, List.set_cons_succ, i64_w, i32_w]
                   rfl
                  refine one_ (i := 29) (N := some 102) #[true, true, true, true, true, true, true, true, true, true, true, true, true, true, true, true, true, true, true, true, true, true, true, true, true, true, true, true, true, true, false, false, false, false, false, false, false, false, false, false, false, false, false, false] rfl rfl (one_of HT_.out (by kernel_rfl)) (by decide) (fun K hK => ?_)
                  refine goes_ Try.func22 (by kernel_rfl) rfl #[.slice A341_0 (rd_L1 t327 0).length c341_0, .slice A345_0 (rd_L1 t335 1).length c345_0] (by rfl) rfl rfl (by (try simp only [List.map_toArray, List.map_cons, List.map_nil]); first | done | rfl | (simp only [List.length_drop, List.length_take]; rfl)) ?_
                  with_reducible refine (psalteryref06_Same.calls kj16 _ _ (rd_L1 t327 0) _ _ (rd_L1 t335 1) true _ ?side1 ?side2 ?side3 ?side4 A39.out).mono ?_
                  (case side1 => repeat (first | exact (by repeat (first | (with_reducible exact HR344_0.out) | (with_reducible refine Kd.C_alloc ?_ _) | (with_reducible refine Kd.C_drewN ?_ _) | (with_reducible refine Kd.C_drew ?_) | exact HR344_0.out)) | (with_reducible refine Kd.C_alloc ?_ _) | (with_reducible refine Kd.C_drewN ?_ _) | (with_reducible refine Kd.C_drew ?_)))
                  (case side2 => exact HC344_0.out)
                  (case side3 => repeat (first | exact (by repeat (first | (with_reducible exact HR345_0.out) | (with_reducible refine Kd.C_alloc ?_ _) | (with_reducible refine Kd.C_drewN ?_ _) | (with_reducible refine Kd.C_drew ?_) | exact HR345_0.out)) | (with_reducible refine Kd.C_alloc ?_ _) | (with_reducible refine Kd.C_drewN ?_ _) | (with_reducible refine Kd.C_drew ?_)))
                  (case side4 => exact HC345_0.out)
                  rintro e w' ⟨rfl, ⟨nd, rfl⟩⟩
                  refine ⟨_, rfl, ?_⟩
                  refine hK.out _ _ ⟨hHeld.1, hHeld.2.1, hHeld.2.2.1, hHeld.2.2.2.1, hHeld.2.2.2.2.1, hHeld.2.2.2.2.2⟩ (fun hHeld => ?_)
                  clear hK K
                  refine norm_ (a' := ?_) ?_ ?_
                  rotate_left
                  ·
                   show Act.put _ (some 102) _ = _
                   simp only [Act.put, List.setIfInBounds_toArray, List.set_cons_zero, List.set_cons_succ, i64_w, i32_w]
                   rfl
                  refine pure_ (i := 30) (N := some 103) (v := ?_) (a' := ?_) #[true, true, true, true, true, true, true, true, true, true, true, true, true, true, true, true, true, true, true, true, true, true, true, true, true, true, true, true, true, true, true, false, false, false, false, false, false, false, false, false, false, false, false, false] rfl rfl (any_of HT_.out (by kernel_rfl)) (fun _ _ _ h => h) (Or.inl ⟨by rfl, ?_⟩) ?_ ?_
                  rotate_left
                  ·
                   intro w'
                   go_simp
                   with_reducible rfl
                  rotate_left
                  ·
                   simp only [Act.put, List.setIfInBounds_toArray, List.set_cons_zero, List.set_cons_succ, i64_w, i32_w]
                   rfl
                  refine pure_ (i := 31) (N := some 104) (v := ?_) (a' := ?_) #[true, true, true, true, true, true, true, true, true, true, true, true, true, true, true, true, true, true, true, true, true, true, true, true, true, true, true, true, true, true, true, true, false, false, false, false, false, false, false, false, false, false, false, false] rfl rfl (any_of HT_.out (by kernel_rfl)) (fun _ _ _ h => h) (Or.inl ⟨by rfl, ?_⟩) ?_ ?_
                  rotate_left
                  ·
                   intro w'
                   go_simp
                   with_reducible rfl
                  rotate_left
                  ·
                   simp only [Act.put, List.setIfInBounds_toArray, List.set_cons_zero, List.set_cons_succ, i64_w, i32_w]
                   rfl
                  refine pure_ (i := 32) (N := some 105) (v := ?_) (a' := ?_) #[true, true, true, true, true, true, true, true, true, true, true, true, true, true, true, true, true, true, true, true, true, true, true, true, true, true, true, true, true, true, true, true, true, false, false, false, false, false, false, false, false, false, false, false] rfl rfl (any_of HT_.out (by kernel_rfl)) (fun _ _ _ h => h) (Or.inl ⟨by rfl, ?_⟩) ?_ ?_
                  rotate_left
                  ·
                   intro w'
                   go_simp
                   with_reducible rfl
                  rotate_left
                  ·
                   simp only [Act.put, List.setIfInBounds_toArray, List.set_cons_zero, List.set_cons_succ, i64_w, i32_w]
                   rfl
                  refine pure_ (i := 33) (N := some 106) (v := ?_) (a' := ?_) #[true, true, true, true, true, true, true, true, true, true, true, true, true, true, true, true, true, true, true, true, true, true, true, true, true, true, true, true, true, true, true, true, true, true, false, false, false, false, false, false, false, false, false, false] rfl rfl (any_of HT_.out (by kernel_rfl)) (fun _ _ _ h => h) (Or.inl ⟨by rfl, ?_⟩) ?_ ?_
                  rotate_left
                  ·
                   intro w'
                   go_simp
                   with_reducible rfl
                  rotate_left
                  ·
                   simp only [Act.put, List.setIfInBounds_toArray, List.set_cons_zero, List.set_cons_succ, i64_w, i32_w]
                   rfl
                  refine pure_ (i := 35) (N := some 108) (v := ?_) (a' := ?_) #[true, true, true, true, true, true, true, true, true, true, true, true, true, true, true, true, true, true, true, true, true, true, true, true, true, true, true, true, true, true, true, true, true, true, false, true, false, false, false, false, false, false, false, false] rfl rfl (any_of HT_.out (by kernel_rfl)) (fun _ _ _ h => h) (Or.inl ⟨by rfl, ?_⟩) ?_ ?_
                  rotate_left
                  ·
                   intro w'
                   go_simp
                   with_reducible rfl
                  rotate_left
                  ·
                   simp only [Act.put, List.setIfInBounds_toArray, List.set_cons_zero, List.set_cons_succ, i64_w, i32_w]
                   rfl
                  refine pure_ (i := 36) (N := some 109) (v := ?_) (a' := ?_) #[true, true, true, true, true, true, true, true, true, true, true, true, true, true, true, true, true, true, true, true, true, true, true, true, true, true, true, true, true, true, true, true, true, true, false, true, true, false, false, false, false, false, false, false] rfl rfl (any_of HT_.out (by kernel_rfl)) (fun _ _ _ h => h) (Or.inl ⟨by rfl, ?_⟩) ?_ ?_
                  rotate_left
                  ·
                   intro w'
                   go_simp
                   with_reducible rfl
                  rotate_left
                  ·
                   simp only [Act.put, List.setIfInBounds_toArray, List.set_cons_zero, List.set_cons_succ, i64_w, i32_w]
                   rfl
                  refine take_ (i := 34) (N := some 107) (v := ?_) (a' := ?_) #[true, true, true, true, true, true, true, true, true, true, true, true, true, true, true, true, true, true, true, true, true, true, true, true, true, true, true, true, true, true, true, true, true, true, true, true, true, false, false, false, false, false, false, false] rfl rfl (take_ofW HT_.out HW_.out (by kernel_rfl)) (fun _ _ _ h => h) (Or.inl ⟨by rfl, ?_⟩) hHeld ?_ ?_
                  rotate_left
                  ·
                   rintro w' ⟨s0, s1, s2, s3, s4, s5⟩
                   go_simp
                   with_reducible rfl
                  rotate_left
                  ·
                   simp only [Act.put, List.setIfInBounds_toArray, List.set_cons_zero, List.set_cons_succ, i64_w, i32_w]
                   rfl
                  refine take_ (i := 37) (N := some 110) (v := ?_) (a' := ?_) #[true, true, true, true, true, true, true, true, true, true, true, true, true, true, true, true, true, true, true, true, true, true, true, true, true, true, true, true, true, true, true, true, true, true, true, true, true, true, false, false, false, false, false, false] rfl rfl (take_ofW HT_.out HW_.out (by kernel_rfl)) (fun _ _ _ h => h) (Or.inl ⟨by rfl, ?_⟩) hHeld ?_ ?_
                  rotate_left
                  ·
                   rintro w' ⟨s0, s1, s2, s3, s4, s5⟩
                   go_simp
                   with_reducible rfl
                  rotate_left
                  ·
                   simp only [Act.put, List.setIfInBounds_toArray, List.set_cons_zero, List.set_cons_succ, i64_w, i32_w]
                   rfl
                  refine one_ (i := 38) (N := some 111) #[true, true, true, true, true, true, true, true, true, true, true, true, true, true, true, true, true, true, true, true, true, true, true, true, true, true, true, true, true, true, true, true, true, true, true, true, true, true, true, false, false, false, false, false] rfl rfl (one_of HT_.out (by kernel_rfl)) (by decide) (fun K hK => ?_)
                  refine goes_ Try.func22 (by kernel_rfl) rfl #[.slice A347_0 (rd_L1 t327 1).length c347_0, .slice A348_0 (rd_L1 t335 0).length c348_0] (by rfl) rfl rfl (by (try simp only [List.map_toArray, List.map_cons, List.map_nil]); first | done | rfl | (simp only [List.length_drop, List.length_take]; rfl)) ?_
                  with_reducible refine (psalteryref06_Same.calls kj16 _ _ (rd_L1 t327 1) _ _ (rd_L1 t335 0) true _ ?side1 ?side2 ?side3 ?side4 A43.out).mono ?_
                  (case side1 => repeat (first | exact (by repeat (first | (with_reducible exact HR347_0.out) | (with_reducible refine Kd.C_alloc ?_ _) | (with_reducible refine Kd.C_drewN ?_ _) | (with_reducible refine Kd.C_drew ?_) | exact HR347_0.out)) | (with_reducible refine Kd.C_alloc ?_ _) | (with_reducible refine Kd.C_drewN ?_ _) | (with_reducible refine Kd.C_drew ?_)))
                  (case side2 => exact HC347_0.out)
                  (case side3 => repeat (first | exact (by repeat (first | (with_reducible exact HR348_0.out) | (with_reducible refine Kd.C_alloc ?_ _) | (with_reducible refine Kd.C_drewN ?_ _) | (with_reducible refine Kd.C_drew ?_) | exact HR348_0.out)) | (with_reducible refine Kd.C_alloc ?_ _) | (with_reducible refine Kd.C_drewN ?_ _) | (with_reducible refine Kd.C_drew ?_)))
                  (case side4 => exact HC348_0.out)
                  rintro e w' ⟨rfl, ⟨nd, rfl⟩⟩
                  refine ⟨_, rfl, ?_⟩
                  refine hK.out _ _ ⟨hHeld.1, hHeld.2.1, hHeld.2.2.1, hHeld.2.2.2.1, hHeld.2.2.2.2.1, hHeld.2.2.2.2.2⟩ (fun hHeld => ?_)
                  clear hK K
                  refine norm_ (a' := ?_) ?_ ?_
                  rotate_left
                  ·
                   show Act.put _ (some 111) _ = _
                   simp only [Act.put, List.setIfInBounds_toArray, List.set_cons_zero, List.set_cons_succ, i64_w, i32_w]
                   rfl
                  refine pure_ (i := 39) (N := some 112) (v := ?_) (a' := ?_) #[true, true, true, true, true, true, true, true, true, true, true, true, true, true, true, true, true, true, true, true, true, true, true, true, true, true, true, true, true, true, true, true, true, true, true, true, true, true, true, true, false, false, false, false] rfl rfl (any_of HT_.out (by kernel_rfl)) (fun _ _ _ h => h) (Or.inl ⟨by rfl, ?_⟩) ?_ ?_
                  rotate_left
                  ·
                   intro w'
                   go_simp
                   with_reducible rfl
                  rotate_left
                  ·
                   simp only [Act.put, List.setIfInBounds_toArray, List.set_cons_zero, List.set_cons_succ, i64_w, i32_w]
                   rfl
                  refine pure_ (i := 40) (N := some 113) (v := ?_) (a' := ?_) #[true, true, true, true, true, true, true, true, true, true, true, true, true, true, true, true, true, true, true, true, true, true, true, true, true, true, true, true, true, true, true, true, true, true, true, true, true, true, true, true, true, false, false, false] rfl rfl (any_of HT_.out (by kernel_rfl)) (fun _ _ _ h => h) (Or.inl ⟨by rfl, ?_⟩) ?_ ?_
                  rotate_left
                  ·
                   intro w'
                   go_simp
                   with_reducible rfl
                  rotate_left
                  ·
                   simp only [Act.put, List.setIfInBounds_toArray, List.set_cons_zero, List.set_cons_succ, i64_w, i32_w]
                   rfl
                  refine one_ (i := 41) (N := some 114) #[true, true, true, true, true, true, true, true, true, true, true, true, true, true, true, true, true, true, true, true, true, true, true, true, true, true, true, true, true, true, true, true, true, true, true, true, true, true, true, true, true, true, false, false] rfl rfl (one_of HT_.out (by kernel_rfl)) (by decide) (fun K hK => ?_)
                  refine goes_ Try.func13 (by kernel_rfl) rfl #[] (by rfl) rfl rfl (by (try simp only [List.map_toArray, List.map_cons, List.map_nil]); first | done | rfl | (simp only [List.length_drop, List.length_take]; rfl)) ?_
                  with_reducible refine (psalterylaw12_knows.calls kj16  t350 _ A45.out).mono ?_
                  rintro e w50 ⟨rfl, hb⟩
                  have HS0_ := (hb.cell (zb _ _ (hHeld.1))).trans (hHeld.1)
                  have HS1_ := (hb.cell (zb _ _ (hHeld.2.1))).trans (hHeld.2.1)
                  have HS2_ := (hb.cell (zb _ _ (hHeld.2.2.1))).trans (hHeld.2.2.1)
                  have HS3_ := (hb.cell (zb _ _ (hHeld.2.2.2.1))).trans (hHeld.2.2.2.1)
                  have HS4_ := (hb.cell (zb _ _ (hHeld.2.2.2.2.1))).trans (hHeld.2.2.2.2.1)
                  have HS5_ := (hb.cell (zb _ _ (hHeld.2.2.2.2.2))).trans (hHeld.2.2.2.2.2)
                  refine ⟨_, rfl, ?_⟩
                  have n0_ := zm (Kd.S_below (by (with_reducible repeat (first | apply Kd.S_alloc | apply Kd.S_drewN | apply Kd.S_drew)); exact HO_9.out) hb)
                  have n1_ := zm (Kd.S_below (by (with_reducible repeat (first | apply Kd.S_alloc | apply Kd.S_drewN | apply Kd.S_drew)); exact HO_11.out) hb)
                  have n2_ := zm (Kd.S_below (by (with_reducible repeat (first | apply Kd.S_alloc | apply Kd.S_drewN | apply Kd.S_drew)); exact HO_13.out) hb)
                  have n3_ := zm (Kd.R_below (by (with_reducible repeat (first | apply zo | apply zp | apply zq)); exact HL341_0.out) hb)
                  have n4_ := zm (Kd.R_below (by (with_reducible repeat (first | apply zo | apply zp | apply zq)); exact HL342_0.out) hb)
                  have n5_ := zm (Kd.R_below (by (with_reducible repeat (first | apply zo | apply zp | apply zq)); exact HL344_0.out) hb)
                  have n6_ := zm (Kd.R_below (by (with_reducible repeat (first | apply zo | apply zp | apply zq)); exact HL345_0.out) hb)
                  have n7_ := zm (Kd.R_below (by (with_reducible repeat (first | apply zo | apply zp | apply zq)); exact HL347_0.out) hb)
                  have n8_ := zm (Kd.R_below (by (with_reducible repeat (first | apply zo | apply zp | apply zq)); exact HL348_0.out) hb)
                  have n9_ := zm (Kd.C_below (Kd.C_drewN (Kd.C_drewN (Kd.C_drewN HR341_0.out _) _) _) hb)
                  have n10_ := zm (Kd.C_below (Kd.C_drewN (Kd.C_drewN (Kd.C_drewN HR342_0.out _) _) _) hb)
                  have n11_ := zm (Kd.C_below (Kd.C_drewN (Kd.C_drewN (Kd.C_drewN HR344_0.out _) _) _) hb)
                  have n12_ := zm (Kd.C_below (Kd.C_drewN (Kd.C_drewN (Kd.C_drewN HR345_0.out _) _) _) hb)
                  have n13_ := zm (Kd.C_below (Kd.C_drewN (Kd.C_drewN (Kd.C_drewN HR347_0.out _) _) _) hb)
                  have n14_ := zm (Kd.C_below (Kd.C_drewN (Kd.C_drewN (Kd.C_drewN HR348_0.out _) _) _) hb)
                  have n15_ := zm (zJ (by repeat (first | (with_reducible first | exact HB.out | apply ze | apply zd | apply zf) | exact HB.out)) hb)
                  clear HO_9
                  clear HO_11
                  clear HO_13
                  clear HL341_0
                  clear HL342_0
                  clear HL344_0
                  clear HL345_0
                  clear HL347_0
                  clear HL348_0
                  clear HR341_0
                  clear HR342_0
                  clear HR344_0
                  clear HR345_0
                  clear HR347_0
                  clear HR348_0
                  clear HB
                  have HO_9 := n0_
                  have HO_11 := n1_
                  have HO_13 := n2_
                  have HL341_0 := n3_
                  have HL342_0 := n4_
                  have HL344_0 := n5_
                  have HL345_0 := n6_
                  have HL347_0 := n7_
                  have HL348_0 := n8_
                  have HR341_0 := n9_
                  have HR342_0 := n10_
                  have HR344_0 := n11_
                  have HR345_0 := n12_
                  have HR347_0 := n13_
                  have HR348_0 := n14_
                  have HB := n15_
                  clear n0_ n1_ n2_ n3_ n4_ n5_ n6_ n7_ n8_ n9_ n10_ n11_ n12_ n13_ n14_ n15_
                  (try clear hb)
                  (try clear hb2)
                  (try clear hk)
                  (try clear hi)
                  refine hK.out _ _ ⟨HS0_, HS1_, HS2_, HS3_, HS4_, HS5_⟩ (fun hHeld => ?_)
                  clear hK K
                  refine norm_ (a' := ?_) ?_ ?_
                  rotate_left
                  ·
                   show Act.put _ (some 114) _ = _
                   simp only [Act.put, List.setIfInBounds_toArray, List.set_cons_zero, List.set_cons_succ, i64_w, i32_w]
                   rfl
                  refine pure_ (i := 42) (N := some 115) (v := ?_) (a' := ?_) #[true, true, true, true, true, true, true, true, true, true, true, true, true, true, true, true, true, true, true, true, true, true, true, true, true, true, true, true, true, true, true, true, true, true, true, true, true, true, true, true, true, true, true, false] rfl rfl (any_of HT_.out (by kernel_rfl)) (fun _ _ _ h => h) (Or.inl ⟨by rfl, ?_⟩) ?_ ?_
                  rotate_left
                  ·
                   intro w'
                   go_simp
                   with_reducible rfl
                  rotate_left
                  ·
                   simp only [Act.put, List.setIfInBounds_toArray, List.set_cons_zero, List.set_cons_succ, i64_w, i32_w]
                   rfl
                  refine pure_ (i := 43) (N := some 8) (v := ?_) (a' := ?_) #[true, true, true, true, true, true, true, true, true, true, true, true, true, true, true, true, true, true, true, true, true, true, true, true, true, true, true, true, true, true, true, true, true, true, true, true, true, true, true, true, true, true, true, true] rfl rfl (any_of HT_.out (by kernel_rfl)) (fun _ _ _ h => h) (Or.inl ⟨by rfl, ?_⟩) ?_ ?_
                  rotate_left
                  ·
                   intro w'
                   go_simp
                   with_reducible rfl
                  rotate_left
                  ·
                   simp only [Act.put, List.setIfInBounds_toArray, List.set_cons_zero, List.set_cons_succ, i64_w, i32_w]
                   rfl
                  refine done_ (done_of HT_.out (by kernel_rfl)) ?_
                  try go_wp2
                  go_ret
                  exact ⟨by first | rfl | (simp [errW_none, errW_some] <;> rfl) | (simp [*, errW_none, errW_some] <;> rfl), by repeat (first | (with_reducible first | exact HB.out | apply ze | apply zd | apply zf) | exact HB.out)⟩
                 ·
                  replace c44 := Bool.eq_false_iff.mpr c44
                  subst c44
                  have H1 : (none) = some r := by rw [if_neg (show ¬ (false = true) by decide)] at H; exact H
                  clear H
                  have H := H1
                  clear H1
                  exact absurd H (by simp)
                ·
                 rw [if_neg c42] at H
                 exact absurd H (by simp)
               ·
                rw [if_neg c41] at H
                exact absurd H (by simp)
              ·
               replace c40 := Bool.eq_false_iff.mpr c40
               subst c40
               have H1 : (none) = some r := by rw [if_neg (show ¬ (false = true) by decide)] at H; exact H
               clear H
               have H := H1
               clear H1
               exact absurd H (by simp)
             ·
              rw [if_neg c38] at H
              exact absurd H (by simp)
            ·
             replace c37 := Bool.eq_false_iff.mpr c37
             subst c37
             have H1 : (none) = some r := by rw [if_neg (show ¬ (false = true) by decide)] at H; exact H
             clear H
             have H := H1
             clear H1
             exact absurd H (by simp)
           ·
            rw [if_neg c35] at H
            exact absurd H (by simp)
          ·
           rw [if_neg c34] at H
           exact absurd H (by simp)
         ·
          rw [if_neg c33] at H
          have c33b0 : ((t335.length : Int) == 2) = false := beq_eq_false_iff_ne.mpr c33
          have c33b1 : ((t335.length : Int) != 2) = true := bne_iff_ne.mpr c33
          exact absurd H (by simp)
        ·
         rw [if_neg c32] at H
         have c32b0 : ((t331.length : Int) == 2) = false := beq_eq_false_iff_ne.mpr c32
         have c32b1 : ((t331.length : Int) != 2) = true := bne_iff_ne.mpr c32
         exact absurd H (by simp)
       ·
        rw [if_neg c31] at H
        have c31b0 : ((t327.length : Int) == 2) = false := beq_eq_false_iff_ne.mpr c31
        have c31b1 : ((t327.length : Int) != 2) = true := bne_iff_ne.mpr c31
        exact absurd H (by simp)

end Go.Proofs.Ytbaaedpjaanjnaa.Prt

namespace Go.Proofs.Ytbaaedpjaanjnaa.Prt
open Go.RowKit Go.Proofs.YtbaaedpjaanjnaaW.PrintWords Go.Proofs.YtbaaedpjaanjnaaW.PrintLast Go.Proofs.YtbaaedpjaanjnaaW.PrintMore
attribute [local go_sem] max2_int min2_int max_two min_two max_three min_three max_four min_four   -- for this text's walks alone
set_option linter.unusedVariables false
set_option linter.unusedSimpArgs false

/-! ### psalteryref12_Right: function 10 -/
def psalteryref12_Right.f (a0 : Int) (a1 : Int) : Option (Bool) := if a0 ≤ 60 then (if a1 = 1 then (if a0 ≥ 11 then (some true) else (if a1 = 2 then (some (decide (a0 ≥ 17))) else (some false))) else (if a1 = 2 then (some (decide (a0 ≥ 17))) else (some false))) else (some false)
set_option maxHeartbeats 8000000 in
set_option maxRecDepth 100000 in
theorem psalteryref12_Right.calls (a0 : Int) (a1 : Int) (r : Bool) (w : World) (h : psalteryref12_Right.f a0 a1 = some r) :
  Calls Try.prog 10 #[.int .i64 a0, .int .i64 a1] w fun e w' => e = .returned (.bool r) ∧ Drawn0 w w' := by
 have H : (if a0 ≤ 60 then (if a1 = 1 then (if a0 ≥ 11 then (some true) else (if a1 = 2 then (some (decide (a0 ≥ 17))) else (some false))) else (if a1 = 2 then (some (decide (a0 ≥ 17))) else (some false))) else (some false)) = some r := h
 clear h
 by_cases c3 : a0 ≤ 60
 ·
  rw [if_pos c3] at H
  have c3b0 : decide (a0 ≤ 60) = true := decide_eq_true c3
  clear c3
  by_cases c4 : a1 = 1
  ·
   rw [if_pos c4] at H
   have c4b0 : (a1 == 1) = true := beq_iff_eq.mpr c4
   have c4b1 : (a1 != 1) = false := bne_eq_false_iff_eq.mpr c4
   clear c4
   by_cases c5 : a0 ≥ 11
   ·
    rw [if_pos c5] at H
    have c5b0 : decide (11 ≤ a0) = true := decide_eq_true c5
    clear c5
    obtain rfl := Option.some.inj H
    go_enter Try.func10, Try.ntmps10
    go_wp2
    go_ret
    exact ⟨by first | rfl | (simp; done) | (simp [*]; done), by repeat (first | exact Drawn0.refl _ | apply Drawn0.step)⟩
   ·
    rw [if_neg c5] at H
    have c5b0 : decide (11 ≤ a0) = false := decide_eq_false c5
    clear c5
    by_cases c6 : a1 = 2
    ·
     rw [if_pos c6] at H
     have c6b0 : (a1 == 2) = true := beq_iff_eq.mpr c6
     have c6b1 : (a1 != 2) = false := bne_eq_false_iff_eq.mpr c6
     clear c6
     obtain rfl := Option.some.inj H
     go_enter Try.func10, Try.ntmps10
     go_wp2
     go_ret
     exact ⟨by first | rfl | (simp; done) | (simp [*]; done), by repeat (first | exact Drawn0.refl _ | apply Drawn0.step)⟩
    ·
     rw [if_neg c6] at H
     have c6b0 : (a1 == 2) = false := beq_eq_false_iff_ne.mpr c6
     have c6b1 : (a1 != 2) = true := bne_iff_ne.mpr c6
     obtain rfl := Option.some.inj H
     go_enter Try.func10, Try.ntmps10
     go_wp2
     go_ret
     exact ⟨by first | rfl | (simp; done) | (simp [*]; done), by repeat (first | exact Drawn0.refl _ | apply Drawn0.step)⟩
  ·
   rw [if_neg c4] at H
   have c4b0 : (a1 == 1) = false := beq_eq_false_iff_ne.mpr c4
   have c4b1 : (a1 != 1) = true := bne_iff_ne.mpr c4
   by_cases c7 : a1 = 2
   ·
    rw [if_pos c7] at H
    have c7b0 : (a1 == 2) = true := beq_iff_eq.mpr c7
    have c7b1 : (a1 != 2) = false := bne_eq_false_iff_eq.mpr c7
    clear c7
    obtain rfl := Option.some.inj H
    go_enter Try.func10, Try.ntmps10
    go_wp2
    go_ret
    exact ⟨by first | rfl | (simp; done) | (simp [*]; done), by repeat (first | exact Drawn0.refl _ | apply Drawn0.step)⟩
   ·
    rw [if_neg c7] at H
    have c7b0 : (a1 == 2) = false := beq_eq_false_iff_ne.mpr c7
    have c7b1 : (a1 != 2) = true := bne_iff_ne.mpr c7
    obtain rfl := Option.some.inj H
    go_enter Try.func10, Try.ntmps10
    go_wp2
    go_ret
    exact ⟨by first | rfl | (simp; done) | (simp [*]; done), by repeat (first | exact Drawn0.refl _ | apply Drawn0.step)⟩
 ·
  rw [if_neg c3] at H
  have c3b0 : decide (a0 ≤ 60) = false := decide_eq_false c3
  clear c3
  obtain rfl := Option.some.inj H
  go_enter Try.func10, Try.ntmps10
  go_wp2
  go_ret
  exact ⟨by first | rfl | (simp; done) | (simp [*]; done), by repeat (first | exact Drawn0.refl _ | apply Drawn0.step)⟩

end Go.Proofs.Ytbaaedpjaanjnaa.Prt

namespace Go.Proofs.Ytbaaedpjaanjnaa.Prt
open Go.RowKit Go.Proofs.YtbaaedpjaanjnaaW.PrintWords Go.Proofs.YtbaaedpjaanjnaaW.PrintLast Go.Proofs.YtbaaedpjaanjnaaW.PrintMore
attribute [local go_sem] max2_int min2_int max_two min_two max_three min_three max_four min_four   -- for this text's walks alone
set_option linter.unusedVariables false
set_option linter.unusedSimpArgs false

/-! ### psalteryref12_Room: function 12 -/
def psalteryref12_Room.f (a0 : Int) (a1 : Int) : Option (Int) := (psalteryref12_Right.f a0 a1).bind fun t103 => (if t103 = true then (if a1 = 1 then (some (wrap64 ((wrap64 (8 * a0)) - 86))) else (some (wrap64 (Int.tdiv (wrap64 ((wrap64 (8 * a0)) - 131)) 2)))) else (some 0))
set_option maxHeartbeats 8000000 in
set_option maxRecDepth 100000 in
theorem psalteryref12_Room.calls (a0 : Int) (a1 : Int) (r : Int) (w : World) (h : psalteryref12_Room.f a0 a1 = some r) :
  Calls Try.prog 12 #[.int .i64 a0, .int .i64 a1] w fun e w' => e = .returned (.int .i64 r) ∧ Drawn0 w w' := by
 have H : ((psalteryref12_Right.f a0 a1).bind fun t103 => (if t103 = true then (if a1 = 1 then (some (wrap64 ((wrap64 (8 * a0)) - 86))) else (some (wrap64 (Int.tdiv (wrap64 ((wrap64 (8 * a0)) - 131)) 2)))) else (some 0))) = some r := h
 clear h
 replace H := Option.bind_eq_some_iff.mp H
 obtain ⟨t103, A30, H⟩ := H
 replace H : (if t103 = true then (if a1 = 1 then (some (wrap64 ((wrap64 (8 * a0)) - 86))) else (some (wrap64 (Int.tdiv (wrap64 ((wrap64 (8 * a0)) - 131)) 2)))) else (some 0)) = some r := H
 have A3 := zm A30
 clear A30
 by_cases c4 : t103 = true
 ·
  subst c4
  have H1 : (if a1 = 1 then (some (wrap64 ((wrap64 (8 * a0)) - 86))) else (some (wrap64 (Int.tdiv (wrap64 ((wrap64 (8 * a0)) - 131)) 2)))) = some r := by rw [if_pos rfl] at H; exact H
  clear H
  have H := H1
  clear H1
  by_cases c5 : a1 = 1
  ·
   rw [if_pos c5] at H
   have c5b0 : (a1 == 1) = true := beq_iff_eq.mpr c5
   have c5b1 : (a1 != 1) = false := bne_eq_false_iff_eq.mpr c5
   clear c5
   obtain rfl := Option.some.inj H
   go_enter Try.func12, Try.ntmps12
   go_wp2_with (first | ((with_reducible refine gate_callee (f := 10) rfl ?_); refine goesL_ (some 7) rfl rfl Try.func10 (by kernel_rfl) rfl #[.int .i64 a0, .int .i64 a1] rfl (by (try simp only [List.map_toArray, List.map_cons, List.map_nil]); first | done | rfl | (simp only [List.length_drop, List.length_take]; rfl)) ?_; (with_reducible refine (psalteryref12_Right.calls a0 a1 true _ A3.out).mono ?_); rintro e w' ⟨rfl, ⟨nd, rfl⟩⟩; refine ⟨_, rfl, ?_⟩))
   go_ret
   exact ⟨by first | rfl | (simp; done) | (simp [*]; done), by repeat (first | exact Drawn0.refl _ | apply Drawn0.step)⟩
  ·
   rw [if_neg c5] at H
   have c5b0 : (a1 == 1) = false := beq_eq_false_iff_ne.mpr c5
   have c5b1 : (a1 != 1) = true := bne_iff_ne.mpr c5
   obtain rfl := Option.some.inj H
   go_enter Try.func12, Try.ntmps12
   go_wp2_with (first | ((with_reducible refine gate_callee (f := 10) rfl ?_); refine goesL_ (some 7) rfl rfl Try.func10 (by kernel_rfl) rfl #[.int .i64 a0, .int .i64 a1] rfl (by (try simp only [List.map_toArray, List.map_cons, List.map_nil]); first | done | rfl | (simp only [List.length_drop, List.length_take]; rfl)) ?_; (with_reducible refine (psalteryref12_Right.calls a0 a1 true _ A3.out).mono ?_); rintro e w' ⟨rfl, ⟨nd, rfl⟩⟩; refine ⟨_, rfl, ?_⟩))
   go_ret
   exact ⟨by first | rfl | (simp; done) | (simp [*]; done), by repeat (first | exact Drawn0.refl _ | apply Drawn0.step)⟩
 ·
  replace c4 := Bool.eq_false_iff.mpr c4
  subst c4
  have H1 : (some 0) = some r := by rw [if_neg (show ¬ (false = true) by decide)] at H; exact H
  clear H
  have H := H1
  clear H1
  obtain rfl := Option.some.inj H
  go_enter Try.func12, Try.ntmps12
  go_wp2_with (first | ((with_reducible refine gate_callee (f := 10) rfl ?_); refine goesL_ (some 7) rfl rfl Try.func10 (by kernel_rfl) rfl #[.int .i64 a0, .int .i64 a1] rfl (by (try simp only [List.map_toArray, List.map_cons, List.map_nil]); first | done | rfl | (simp only [List.length_drop, List.length_take]; rfl)) ?_; (with_reducible refine (psalteryref12_Right.calls a0 a1 false _ A3.out).mono ?_); rintro e w' ⟨rfl, ⟨nd, rfl⟩⟩; refine ⟨_, rfl, ?_⟩))
  go_ret
  exact ⟨by first | rfl | (simp; done) | (simp [*]; done), by repeat (first | exact Drawn0.refl _ | apply Drawn0.step)⟩

end Go.Proofs.Ytbaaedpjaanjnaa.Prt

namespace Go.Proofs.Ytbaaedpjaanjnaa.Prt
open Go.RowKit Go.Proofs.YtbaaedpjaanjnaaW.PrintWords Go.Proofs.YtbaaedpjaanjnaaW.PrintLast Go.Proofs.YtbaaedpjaanjnaaW.PrintMore
attribute [local go_sem] max2_int min2_int max_two min_two max_three min_three max_four min_four   -- for this text's walks alone
set_option linter.unusedVariables false
set_option linter.unusedSimpArgs false

/-! ### psalteryref06_Row: function 39 -/
mutual
def psalteryref06_Row.l0 : Nat → Int → List Int → Int → Option (List Int)
 | 0, _, _, _ => none
 | k + 1, x0, x3, x4 => if x4 ≤ 12 then (if x4 = 0 then (if x3.length < 17592186044416 then (psalteryref06_Row.l0 k x0 (x3 ++ [1]) (wrap64 (x4 + 1))) else (none)) else (if x3.length < 17592186044416 then (psalteryref06_Row.l0 k x0 (x3 ++ [0]) (wrap64 (x4 + 1))) else (none))) else (psalteryref06_Row.l1 k x0 x3 0)
def psalteryref06_Row.l1 : Nat → Int → List Int → Int → Option (List Int)
 | 0, _, _, _ => none
 | k + 1, x0, x3, x5 => if x5 < x0 then (psalteryref06_Row.l2 k x0 x3 x5 ([] : List Int) 0) else (some x3)
def psalteryref06_Row.l2 : Nat → Int → List Int → Int → List Int → Int → Option (List Int)
 | 0, _, _, _, _, _ => none
 | k + 1, x0, x3, x5, x6, x7 => if x7 ≤ 12 then (if 0 ≤ x7 then (if x7 < (x3.length : Int) then (psalteryref06_Row.l3 k x0 x3 x5 x6 x7 (rd x3 x7) 1) else (none)) else (none)) else (psalteryref06_Row.l1 k x0 x6 (wrap64 (x5 + 1)))
def psalteryref06_Row.l3 : Nat → Int → List Int → Int → List Int → Int → Int → Int → Option (List Int)
 | 0, _, _, _, _, _, _, _ => none
 | k + 1, x0, x3, x5, x6, x7, x8, x9 => if x9 ≤ x7 then (if 0 ≤ (wrap64 (x7 - x9)) then (if (wrap64 (x7 - x9)) < (x3.length : Int) then (psalteryref06_Row.l3 k x0 x3 x5 x6 x7 (IntKind.u64.wrap (x8 + (IntKind.u64.wrap (2 * (rd x3 (wrap64 (x7 - x9))))))) (wrap64 (x9 + 1))) else (none)) else (none)) else (if x6.length < 17592186044416 then (psalteryref06_Row.l2 k x0 x3 x5 (x6 ++ [x8]) (wrap64 (x7 + 1))) else (none))
end
def psalteryref06_Row.f (k : Nat) (a0 : Int) : Option (List Int) := psalteryref06_Row.l0 k a0 ([] : List Int) 0
theorem psalteryref06_Row.mono_l : ∀ k, (∀ y0 y1 y2, LeO (psalteryref06_Row.l0 k y0 y1 y2) (psalteryref06_Row.l0 (k + 1) y0 y1 y2)) ∧ (∀ y0 y1 y2, LeO (psalteryref06_Row.l1 k y0 y1 y2) (psalteryref06_Row.l1 (k + 1) y0 y1 y2)) ∧ (∀ y0 y1 y2 y3 y4, LeO (psalteryref06_Row.l2 k y0 y1 y2 y3 y4) (psalteryref06_Row.l2 (k + 1) y0 y1 y2 y3 y4)) ∧ (∀ y0 y1 y2 y3 y4 y5 y6, LeO (psalteryref06_Row.l3 k y0 y1 y2 y3 y4 y5 y6) (psalteryref06_Row.l3 (k + 1) y0 y1 y2 y3 y4 y5 y6))
 | 0 => ⟨fun _ _ _ r h => by simp [psalteryref06_Row.l0] at h, fun _ _ _ r h => by simp [psalteryref06_Row.l1] at h, fun _ _ _ _ _ r h => by simp [psalteryref06_Row.l2] at h, fun _ _ _ _ _ _ _ r h => by simp [psalteryref06_Row.l3] at h⟩
 | k + 1 => by
  obtain ⟨ih0, ih1, ih2, ih3⟩ := psalteryref06_Row.mono_l k
  refine ⟨?_, ?_, ?_, ?_⟩
  ·
   intro y0 y1 y2
   unfold psalteryref06_Row.l0
   repeat' first
   | (with_reducible exact ih0 _ _ _)
   | (with_reducible exact ih1 _ _ _)
   | (with_reducible exact ih2 _ _ _ _ _)
   | (with_reducible exact ih3 _ _ _ _ _ _ _)
   | (with_reducible exact LeO.refl _)
   | (with_reducible exact LeO.none _)
   | (with_reducible refine LeO.ite ?_ ?_)
   | (with_reducible refine LeO.bind ?_ (fun _ => ?_))
   | exact ih0 _ _ _
   | exact ih1 _ _ _
   | exact ih2 _ _ _ _ _
   | exact ih3 _ _ _ _ _ _ _
   | exact LeO.none _
   | refine LeO.ite ?_ ?_
   | refine LeO.bind ?_ (fun _ => ?_)
  ·
   intro y0 y1 y2
   unfold psalteryref06_Row.l1
   repeat' first
   | (with_reducible exact ih0 _ _ _)
   | (with_reducible exact ih1 _ _ _)
   | (with_reducible exact ih2 _ _ _ _ _)
   | (with_reducible exact ih3 _ _ _ _ _ _ _)
   | (with_reducible exact LeO.refl _)
   | (with_reducible exact LeO.none _)
   | (with_reducible refine LeO.ite ?_ ?_)
   | (with_reducible refine LeO.bind ?_ (fun _ => ?_))
   | exact ih0 _ _ _
   | exact ih1 _ _ _
   | exact ih2 _ _ _ _ _
   | exact ih3 _ _ _ _ _ _ _
   | exact LeO.none _
   | refine LeO.ite ?_ ?_
   | refine LeO.bind ?_ (fun _ => ?_)
  ·
   intro y0 y1 y2 y3 y4
   unfold psalteryref06_Row.l2
   repeat' first
   | (with_reducible exact ih0 _ _ _)
   | (with_reducible exact ih1 _ _ _)
   | (with_reducible exact ih2 _ _ _ _ _)
   | (with_reducible exact ih3 _ _ _ _ _ _ _)
   | (with_reducible exact LeO.refl _)
   | (with_reducible exact LeO.none _)
   | (with_reducible refine LeO.ite ?_ ?_)
   | (with_reducible refine LeO.bind ?_ (fun _ => ?_))
   | exact ih0 _ _ _
   | exact ih1 _ _ _
   | exact ih2 _ _ _ _ _
   | exact ih3 _ _ _ _ _ _ _
   | exact LeO.none _
   | refine LeO.ite ?_ ?_
   | refine LeO.bind ?_ (fun _ => ?_)
  ·
   intro y0 y1 y2 y3 y4 y5 y6
   unfold psalteryref06_Row.l3
   repeat' first
   | (with_reducible exact ih0 _ _ _)
   | (with_reducible exact ih1 _ _ _)
   | (with_reducible exact ih2 _ _ _ _ _)
   | (with_reducible exact ih3 _ _ _ _ _ _ _)
   | (with_reducible exact LeO.refl _)
   | (with_reducible exact LeO.none _)
   | (with_reducible refine LeO.ite ?_ ?_)
   | (with_reducible refine LeO.bind ?_ (fun _ => ?_))
   | exact ih0 _ _ _
   | exact ih1 _ _ _
   | exact ih2 _ _ _ _ _
   | exact ih3 _ _ _ _ _ _ _
   | exact LeO.none _
   | refine LeO.ite ?_ ?_
   | refine LeO.bind ?_ (fun _ => ?_)
theorem psalteryref06_Row.mono : ∀ a0 k, LeO (psalteryref06_Row.f k a0) (psalteryref06_Row.f (k + 1) a0) := by
 intro a0 k
 obtain ⟨ih0, ih1, ih2, ih3⟩ := psalteryref06_Row.mono_l k
 unfold psalteryref06_Row.f
 repeat' first
   | (with_reducible exact ih0 _ _ _)
   | (with_reducible exact ih1 _ _ _)
   | (with_reducible exact ih2 _ _ _ _ _)
   | (with_reducible exact ih3 _ _ _ _ _ _ _)
   | (with_reducible exact LeO.refl _)
   | (with_reducible exact LeO.none _)
   | (with_reducible refine LeO.ite ?_ ?_)
   | (with_reducible refine LeO.bind ?_ (fun _ => ?_))
   | exact ih0 _ _ _
   | exact ih1 _ _ _
   | exact ih2 _ _ _ _ _
   | exact ih3 _ _ _ _ _ _ _
   | exact LeO.none _
   | refine LeO.ite ?_ ?_
   | refine LeO.bind ?_ (fun _ => ?_)
set_option maxHeartbeats 8000000 in
set_option maxRecDepth 100000 in
theorem psalteryref06_Row.calls (k : Nat) (a0 : Int) (r : List Int) (w : World) (h : psalteryref06_Row.f k a0 = some r) :
  Calls Try.prog 39 #[.int .i64 a0] w fun e w' => ∃ v0_ : Value, e = .returned (v0_) ∧ Kd.R (Kd.int .u64) 48 w' w.heap.size (fun _ => True) v0_ r ∧ Below w.heap.size w w' := by
 have HB := zm (Below.refl w.heap.size w)
 have H : (psalteryref06_Row.l0 k a0 ([] : List Int) 0) = some r := h
 clear h
 have H' := zm H
 clear H
 go_enter Try.func39, Try.ntmps39
 go_wp2
 go_loopg [3, 4] k (fun kq v3 v4 w' => ∃ (x3_1 : List Int) (x4_1 : Int), v4 = .int .i64 x4_1 ∧ Aside0 (psalteryref06_Row.l0 kq a0 x3_1 x4_1 = some r) ∧ Aside0 (kq ≤ k) ∧ Aside0 (Kd.R (Kd.int .u64) 48 w' w.heap.size (fun _ => True) v3 x3_1) ∧ Aside0 (Below w.heap.size w w'))
 case atStart => exact ⟨(([] : List Int)), (0), (by first | rfl | (simp; done) | (simp [*]; done)), H', ⟨Nat.le_refl _⟩, ⟨by first | exact Kd.R_nil _ _ _ _ _ | exact Kd.N_nil _ _ _ _ _ | exact Kd.V_nil _ _ _ _ _ | exact Kd.Q_nil _ _ _ _ _ | exact Kd.S_nil _ _ _ _ _⟩, ⟨by repeat (first | (with_reducible first | exact HB.out | apply ze | apply zd | apply zf) | exact HB.out)⟩⟩
 case round =>
  clear H'
  obtain ⟨x3_1, x4_1, rfl, HA, HK1, HO_3, HB⟩ := hrel
  cases gk with
  | zero => exact absurd HA.out (by simp [psalteryref06_Row.l0])
  | succ k1 =>
   have H := HA.out
   clear HA
   simp only [psalteryref06_Row.l0] at H
   by_cases c2 : x4_1 ≤ 12
   ·
    rw [if_pos c2] at H
    have c2b0 : decide (x4_1 ≤ 12) = true := decide_eq_true c2
    clear c2
    by_cases c3 : x4_1 = 0
    ·
     rw [if_pos c3] at H
     have c3b0 : (x4_1 == 0) = true := beq_iff_eq.mpr c3
     have c3b1 : (x4_1 != 0) = false := bne_eq_false_iff_eq.mpr c3
     clear c3
     by_cases c4 : x3_1.length < 17592186044416
     ·
      rw [if_pos c4] at H
      have LMc4 := zm c4
      clear c4
      obtain ⟨y205, hy205⟩ : ∃ y_ : List Int, y_ = (x3_1 ++ [1]) := ⟨_, rfl⟩
      replace H : (psalteryref06_Row.l0 k1 a0 y205 (wrap64 (x4_1 + 1))) = some r := by first | (rw [hy205]; with_reducible exact H) | (have H2_ := (Option.bind_some _ _).symm.trans H; rw [hy205]; with_reducible exact H2_) | (have H2_ := (Option.bind_some _ _).symm.trans H; with_reducible exact H2_) | with_reducible exact H | (rw [hy205]; exact H) | exact H
      have Ny205 := zm hy205
      clear hy205
      have H' := zm H
      clear H
      go_wp2_with (first | ((with_reducible refine gate_builtin (b := .append) (xs := #[.tmp 16, .tmp 17]) rfl ?_); at_builtin; refine Kd.R_append (Kd.int .u64) (w0 := w) w.heap.size rfl (.tmp 16) (.tmp 17) 54 48 (.int .u64 0) 8 rfl Try.underlying54 info48 rfl (by decide) (by omega) u3 x3_1 1 [.int .u64 1] (fun _ => True) (fun _ => False) rfl rfl ?aP (fun _ hk => hk.elim) ?aF ?aO ?aB ?aS ?aL ?_; (case aP => exact rfl); (case aB => exact (by repeat (first | (with_reducible first | exact HB.out | apply ze | apply zd | apply zf) | exact HB.out))); (case aF => exact (fun _ _ => trivial)); (case aO => exact (by (with_reducible repeat (first | apply zo | apply zp | apply zq)); exact HO_3.out)); (case aS => exact (zE (by repeat (first | (with_reducible first | exact HB.out | apply ze | apply zd | apply zf) | exact HB.out)))); (case aL => have := LMc4.out; omega); intro v206 w5 ho hb hg hat; rw [← Ny205.out] at ho; have n0_ := zm (hb); have n1_ := zm (ho); clear HB; clear HO_3; have HB := n0_; have HO207 := n1_; clear n0_ n1_; clear ho hb hg hat))
      go_roundg k1
      case measure => have := HK1.out; omega
      case rel => exact ⟨(y205), (wrap64 (x4_1 + 1)), (by first | rfl | (simp; done) | (simp [*]; done)), H', ⟨by have := HK1.out; omega⟩, ⟨by (with_reducible repeat (first | apply zo | apply zp | apply zq)); exact HO207.out⟩, ⟨by repeat (first | (with_reducible first | exact HB.out | apply ze | apply zd | apply zf) | exact HB.out)⟩⟩
     ·
      rw [if_neg c4] at H
      exact absurd H (by simp)
    ·
     rw [if_neg c3] at H
     have c3b0 : (x4_1 == 0) = false := beq_eq_false_iff_ne.mpr c3
     have c3b1 : (x4_1 != 0) = true := bne_iff_ne.mpr c3
     by_cases c6 : x3_1.length < 17592186044416
     ·
      rw [if_pos c6] at H
      have LMc6 := zm c6
      clear c6
      obtain ⟨y208, hy208⟩ : ∃ y_ : List Int, y_ = (x3_1 ++ [0]) := ⟨_, rfl⟩
      replace H : (psalteryref06_Row.l0 k1 a0 y208 (wrap64 (x4_1 + 1))) = some r := by first | (rw [hy208]; with_reducible exact H) | (have H2_ := (Option.bind_some _ _).symm.trans H; rw [hy208]; with_reducible exact H2_) | (have H2_ := (Option.bind_some _ _).symm.trans H; with_reducible exact H2_) | with_reducible exact H | (rw [hy208]; exact H) | exact H
      have Ny208 := zm hy208
      clear hy208
      have H' := zm H
      clear H
      go_wp2_with (first | ((with_reducible refine gate_builtin (b := .append) (xs := #[.tmp 19, .tmp 20]) rfl ?_); at_builtin; refine Kd.R_append (Kd.int .u64) (w0 := w) w.heap.size rfl (.tmp 19) (.tmp 20) 54 48 (.int .u64 0) 8 rfl Try.underlying54 info48 rfl (by decide) (by omega) u3 x3_1 0 [.int .u64 0] (fun _ => True) (fun _ => False) rfl rfl ?aP (fun _ hk => hk.elim) ?aF ?aO ?aB ?aS ?aL ?_; (case aP => exact rfl); (case aB => exact (by repeat (first | (with_reducible first | exact HB.out | apply ze | apply zd | apply zf) | exact HB.out))); (case aF => exact (fun _ _ => trivial)); (case aO => exact (by (with_reducible repeat (first | apply zo | apply zp | apply zq)); exact HO_3.out)); (case aS => exact (zE (by repeat (first | (with_reducible first | exact HB.out | apply ze | apply zd | apply zf) | exact HB.out)))); (case aL => have := LMc6.out; omega); intro v209 w7 ho hb hg hat; rw [← Ny208.out] at ho; have n0_ := zm (hb); have n1_ := zm (ho); clear HB; clear HO_3; have HB := n0_; have HO210 := n1_; clear n0_ n1_; clear ho hb hg hat))
      go_roundg k1
      case measure => have := HK1.out; omega
      case rel => exact ⟨(y208), (wrap64 (x4_1 + 1)), (by first | rfl | (simp; done) | (simp [*]; done)), H', ⟨by have := HK1.out; omega⟩, ⟨by (with_reducible repeat (first | apply zo | apply zp | apply zq)); exact HO210.out⟩, ⟨by repeat (first | (with_reducible first | exact HB.out | apply ze | apply zd | apply zf) | exact HB.out)⟩⟩
     ·
      rw [if_neg c6] at H
      exact absurd H (by simp)
   ·
    rw [if_neg c2] at H
    have c2b0 : decide (x4_1 ≤ 12) = false := decide_eq_false c2
    clear c2
    have H' := zm H
    clear H
    go_wp2
    go_loopg [3, 5] k1 (fun kq v3 v5 w' => ∃ (x3_2 : List Int) (x5_2 : Int), v5 = .int .i64 x5_2 ∧ Aside0 (psalteryref06_Row.l1 kq a0 x3_2 x5_2 = some r) ∧ Aside0 (kq ≤ k1) ∧ Aside0 (Kd.R (Kd.int .u64) 48 w' w.heap.size (fun _ => True) v3 x3_2) ∧ Aside0 (Below w.heap.size w w'))
    case atStart => exact ⟨(x3_1), (0), (by first | rfl | (simp; done) | (simp [*]; done)), H', ⟨Nat.le_refl _⟩, ⟨by (with_reducible repeat (first | apply zo | apply zp | apply zq)); exact HO_3.out⟩, ⟨by repeat (first | (with_reducible first | exact HB.out | apply ze | apply zd | apply zf) | exact HB.out)⟩⟩
    case round =>
     clear H'
     try clear c2
     try clear c2b0
     try clear p2
     try clear c3
     try clear c3b0
     try clear c3b1
     try clear c4
     try clear c6
     try clear p6
     obtain ⟨x3_2, x5_2, rfl, HA, HK2, HO_3, HB⟩ := hrel
     cases gk with
     | zero => exact absurd HA.out (by simp [psalteryref06_Row.l1])
     | succ k2 =>
      have H := HA.out
      clear HA
      simp only [psalteryref06_Row.l1] at H
      by_cases c8 : x5_2 < a0
      ·
       rw [if_pos c8] at H
       have c8b0 : decide (x5_2 < a0) = true := decide_eq_true c8
       clear c8
       have H' := zm H
       clear H
       go_wp2
       go_loopg [6, 7] k2 (fun kq v6 v7 w' => ∃ (x6_3 : List Int) (x7_3 : Int), v7 = .int .i64 x7_3 ∧ Aside0 (psalteryref06_Row.l2 kq a0 x3_2 x5_2 x6_3 x7_3 = some r) ∧ Aside0 (kq ≤ k2) ∧ Aside0 (Kd.R (Kd.int .u64) 48 w' w.heap.size (fun k_ => some k_ ≠ (v6 : Value).ownBlock) u3 x3_2) ∧ Aside0 (Kd.R (Kd.int .u64) 48 w' w.heap.size (fun k_ => some k_ ≠ (u3 : Value).ownBlock) v6 x6_3) ∧ Aside0 (Below w.heap.size w w'))
       case atStart => exact ⟨(([] : List Int)), (0), (by first | rfl | (simp; done) | (simp [*]; done)), H', ⟨Nat.le_refl _⟩, ⟨by (with_reducible repeat (first | apply zo | apply zp | apply zq)); exact zG HO_3.out (fun _ hk => (by simp [Value.ownBlock]))⟩, ⟨by first | exact Kd.R_nil _ _ _ _ _ | exact Kd.N_nil _ _ _ _ _ | exact Kd.V_nil _ _ _ _ _ | exact Kd.Q_nil _ _ _ _ _ | exact Kd.S_nil _ _ _ _ _⟩, ⟨by repeat (first | (with_reducible first | exact HB.out | apply ze | apply zd | apply zf) | exact HB.out)⟩⟩
       case round =>
        clear H'
        try clear c2
        try clear c2b0
        try clear p2
        try clear c3
        try clear c3b0
        try clear c3b1
        try clear c4
        try clear c6
        try clear p6
        try clear c8
        try clear c8b0
        try clear p2
        try clear p6
        obtain ⟨x6_3, x7_3, rfl, HA, HK3, HO_3, HO_6, HB⟩ := hrel
        cases gk with
        | zero => exact absurd HA.out (by simp [psalteryref06_Row.l2])
        | succ k3 =>
         have H := HA.out
         clear HA
         simp only [psalteryref06_Row.l2] at H
         by_cases c9 : x7_3 ≤ 12
         ·
          rw [if_pos c9] at H
          have c9b0 : decide (x7_3 ≤ 12) = true := decide_eq_true c9
          clear c9
          by_cases c10 : 0 ≤ x7_3
          ·
           rw [if_pos c10] at H
           have c10b0 : decide (0 ≤ x7_3) = true := decide_eq_true c10
           clear c10
           by_cases c11 : x7_3 < (x3_2.length : Int)
           ·
            rw [if_pos c11] at H
            have c11b0 : decide (x7_3 < (x3_2.length : Int)) = true := decide_eq_true c11
            clear c11
            have H' := zm H
            clear H
            obtain ⟨Ao12, co12, eo12⟩ := Kd.R_slice HO_3.out
            subst eo12
            have p211 : 0 ≤ (x7_3 : Int) := of_decide_eq_true (by first | (with_reducible assumption) | assumption)
            have q211 : x7_3 < (x3_2.length : Int) := of_decide_eq_true (by first | (with_reducible assumption) | assumption)
            obtain ⟨ad211, e211, hx211_0⟩ := Kd.at_int (Kd.R_reads' HO_3.out).2.2 x7_3 p211 q211
            cases e211
            replace p211 := eq_true p211
            replace q211 := eq_true q211
            go_wp2
            go_loopg [8, 9] k3 (fun kq v8 v9 w' => ∃ (x8_4 : Int) (x9_4 : Int), v8 = .int .u64 x8_4 ∧ v9 = .int .i64 x9_4 ∧ Aside0 (psalteryref06_Row.l3 kq a0 x3_2 x5_2 x6_3 x7_3 x8_4 x9_4 = some r) ∧ Aside0 (kq ≤ k3) ∧ Aside0 (Kd.R (Kd.int .u64) 48 w' w.heap.size (fun k_ => some k_ ≠ (u6 : Value).ownBlock) (.slice (some ad211) x3_2.length co12) x3_2) ∧ Aside0 (Kd.R (Kd.int .u64) 48 w' w.heap.size (fun k_ => some k_ ≠ ((.slice (some ad211) x3_2.length co12) : Value).ownBlock) u6 x6_3) ∧ Aside0 (Below w.heap.size w w'))
            case atStart => exact ⟨(rd x3_2 x7_3), (1), (by first | rfl | (simp; done) | (simp [*]; done)), (by first | rfl | (simp; done) | (simp [*]; done)), H', ⟨Nat.le_refl _⟩, ⟨by (with_reducible repeat (first | apply zo | apply zp | apply zq)); exact HO_3.out⟩, ⟨by (with_reducible repeat (first | apply zo | apply zp | apply zq)); exact HO_6.out⟩, ⟨by repeat (first | (with_reducible first | exact HB.out | apply ze | apply zd | apply zf) | exact HB.out)⟩⟩
            case round =>
             clear H'
             try clear c1
             try clear c2
             try clear c2b0
             try clear p2
             try clear q2
             try clear hx2
             try clear c3
             try clear c3b0
             try clear c3b1
             try clear c4
             try clear c6
             try clear p6
             try clear c8
             try clear c8b0
             try clear c9
             try clear c9b0
             try clear c10
             try clear c10b0
             try clear c11
             try clear c11b0
             try clear hx211_0
             try clear p2
             try clear p211
             try clear p6
             try clear q211
             obtain ⟨x8_4, x9_4, rfl, rfl, HA, HK4, HO_3, HO_6, HB⟩ := hrel
             cases gk with
             | zero => exact absurd HA.out (by simp [psalteryref06_Row.l3])
             | succ k4 =>
              have H := HA.out
              clear HA
              simp only [psalteryref06_Row.l3] at H
              by_cases c13 : x9_4 ≤ x7_3
              ·
               rw [if_pos c13] at H
               have c13b0 : decide (x9_4 ≤ x7_3) = true := decide_eq_true c13
               clear c13
               obtain ⟨ji14, hji14⟩ : ∃ j_ : Int, (wrap64 (x7_3 - x9_4)) = j_ := ⟨_, rfl⟩
               replace H : (if 0 ≤ (ji14) then (if (ji14) < (x3_2.length : Int) then (psalteryref06_Row.l3 k4 a0 x3_2 x5_2 x6_3 x7_3 (IntKind.u64.wrap (x8_4 + (IntKind.u64.wrap (2 * (rd x3_2 (ji14)))))) (wrap64 (x9_4 + 1))) else (none)) else (none)) = some r := by first | (rw [hji14] at H; exact H) | (simp only [hji14] at H ⊢; exact H)
               have hji14w : (IntKind.i64.wrap (x7_3 - x9_4)) = ji14 := (i64_w _).trans hji14
               by_cases c15 : 0 ≤ (ji14)
               ·
                rw [if_pos c15] at H
                have c15b0 : decide (0 ≤ (ji14)) = true := decide_eq_true c15
                clear c15
                by_cases c16 : (ji14) < (x3_2.length : Int)
                ·
                 rw [if_pos c16] at H
                 have c16b0 : decide ((ji14) < (x3_2.length : Int)) = true := decide_eq_true c16
                 clear c16
                 have H' := zm H
                 clear H
                 have p212 : 0 ≤ ((ji14) : Int) := of_decide_eq_true (by first | (with_reducible assumption) | assumption)
                 have q212 : (ji14) < (x3_2.length : Int) := of_decide_eq_true (by first | (with_reducible assumption) | assumption)
                 obtain ⟨ad212, e212, hx212_0⟩ := Kd.at_int (Kd.R_reads' HO_3.out).2.2 (ji14) p212 q212
                 obtain rfl : ad211 = ad212 := (by injection e212)
                 replace p212 := eq_true p212
                 replace q212 := eq_true q212
                 go_wp2
                 go_roundg k4
                 case measure => have := HK1.out; have := HK2.out; have := HK3.out; have := HK4.out; omega
                 case rel => exact ⟨(IntKind.u64.wrap (x8_4 + (IntKind.u64.wrap (2 * (rd x3_2 (ji14)))))), (wrap64 (x9_4 + 1)), (by first | rfl | (simp; done) | (simp only [← hji14] <;> (first | rfl | simp)) | (simp [*]; done)), (by first | rfl | (simp; done) | (simp [*]; done)), H', ⟨by have := HK1.out; have := HK2.out; have := HK3.out; have := HK4.out; omega⟩, ⟨by (with_reducible repeat (first | apply zo | apply zp | apply zq)); exact HO_3.out⟩, ⟨by (with_reducible repeat (first | apply zo | apply zp | apply zq)); exact HO_6.out⟩, ⟨by repeat (first | (with_reducible first | exact HB.out | apply ze | apply zd | apply zf) | exact HB.out)⟩⟩
                ·
                 rw [if_neg c16] at H
                 exact absurd H (by simp)
               ·
                rw [if_neg c15] at H
                exact absurd H (by simp)
              ·
               rw [if_neg c13] at H
               have c13b0 : decide (x9_4 ≤ x7_3) = false := decide_eq_false c13
               clear c13
               by_cases c17 : x6_3.length < 17592186044416
               ·
                rw [if_pos c17] at H
                have LMc17 := zm c17
                clear c17
                obtain ⟨y213, hy213⟩ : ∃ y_ : List Int, y_ = (x6_3 ++ [x8_4]) := ⟨_, rfl⟩
                replace H : (psalteryref06_Row.l2 k4 a0 x3_2 x5_2 y213 (wrap64 (x7_3 + 1))) = some r := by first | (rw [hy213]; with_reducible exact H) | (have H2_ := (Option.bind_some _ _).symm.trans H; rw [hy213]; with_reducible exact H2_) | (have H2_ := (Option.bind_some _ _).symm.trans H; with_reducible exact H2_) | with_reducible exact H | (rw [hy213]; exact H) | exact H
                have Ny213 := zm hy213
                clear hy213
                have H' := zm H
                clear H
                go_wp2_with (first | ((with_reducible refine gate_builtin (b := .append) (xs := #[.tmp 49, .tmp 51]) rfl ?_); at_builtin; refine Kd.R_append (Kd.int .u64) (w0 := w) w.heap.size rfl (.tmp 49) (.tmp 51) 54 48 (.int .u64 0) 8 rfl Try.underlying54 info48 rfl (by decide) (by omega) u6 x6_3 x8_4 [.int .u64 x8_4] (fun k_ => some k_ ≠ (.slice (some ad211) x3_2.length co12 : Value).ownBlock) (fun _ => False) rfl rfl ?aP (fun _ hk => hk.elim) ?aF ?aO ?aB ?aS ?aL ?_; (case aP => exact rfl); (case aB => exact (by repeat (first | (with_reducible first | exact HB.out | apply ze | apply zd | apply zf) | exact HB.out))); (case aF => exact (fun k_ hk => Kd.fresh' (Kd.R_lt (by (with_reducible repeat (first | apply zo | apply zp | apply zq)); exact HO_3.out)) k_ hk)); (case aO => exact (by (with_reducible repeat (first | apply zo | apply zp | apply zq)); exact HO_6.out)); (case aS => exact (zE (by repeat (first | (with_reducible first | exact HB.out | apply ze | apply zd | apply zf) | exact HB.out)))); (case aL => have := LMc17.out; omega); intro v214 w18 ho hb hg hat; rw [← Ny213.out] at ho; have n0_ := zm (Kd.R_after (ok := (fun _ => True)) (by (with_reducible repeat (first | apply zo | apply zp | apply zq)); exact zG HO_3.out (fun _ hk => ⟨trivial, hk⟩)) hg hat); have n1_ := zm (hb); have n2_ := zm (ho); clear HO_3; clear HB; clear HO_6; have HO_3 := n0_; have HB := n1_; have HO215 := n2_; clear n0_ n1_ n2_; clear ho hb hg hat))
                go_roundg k4
                case measure => have := HK1.out; have := HK2.out; have := HK3.out; have := HK4.out; omega
                case rel => exact ⟨(y213), (wrap64 (x7_3 + 1)), (by first | rfl | (simp; done) | (simp [*]; done)), H', ⟨by have := HK1.out; have := HK2.out; have := HK3.out; have := HK4.out; omega⟩, ⟨by (with_reducible repeat (first | apply zo | apply zp | apply zq)); exact zG HO_3.out (fun _ hk => hk.2)⟩, ⟨by (with_reducible repeat (first | apply zo | apply zp | apply zq)); exact HO215.out⟩, ⟨by repeat (first | (with_reducible first | exact HB.out | apply ze | apply zd | apply zf) | exact HB.out)⟩⟩
               ·
                rw [if_neg c17] at H
                exact absurd H (by simp)
           ·
            rw [if_neg c11] at H
            exact absurd H (by simp)
          ·
           rw [if_neg c10] at H
           exact absurd H (by simp)
         ·
          rw [if_neg c9] at H
          have c9b0 : decide (x7_3 ≤ 12) = false := decide_eq_false c9
          clear c9
          have H' := zm H
          clear H
          go_wp2
          go_roundg k3
          case measure => have := HK1.out; have := HK2.out; have := HK3.out; omega
          case rel => exact ⟨(x6_3), (wrap64 (x5_2 + 1)), (by first | rfl | (simp; done) | (simp [*]; done)), H', ⟨by have := HK1.out; have := HK2.out; have := HK3.out; omega⟩, ⟨by (with_reducible repeat (first | apply zo | apply zp | apply zq)); exact zG HO_6.out (fun _ hk => trivial)⟩, ⟨by repeat (first | (with_reducible first | exact HB.out | apply ze | apply zd | apply zf) | exact HB.out)⟩⟩
      ·
       rw [if_neg c8] at H
       have c8b0 : decide (x5_2 < a0) = false := decide_eq_false c8
       clear c8
       obtain rfl := Option.some.inj H
       go_wp2
       go_ret
       exact ⟨_, by first | rfl | (simp [errW_none, errW_some] <;> rfl) | (simp [*, errW_none, errW_some] <;> rfl), by (with_reducible repeat (first | apply zo | apply zp | apply zq)); exact HO_3.out, by repeat (first | (with_reducible first | exact HB.out | apply ze | apply zd | apply zf) | exact HB.out)⟩

end Go.Proofs.Ytbaaedpjaanjnaa.Prt

namespace Go.Proofs.Ytbaaedpjaanjnaa.Prt
open Go.RowKit Go.Proofs.YtbaaedpjaanjnaaW.PrintWords Go.Proofs.YtbaaedpjaanjnaaW.PrintLast Go.Proofs.YtbaaedpjaanjnaaW.PrintMore
attribute [local go_sem] max2_int min2_int max_two min_two max_three min_three max_four min_four   -- for this text's walks alone
set_option linter.unusedVariables false
set_option linter.unusedSimpArgs false

/-! ### psalteryref03_Log2: function 35 -/
def psalteryref03_Log2.f : Nat → Int → Option (Int)
 | 0, _ => none
 | k + 1, a0 => if a0 = 0 then (some (-1)) else ((psalteryref03_Log2.f k (IntKind.u64.wrap (Int.tdiv a0 2))).bind fun t220 => (some (wrap64 (1 + t220))))
theorem psalteryref03_Log2.mono_l : ∀ k, (∀ y0, LeO (psalteryref03_Log2.f k y0) (psalteryref03_Log2.f (k + 1) y0))
 | 0 => fun _ r h => by simp [psalteryref03_Log2.f] at h
 | k + 1 => by
  have ih0 := psalteryref03_Log2.mono_l k
  ·
   intro y0
   unfold psalteryref03_Log2.f
   repeat' first
   | (with_reducible exact ih0 _)
   | (with_reducible exact LeO.refl _)
   | (with_reducible exact LeO.none _)
   | (with_reducible refine LeO.ite ?_ ?_)
   | (with_reducible refine LeO.bind ?_ (fun _ => ?_))
   | exact ih0 _
   | exact LeO.none _
   | refine LeO.ite ?_ ?_
   | refine LeO.bind ?_ (fun _ => ?_)
theorem psalteryref03_Log2.mono : ∀ a0 k, LeO (psalteryref03_Log2.f k a0) (psalteryref03_Log2.f (k + 1) a0) := by
 intro a0 k
 have ih0 := psalteryref03_Log2.mono_l k
 exact ih0 a0
set_option maxHeartbeats 8000000 in
set_option maxRecDepth 100000 in
theorem psalteryref03_Log2.calls (k : Nat) : ∀ (a0 : Int) (r : Int) (w : World) (h : psalteryref03_Log2.f k a0 = some r),
  Calls Try.prog 35 #[.int .u64 a0] w fun e w' => e = .returned (.int .i64 r) ∧ Drawn0 w w' := by
 induction k using Nat.strongRecOn with
 | _ k ih =>
 intro a0 r w h
 cases k with
 | zero => exact absurd h (by simp [psalteryref03_Log2.f])
 | succ k =>
 simp only [psalteryref03_Log2.f] at h
 have H : (if a0 = 0 then (some (-1)) else ((psalteryref03_Log2.f k (IntKind.u64.wrap (Int.tdiv a0 2))).bind fun t220 => (some (wrap64 (1 + t220))))) = some r := h
 clear h
 by_cases c2 : a0 = 0
 ·
  rw [if_pos c2] at H
  have c2b0 : (a0 == 0) = true := beq_iff_eq.mpr c2
  have c2b1 : (a0 != 0) = false := bne_eq_false_iff_eq.mpr c2
  clear c2
  obtain rfl := Option.some.inj H
  go_enter Try.func35, Try.ntmps35
  go_wp2
  go_ret
  exact ⟨by first | rfl | (simp; done) | (simp [*]; done), by repeat (first | exact Drawn0.refl _ | apply Drawn0.step)⟩
 ·
  rw [if_neg c2] at H
  have c2b0 : (a0 == 0) = false := beq_eq_false_iff_ne.mpr c2
  have c2b1 : (a0 != 0) = true := bne_iff_ne.mpr c2
  replace H := Option.bind_eq_some_iff.mp H
  obtain ⟨t220, A30, H⟩ := H
  replace H : (some (wrap64 (1 + t220))) = some r := H
  have A3 := zm A30
  clear A30
  obtain rfl := Option.some.inj H
  go_enter Try.func35, Try.ntmps35
  go_wp2_with (first | ((with_reducible refine gate_callee (f := 35) rfl ?_); refine goesL_ (some 7) rfl rfl Try.func35 (by kernel_rfl) rfl #[.int .u64 (IntKind.u64.wrap (Int.tdiv a0 2))] rfl (by (try simp only [List.map_toArray, List.map_cons, List.map_nil]); first | done | rfl | (simp only [List.length_drop, List.length_take]; rfl)) ?_; (with_reducible refine (ih k (by omega) (IntKind.u64.wrap (Int.tdiv a0 2)) t220 _ A3.out).mono ?_); rintro e w' ⟨rfl, ⟨nd, rfl⟩⟩; refine ⟨_, rfl, ?_⟩))
  go_ret
  exact ⟨by first | rfl | (simp; done) | (simp [*]; done), by repeat (first | exact Drawn0.refl _ | apply Drawn0.step)⟩

end Go.Proofs.Ytbaaedpjaanjnaa.Prt

namespace Go.Proofs.Ytbaaedpjaanjnaa.Prt
open Go.RowKit Go.Proofs.YtbaaedpjaanjnaaW.PrintWords Go.Proofs.YtbaaedpjaanjnaaW.PrintLast Go.Proofs.YtbaaedpjaanjnaaW.PrintMore
attribute [local go_sem] max2_int min2_int max_two min_two max_three min_three max_four min_four   -- for this text's walks alone
set_option linter.unusedVariables false
set_option linter.unusedSimpArgs false

/-! ### psalteryref06_Count: function 34 -/
def psalteryref06_Count.f (k : Nat) (a0 : Int) (a1 : Int) : Option (Int) := (psalteryref06_Row.f k a0).bind fun t216 => (if 0 ≤ a1 then (if a1 < (t216.length : Int) then (some (rd t216 a1)) else (none)) else (none))
theorem psalteryref06_Count.mono : ∀ a0 a1 k, LeO (psalteryref06_Count.f k a0 a1) (psalteryref06_Count.f (k + 1) a0 a1) := by
 intro a0 a1 k
 unfold psalteryref06_Count.f
 repeat' first
   | (with_reducible exact psalteryref06_Row.mono _ _)
   | (with_reducible exact LeO.refl _)
   | (with_reducible exact LeO.none _)
   | (with_reducible refine LeO.ite ?_ ?_)
   | (with_reducible refine LeO.bind ?_ (fun _ => ?_))
   | exact psalteryref06_Row.mono _ _
   | exact LeO.none _
   | refine LeO.ite ?_ ?_
   | refine LeO.bind ?_ (fun _ => ?_)
set_option maxHeartbeats 8000000 in
set_option maxRecDepth 100000 in
theorem psalteryref06_Count.calls (k : Nat) (a0 : Int) (a1 : Int) (r : Int) (w : World) (h : psalteryref06_Count.f k a0 a1 = some r) :
  Calls Try.prog 34 #[.int .i64 a0, .int .i64 a1] w fun e w' => e = .returned (.int .u64 r) ∧ Below w.heap.size w w' := by
 have HB := zm (Below.refl w.heap.size w)
 have H : ((psalteryref06_Row.f k a0).bind fun t216 => (if 0 ≤ a1 then (if a1 < (t216.length : Int) then (some (rd t216 a1)) else (none)) else (none))) = some r := h
 clear h
 replace H := Option.bind_eq_some_iff.mp H
 obtain ⟨t216, A30, H⟩ := H
 replace H : (if 0 ≤ a1 then (if a1 < (t216.length : Int) then (some (rd t216 a1)) else (none)) else (none)) = some r := H
 have A3 := zm A30
 clear A30
 by_cases c4 : 0 ≤ a1
 ·
  rw [if_pos c4] at H
  have c4b0 : decide (0 ≤ a1) = true := decide_eq_true c4
  clear c4
  by_cases c5 : a1 < (t216.length : Int)
  ·
   rw [if_pos c5] at H
   have c5b0 : decide (a1 < (t216.length : Int)) = true := decide_eq_true c5
   clear c5
   obtain rfl := Option.some.inj H
   go_enter Try.func34, Try.ntmps34
   go_wp2_with (first | ((with_reducible refine gate_callee (f := 39) rfl ?_); refine goesL_ (some 6) rfl rfl Try.func39 (by kernel_rfl) rfl #[.int .i64 a0] rfl (by (try simp only [List.map_toArray, List.map_cons, List.map_nil]); first | done | rfl | (simp only [List.length_drop, List.length_take]; rfl)) ?_; (with_reducible refine (psalteryref06_Row.calls k a0 t216 _ A3.out).mono ?_); rintro e w6 ⟨v217, rfl, ho0, hb⟩; refine ⟨_, rfl, ?_⟩; have n0_ := zm (Kd.R_lower ho0 (zE (by repeat (first | (with_reducible first | exact HB.out | apply ze | apply zd | apply zf) | exact HB.out)))); have n1_ := zm (zJ (by repeat (first | (with_reducible first | exact HB.out | apply ze | apply zd | apply zf) | exact HB.out)) hb); clear HB; have HO218 := n0_; have HB := n1_; clear n0_ n1_; (try clear hb); (try clear hb2); (try clear hk); (try clear hi); (try clear ho0); obtain ⟨Ao7, co7, eo7⟩ := Kd.R_slice HO218.out; subst eo7; have p219 : 0 ≤ (a1 : Int) := of_decide_eq_true (by first | (with_reducible assumption) | assumption); have q219 : a1 < (t216.length : Int) := of_decide_eq_true (by first | (with_reducible assumption) | assumption); obtain ⟨ad219, e219, hx219_0⟩ := Kd.at_int (Kd.R_reads' HO218.out).2.2 a1 p219 q219; cases e219; replace p219 := eq_true p219; replace q219 := eq_true q219))
   go_ret
   exact ⟨by first | rfl | (simp [errW_none, errW_some] <;> rfl) | (simp [*, errW_none, errW_some] <;> rfl), by repeat (first | (with_reducible first | exact HB.out | apply ze | apply zd | apply zf) | exact HB.out)⟩
  ·
   rw [if_neg c5] at H
   exact absurd H (by simp)
 ·
  rw [if_neg c4] at H
  exact absurd H (by simp)

end Go.Proofs.Ytbaaedpjaanjnaa.Prt

namespace Go.Proofs.Ytbaaedpjaanjnaa.Prt
open Go.RowKit Go.Proofs.YtbaaedpjaanjnaaW.PrintWords Go.Proofs.YtbaaedpjaanjnaaW.PrintLast Go.Proofs.YtbaaedpjaanjnaaW.PrintMore
attribute [local go_sem] max2_int min2_int max_two min_two max_three min_three max_four min_four   -- for this text's walks alone
set_option linter.unusedVariables false
set_option linter.unusedSimpArgs false

/-! ### psalteryref06_Cost: function 29 -/
def psalteryref06_Cost.f (k : Nat) (a0 : Int) (a1 : Int) : Option (Int) := (psalteryref06_Count.f k a0 a1).bind fun t221 => (if (IntKind.u64.wrap (t221 - 1)) < 65536 then ((psalteryref03_Log2.f k (IntKind.u64.wrap (t221 - 1))).bind fun t222 => (some (wrap64 (1 + t222)))) else ((psalteryref03_Log2.f k (IntKind.u64.wrap (Int.tdiv (IntKind.u64.wrap (t221 - 1)) 65536))).bind fun t223 => (some (wrap64 (17 + t223)))))
theorem psalteryref06_Cost.mono : ∀ a0 a1 k, LeO (psalteryref06_Cost.f k a0 a1) (psalteryref06_Cost.f (k + 1) a0 a1) := by
 intro a0 a1 k
 unfold psalteryref06_Cost.f
 repeat' first
   | (with_reducible exact psalteryref03_Log2.mono _ _)
   | (with_reducible exact psalteryref06_Count.mono _ _ _)
   | (with_reducible exact LeO.refl _)
   | (with_reducible exact LeO.none _)
   | (with_reducible refine LeO.ite ?_ ?_)
   | (with_reducible refine LeO.bind ?_ (fun _ => ?_))
   | exact psalteryref03_Log2.mono _ _
   | exact psalteryref06_Count.mono _ _ _
   | exact LeO.none _
   | refine LeO.ite ?_ ?_
   | refine LeO.bind ?_ (fun _ => ?_)
set_option maxHeartbeats 8000000 in
set_option maxRecDepth 100000 in
theorem psalteryref06_Cost.calls (k : Nat) (a0 : Int) (a1 : Int) (r : Int) (w : World) (h : psalteryref06_Cost.f k a0 a1 = some r) :
  Calls Try.prog 29 #[.int .i64 a0, .int .i64 a1] w fun e w' => e = .returned (.int .i64 r) ∧ Below w.heap.size w w' := by
 have HB := zm (Below.refl w.heap.size w)
 have H : ((psalteryref06_Count.f k a0 a1).bind fun t221 => (if (IntKind.u64.wrap (t221 - 1)) < 65536 then ((psalteryref03_Log2.f k (IntKind.u64.wrap (t221 - 1))).bind fun t222 => (some (wrap64 (1 + t222)))) else ((psalteryref03_Log2.f k (IntKind.u64.wrap (Int.tdiv (IntKind.u64.wrap (t221 - 1)) 65536))).bind fun t223 => (some (wrap64 (17 + t223)))))) = some r := h
 clear h
 replace H := Option.bind_eq_some_iff.mp H
 obtain ⟨t221, A30, H⟩ := H
 replace H : (if (IntKind.u64.wrap (t221 - 1)) < 65536 then ((psalteryref03_Log2.f k (IntKind.u64.wrap (t221 - 1))).bind fun t222 => (some (wrap64 (1 + t222)))) else ((psalteryref03_Log2.f k (IntKind.u64.wrap (Int.tdiv (IntKind.u64.wrap (t221 - 1)) 65536))).bind fun t223 => (some (wrap64 (17 + t223))))) = some r := H
 have A3 := zm A30
 clear A30
 by_cases c4 : (IntKind.u64.wrap (t221 - 1)) < 65536
 ·
  rw [if_pos c4] at H
  have c4b0 : decide ((IntKind.u64.wrap (t221 - 1)) < 65536) = true := decide_eq_true c4
  clear c4
  replace H := Option.bind_eq_some_iff.mp H
  obtain ⟨t222, A50, H⟩ := H
  replace H : (some (wrap64 (1 + t222))) = some r := H
  have A5 := zm A50
  clear A50
  obtain rfl := Option.some.inj H
  go_enter Try.func29, Try.ntmps29
  go_wp2_with (first | ((with_reducible refine gate_callee (f := 34) rfl ?_); refine goesL_ (some 8) rfl rfl Try.func34 (by kernel_rfl) rfl #[.int .i64 a0, .int .i64 a1] rfl (by (try simp only [List.map_toArray, List.map_cons, List.map_nil]); first | done | rfl | (simp only [List.length_drop, List.length_take]; rfl)) ?_; (with_reducible refine (psalteryref06_Count.calls k a0 a1 t221 _ A3.out).mono ?_); rintro e w6 ⟨rfl, hb⟩; refine ⟨_, rfl, ?_⟩; have n0_ := zm (zJ (by repeat (first | (with_reducible first | exact HB.out | apply ze | apply zd | apply zf) | exact HB.out)) hb); clear HB; have HB := n0_; clear n0_; (try clear hb); (try clear hb2); (try clear hk); (try clear hi)) | ((with_reducible refine gate_callee (f := 35) rfl ?_); refine goesL_ (some 13) rfl rfl Try.func35 (by kernel_rfl) rfl #[.int .u64 (IntKind.u64.wrap (t221 - 1))] rfl (by (try simp only [List.map_toArray, List.map_cons, List.map_nil]); first | done | rfl | (simp only [List.length_drop, List.length_take]; rfl)) ?_; (with_reducible refine (psalteryref03_Log2.calls k (IntKind.u64.wrap (t221 - 1)) t222 _ A5.out).mono ?_); rintro e w' ⟨rfl, ⟨nd, rfl⟩⟩; refine ⟨_, rfl, ?_⟩))
  go_ret
  exact ⟨by first | rfl | (simp [errW_none, errW_some] <;> rfl) | (simp [*, errW_none, errW_some] <;> rfl), by repeat (first | (with_reducible first | exact HB.out | apply ze | apply zd | apply zf) | exact HB.out)⟩
 ·
  rw [if_neg c4] at H
  have c4b0 : decide ((IntKind.u64.wrap (t221 - 1)) < 65536) = false := decide_eq_false c4
  clear c4
  replace H := Option.bind_eq_some_iff.mp H
  obtain ⟨t223, A70, H⟩ := H
  replace H : (some (wrap64 (17 + t223))) = some r := H
  have A7 := zm A70
  clear A70
  obtain rfl := Option.some.inj H
  go_enter Try.func29, Try.ntmps29
  go_wp2_with (first | ((with_reducible refine gate_callee (f := 34) rfl ?_); refine goesL_ (some 8) rfl rfl Try.func34 (by kernel_rfl) rfl #[.int .i64 a0, .int .i64 a1] rfl (by (try simp only [List.map_toArray, List.map_cons, List.map_nil]); first | done | rfl | (simp only [List.length_drop, List.length_take]; rfl)) ?_; (with_reducible refine (psalteryref06_Count.calls k a0 a1 t221 _ A3.out).mono ?_); rintro e w8 ⟨rfl, hb⟩; refine ⟨_, rfl, ?_⟩; have n0_ := zm (zJ (by repeat (first | (with_reducible first | exact HB.out | apply ze | apply zd | apply zf) | exact HB.out)) hb); clear HB; have HB := n0_; clear n0_; (try clear hb); (try clear hb2); (try clear hk); (try clear hi)) | ((with_reducible refine gate_callee (f := 35) rfl ?_); refine goesL_ (some 17) rfl rfl Try.func35 (by kernel_rfl) rfl #[.int .u64 (IntKind.u64.wrap (Int.tdiv (IntKind.u64.wrap (t221 - 1)) 65536))] rfl (by (try simp only [List.map_toArray, List.map_cons, List.map_nil]); first | done | rfl | (simp only [List.length_drop, List.length_take]; rfl)) ?_; (with_reducible refine (psalteryref03_Log2.calls k (IntKind.u64.wrap (Int.tdiv (IntKind.u64.wrap (t221 - 1)) 65536)) t223 _ A7.out).mono ?_); rintro e w' ⟨rfl, ⟨nd, rfl⟩⟩; refine ⟨_, rfl, ?_⟩))
  go_ret
  exact ⟨by first | rfl | (simp [errW_none, errW_some] <;> rfl) | (simp [*, errW_none, errW_some] <;> rfl), by repeat (first | (with_reducible first | exact HB.out | apply ze | apply zd | apply zf) | exact HB.out)⟩

end Go.Proofs.Ytbaaedpjaanjnaa.Prt

namespace Go.Proofs.Ytbaaedpjaanjnaa.Prt
open Go.RowKit Go.Proofs.YtbaaedpjaanjnaaW.PrintWords Go.Proofs.YtbaaedpjaanjnaaW.PrintLast Go.Proofs.YtbaaedpjaanjnaaW.PrintMore
attribute [local go_sem] max2_int min2_int max_two min_two max_three min_three max_four min_four   -- for this text's walks alone
set_option linter.unusedVariables false
set_option linter.unusedSimpArgs false

/-! ### psalteryref10_Width: function 20 -/
def psalteryref10_Width.j0 : Nat → Int → Bool → Option (Int)
 | 0, _, _ => none
 | k + 1, x3, x4 => if x4 = true then (some 1) else (if x3 = 2 then (some 2) else (if x3 = 3 then (some 4) else (if x3 = 4 then (some 8) else (some 0))))
def psalteryref10_Width.f (k : Nat) (a0 : Int) : Option (Int) := if a0 = 0 then (psalteryref10_Width.j0 k a0 (a0 == 0)) else (psalteryref10_Width.j0 k a0 (a0 == 1))
theorem psalteryref10_Width.mono_l : ∀ k, (∀ y0 y1, LeO (psalteryref10_Width.j0 k y0 y1) (psalteryref10_Width.j0 (k + 1) y0 y1))
 | 0 => fun _ _ r h => by simp [psalteryref10_Width.j0] at h
 | k + 1 => by
  have ih0 := psalteryref10_Width.mono_l k
  ·
   intro y0 y1
   unfold psalteryref10_Width.j0
   repeat' first
   | (with_reducible exact ih0 _ _)
   | (with_reducible exact LeO.refl _)
   | (with_reducible exact LeO.none _)
   | (with_reducible refine LeO.ite ?_ ?_)
   | (with_reducible refine LeO.bind ?_ (fun _ => ?_))
   | exact ih0 _ _
   | exact LeO.none _
   | refine LeO.ite ?_ ?_
   | refine LeO.bind ?_ (fun _ => ?_)
theorem psalteryref10_Width.mono : ∀ a0 k, LeO (psalteryref10_Width.f k a0) (psalteryref10_Width.f (k + 1) a0) := by
 intro a0 k
 have ih0 := psalteryref10_Width.mono_l k
 unfold psalteryref10_Width.f
 repeat' first
   | (with_reducible exact ih0 _ _)
   | (with_reducible exact LeO.refl _)
   | (with_reducible exact LeO.none _)
   | (with_reducible refine LeO.ite ?_ ?_)
   | (with_reducible refine LeO.bind ?_ (fun _ => ?_))
   | exact ih0 _ _
   | exact LeO.none _
   | refine LeO.ite ?_ ?_
   | refine LeO.bind ?_ (fun _ => ?_)
set_option maxHeartbeats 8000000 in
set_option maxRecDepth 100000 in
theorem psalteryref10_Width.calls (k : Nat) (a0 : Int) (r : Int) (w : World) (h : psalteryref10_Width.f k a0 = some r) :
  Calls Try.prog 20 #[.int .i64 a0] w fun e w' => e = .returned (.int .i64 r) ∧ Drawn0 w w' := by
 have H : (if a0 = 0 then (psalteryref10_Width.j0 k a0 (a0 == 0)) else (psalteryref10_Width.j0 k a0 (a0 == 1))) = some r := h
 clear h
 have HC2 := zm H
 clear H
 go_enter Try.func20, Try.ntmps20
 go_upto_if 4 with (fail)
 go_cut [4] (fun v4 wc => ∃ (kq : Nat) (x4_1 : Bool), v4 = .bool x4_1 ∧ Aside0 (psalteryref10_Width.j0 kq a0 x4_1 = some r) ∧ Aside0 (kq ≤ k) ∧ Drawn0 w wc)
 case first =>
  have H := HC2.out
  clear HC2
  by_cases c3 : a0 = 0
  ·
   rw [if_pos c3] at H
   have c3b0 : (a0 == 0) = true := beq_iff_eq.mpr c3
   have c3b1 : (a0 != 0) = false := bne_eq_false_iff_eq.mpr c3
   clear c3
   (first | rw [c3b0] | (simp only [i64_w, i32_w]; rw [c3b0]) | skip)
   have H' := zm H
   clear H
   go_wp2
   go_meet
   case rel => exact ⟨_, ((a0 == 0)), (by first | rfl | (simp; done) | (simp [*]; done)), H', ⟨by first | omega | exact Nat.le_refl _⟩, by repeat (first | exact Drawn0.refl _ | apply Drawn0.step)⟩
  ·
   rw [if_neg c3] at H
   have c3b0 : (a0 == 0) = false := beq_eq_false_iff_ne.mpr c3
   have c3b1 : (a0 != 0) = true := bne_iff_ne.mpr c3
   (first | rw [c3b0] | (simp only [i64_w, i32_w]; rw [c3b0]) | skip)
   have H' := zm H
   clear H
   go_wp2
   go_meet
   case rel => exact ⟨_, ((a0 == 1)), (by first | rfl | (simp; done) | (simp [*]; done)), H', ⟨by first | omega | exact Nat.le_refl _⟩, by repeat (first | exact Drawn0.refl _ | apply Drawn0.step)⟩
 case rest =>
  clear HC2
  try clear c2
  try clear p2
  try clear c3
  try clear c3b0
  try clear c3b1
  obtain ⟨kq, x4_1, rfl, HA, HJ1, ⟨mc1, rfl⟩⟩ := hcut
  cases kq with
  | zero => exact absurd HA.out (by simp [psalteryref10_Width.j0])
  | succ kj1 =>
   have H := HA.out
   clear HA
   simp only [psalteryref10_Width.j0] at H
   by_cases c4 : x4_1 = true
   ·
    subst c4
    have H1 : (some 1) = some r := by rw [if_pos rfl] at H; exact H
    clear H
    have H := H1
    clear H1
    obtain rfl := Option.some.inj H
    go_wp2
    go_ret
    exact ⟨by first | rfl | (simp; done) | (simp [*]; done), by repeat (first | exact Drawn0.refl _ | apply Drawn0.step)⟩
   ·
    replace c4 := Bool.eq_false_iff.mpr c4
    subst c4
    have H1 : (if a0 = 2 then (some 2) else (if a0 = 3 then (some 4) else (if a0 = 4 then (some 8) else (some 0)))) = some r := by rw [if_neg (show ¬ (false = true) by decide)] at H; exact H
    clear H
    have H := H1
    clear H1
    by_cases c5 : a0 = 2
    ·
     rw [if_pos c5] at H
     have c5b0 : (a0 == 2) = true := beq_iff_eq.mpr c5
     have c5b1 : (a0 != 2) = false := bne_eq_false_iff_eq.mpr c5
     clear c5
     obtain rfl := Option.some.inj H
     go_wp2
     go_ret
     exact ⟨by first | rfl | (simp; done) | (simp [*]; done), by repeat (first | exact Drawn0.refl _ | apply Drawn0.step)⟩
    ·
     rw [if_neg c5] at H
     have c5b0 : (a0 == 2) = false := beq_eq_false_iff_ne.mpr c5
     have c5b1 : (a0 != 2) = true := bne_iff_ne.mpr c5
     by_cases c6 : a0 = 3
     ·
      rw [if_pos c6] at H
      have c6b0 : (a0 == 3) = true := beq_iff_eq.mpr c6
      have c6b1 : (a0 != 3) = false := bne_eq_false_iff_eq.mpr c6
      clear c6
      obtain rfl := Option.some.inj H
      go_wp2
      go_ret
      exact ⟨by first | rfl | (simp; done) | (simp [*]; done), by repeat (first | exact Drawn0.refl _ | apply Drawn0.step)⟩
     ·
      rw [if_neg c6] at H
      have c6b0 : (a0 == 3) = false := beq_eq_false_iff_ne.mpr c6
      have c6b1 : (a0 != 3) = true := bne_iff_ne.mpr c6
      by_cases c7 : a0 = 4
      ·
       rw [if_pos c7] at H
       have c7b0 : (a0 == 4) = true := beq_iff_eq.mpr c7
       have c7b1 : (a0 != 4) = false := bne_eq_false_iff_eq.mpr c7
       clear c7
       obtain rfl := Option.some.inj H
       go_wp2
       go_ret
       exact ⟨by first | rfl | (simp; done) | (simp [*]; done), by repeat (first | exact Drawn0.refl _ | apply Drawn0.step)⟩
      ·
       rw [if_neg c7] at H
       have c7b0 : (a0 == 4) = false := beq_eq_false_iff_ne.mpr c7
       have c7b1 : (a0 != 4) = true := bne_iff_ne.mpr c7
       obtain rfl := Option.some.inj H
       go_wp2
       go_ret
       exact ⟨by first | rfl | (simp; done) | (simp [*]; done), by repeat (first | exact Drawn0.refl _ | apply Drawn0.step)⟩

end Go.Proofs.Ytbaaedpjaanjnaa.Prt

namespace Go.Proofs.Ytbaaedpjaanjnaa.Prt
open Go.RowKit Go.Proofs.YtbaaedpjaanjnaaW.PrintWords Go.Proofs.YtbaaedpjaanjnaaW.PrintLast Go.Proofs.YtbaaedpjaanjnaaW.PrintMore
attribute [local go_sem] max2_int min2_int max_two min_two max_three min_three max_four min_four   -- for this text's walks alone
set_option linter.unusedVariables false
set_option linter.unusedSimpArgs false

/-! ### psalteryref12_More: function 30 -/
def psalteryref12_More.f (l0 : List Int) (a1 : Int) : Option (List Int) := (some (([] : List Int) : List Int)).bind fun y227 => (if y227.length + l0.length < 17592186044416 then ((some (y227 ++ l0 : List Int)).bind fun y230 => (if 0 ≤ a1 then (if a1 < (y230.length : Int) then (some (y230.set (a1 : Int).toNat (wrap64 ((rd y230 a1) + 1)))) else (none)) else (none))) else (none))
set_option maxHeartbeats 8000000 in
set_option maxRecDepth 100000 in
theorem psalteryref12_More.calls (A0 : Option Addr) (c0 : Nat) (l0 : List Int) (a1 : Int) (r : List Int) (w : World) (hr0 : Kd.C (Kd.int .i64) w A0 l0.length l0) (hc0 : l0.length ≤ c0) (h : psalteryref12_More.f l0 a1 = some r) :
  Calls Try.prog 30 #[.slice A0 l0.length c0, .int .i64 a1] w fun e w' => ∃ v0_ : Value, e = .returned (v0_) ∧ Kd.R (Kd.int .i64) 3 w' w.heap.size (fun _ => True) v0_ r ∧ Below w.heap.size w w' := by
 have HR0 := zm hr0
 have HC0 := zm hc0
 clear hr0 hc0
 have HB := zm (Below.refl w.heap.size w)
 have H : ((some (([] : List Int) : List Int)).bind fun y227 => (if y227.length + l0.length < 17592186044416 then ((some (y227 ++ l0 : List Int)).bind fun y230 => (if 0 ≤ a1 then (if a1 < (y230.length : Int) then (some (y230.set (a1 : Int).toNat (wrap64 ((rd y230 a1) + 1)))) else (none)) else (none))) else (none))) = some r := h
 clear h
 obtain ⟨y227, hy227⟩ : ∃ y_ : List Int, y_ = (([] : List Int)) := ⟨_, rfl⟩
 replace H : (if y227.length + l0.length < 17592186044416 then ((some (y227 ++ l0 : List Int)).bind fun y230 => (if 0 ≤ a1 then (if a1 < (y230.length : Int) then (some (y230.set (a1 : Int).toNat (wrap64 ((rd y230 a1) + 1)))) else (none)) else (none))) else (none)) = some r := by first | (rw [hy227]; with_reducible exact H) | (have H2_ := (Option.bind_some _ _).symm.trans H; rw [hy227]; with_reducible exact H2_) | (have H2_ := (Option.bind_some _ _).symm.trans H; with_reducible exact H2_) | with_reducible exact H | (rw [hy227]; exact H) | exact H
 have Ny227 := zm hy227
 clear hy227
 by_cases c3 : y227.length + l0.length < 17592186044416
 ·
  rw [if_pos c3] at H
  have LMc3 := zm c3
  clear c3
  obtain ⟨y230, hy230⟩ : ∃ y_ : List Int, y_ = (y227 ++ l0) := ⟨_, rfl⟩
  replace H : (if 0 ≤ a1 then (if a1 < (y230.length : Int) then (some (y230.set (a1 : Int).toNat (wrap64 ((rd y230 a1) + 1)))) else (none)) else (none)) = some r := by first | (rw [hy230]; with_reducible exact H) | (have H2_ := (Option.bind_some _ _).symm.trans H; rw [hy230]; with_reducible exact H2_) | (have H2_ := (Option.bind_some _ _).symm.trans H; with_reducible exact H2_) | with_reducible exact H | (rw [hy230]; exact H) | exact H
  have Ny230 := zm hy230
  clear hy230
  by_cases c4 : 0 ≤ a1
  ·
   rw [if_pos c4] at H
   have c4b0 : decide (0 ≤ a1) = true := decide_eq_true c4
   clear c4
   by_cases c5 : a1 < (y230.length : Int)
   ·
    rw [if_pos c5] at H
    have c5b0 : decide (a1 < (y230.length : Int)) = true := decide_eq_true c5
    clear c5
    obtain ⟨y234, hy234⟩ : ∃ y_ : List Int, y_ = (y230.set (a1 : Int).toNat (wrap64 ((rd y230 a1) + 1))) := ⟨_, rfl⟩
    replace H : (some y234) = some r := by first | (rw [hy234]; with_reducible exact H) | (have H2_ := (Option.bind_some _ _).symm.trans H; rw [hy234]; with_reducible exact H2_) | (have H2_ := (Option.bind_some _ _).symm.trans H; with_reducible exact H2_) | with_reducible exact H | (rw [hy234]; exact H) | exact H
    have Ny234 := zm hy234
    clear hy234
    obtain rfl := Option.some.inj H
    go_enter Try.func30, Try.ntmps30
    go_wp2_with (first | ((with_reducible refine gate_dst (N := 6) rfl ?_); refine Kd.R_lit (Kd.int .i64) _ 3 ?hg (N := 6) ?hd (xs := ([] : List Int)) (inner := []) (ok := fun _ => True) (okp := fun _ => True) ?hr ?hp (fun _ hk => hk) trivial (Below.refl _ _) (Nat.le_refl _) (by simp) ?_; (case hd => rfl); (case hg => rfl); (case hr => first | (go_simp; done) | (go_simp; rfl)); (case hp => exact (Reps.none _ _)); intro v228 w7 ho8 hb hg_ hnew_; clear hg_ hnew_; (first | rw [← Ny227.out] at ho8 | (simp only [Int.reduceToNat] at ho8; rw [← Ny227.out] at ho8)); have n0_ := zm (Kd.R_lower ho8 (zE (by repeat (first | (with_reducible first | exact HB.out | apply ze | apply zd | apply zf) | exact HB.out)))); have n1_ := zm (zJ (by repeat (first | (with_reducible first | exact HB.out | apply ze | apply zd | apply zf) | exact HB.out)) hb); clear HB; have HO229 := n0_; have HB := n1_; clear n0_ n1_; clear hb ho8) | ((with_reducible refine gate_builtin (b := .append) (xs := #[.tmp 6, .tmp 7]) rfl ?_); at_builtin; refine Kd.R_append_rows (Kd.int .i64) (w0 := w) w.heap.size rfl (.tmp 6) (.tmp 7) 34 3 (.int .i64 0) 8 rfl Try.underlying34 info3 rfl (by decide) (by omega) v228 y227 l0 _ _ _ (fun _ => True) (fun _ => False) rfl rfl ?aO ?aR (fun _ _ h => h) (fun _ h => h.elim) ?aF ?aB ?aS ?aL ?_; (case aR => repeat (first | exact (Kd.C_below HR0.out HB.out) | (with_reducible refine Kd.C_alloc ?_ _) | (with_reducible refine Kd.C_drewN ?_ _) | (with_reducible refine Kd.C_drew ?_))); (case aB => exact (by repeat (first | (with_reducible first | exact HB.out | apply ze | apply zd | apply zf) | exact HB.out))); (case aF => exact (fun _ _ => trivial)); (case aO => exact (by (with_reducible repeat (first | apply zo | apply zp | apply zq)); exact HO229.out)); (case aS => exact (zE (by repeat (first | (with_reducible first | exact HB.out | apply ze | apply zd | apply zf) | exact HB.out)))); (case aL => have := LMc3.out; omega); intro v231 w9 ho hb hg hat; rw [← Ny230.out] at ho; have n0_ := zm (hb); have n1_ := zm (ho); clear HB; clear HO229; have HB := n0_; have HO232 := n1_; clear n0_ n1_; clear ho hb hg hat; obtain ⟨Ao10, co10, eo10⟩ := Kd.R_slice HO232.out; subst eo10; have p233 : 0 ≤ (a1 : Int) := of_decide_eq_true (by first | (with_reducible assumption) | assumption); have q233 : a1 < (y230.length : Int) := of_decide_eq_true (by first | (with_reducible assumption) | assumption); obtain ⟨ad233, e233, hx233_0⟩ := Kd.at_int (Kd.R_reads' HO232.out).2.2 a1 p233 q233; cases e233; replace p233 := eq_true p233; replace q233 := eq_true q233; have p6 : 0 ≤ (a1 : Int) := of_decide_eq_true (by first | (with_reducible assumption) | assumption); have q6 : (a1 : Int) < ((y230.length : Int) : Int) := of_decide_eq_true (by first | (with_reducible assumption) | assumption); obtain ⟨go6, co6, eo6, gb6, gl6, cl6, HG6⟩ := Kd.R_form HO232.out (by omega); (first | cases eo6 | (injection eo6 with ea_ en_ ec_; (first | subst ea_ | (injection ea_ with ea_; subst ea_)); subst ec_; clear en_)); have GB6 := zm gb6; have GG6 := zm HG6; clear gb6 gl6 HG6; (first | simp only [add_plain] at hx233_0 | skip); obtain ⟨hx6_0, hf6_0⟩ := Kd.R_celln 0 HO232.out (a1 : Int) p6 q6; replace p6 := eq_true p6; replace q6 := eq_true q6; obtain ⟨hy11_, hz11_⟩ := Kd.R_celln 0 HO232.out (a1 : Int) (of_decide_eq_true (by first | (with_reducible assumption) | assumption)) (of_decide_eq_true (by first | (with_reducible assumption) | assumption)); have HP11 := Kd.R_putg HO232.out (a1 : Int) (wrap64 ((rd y230 a1) + 1))) | ((with_reducible refine gate_store (t := 3) (p := 16) rfl ?_); refine store_event (t := 3) (p := 16) (v := ?vo_w12) (w1 := (w9.setCell ⟨go6, (a1 : Int).toNat, none⟩ (.int .i64 (wrap64 ((rd y230 a1) + 1))))) ?hg ?ho ?hn ?hr ?_; (case ho => rfl); (case hg => rfl); (case hn => rfl); (case hr => first | (go_simp; done) | (go_simp; rfl)); intro w12 hw; have hg : w9.grownBy w12 (some go6) := (by rw [hw]; exact HP11.2); have hp_ : Kd.R (Kd.int .i64) 3 w12 w.heap.size (fun _ => True) (.slice (some ⟨go6, 0, none⟩) y230.length co10) y234 := (by rw [hw, Ny234.out]; exact HP11.1); clear HP11; have n0_ := zm (hp_); have n1_ := zm ((by rw [hw]; exact zk (HB.out) GB6.out : Below w.heap.size w w12)); clear HO232; clear HB; have HO232 := n0_; have HB := n1_; clear n0_ n1_; clear hg hw hp_))
    go_ret
    exact ⟨_, by first | rfl | (simp [errW_none, errW_some] <;> rfl) | (simp [*, errW_none, errW_some] <;> rfl), by (with_reducible repeat (first | apply zo | apply zp | apply zq)); exact HO232.out, by repeat (first | (with_reducible first | exact HB.out | apply ze | apply zd | apply zf) | exact HB.out)⟩
   ·
    rw [if_neg c5] at H
    exact absurd H (by simp)
  ·
   rw [if_neg c4] at H
   exact absurd H (by simp)
 ·
  rw [if_neg c3] at H
  exact absurd H (by simp)

end Go.Proofs.Ytbaaedpjaanjnaa.Prt

namespace Go.Proofs.Ytbaaedpjaanjnaa.Prt
open Go.RowKit Go.Proofs.YtbaaedpjaanjnaaW.PrintWords Go.Proofs.YtbaaedpjaanjnaaW.PrintLast Go.Proofs.YtbaaedpjaanjnaaW.PrintMore
attribute [local go_sem] max2_int min2_int max_two min_two max_three min_three max_four min_four   -- for this text's walks alone
set_option linter.unusedVariables false
set_option linter.unusedSimpArgs false

/-! ### psalteryref12_Spent: function 19 -/
def psalteryref12_Spent.l0 : Nat → List Int → Int → Int → Option (Int)
 | 0, _, _, _ => none
 | k + 1, x0, x3, x4 => if x4 < 5 then ((psalteryref10_Width.f k x4).bind fun t224 => (if 0 ≤ x4 then (if x4 < (x0.length : Int) then ((psalteryref06_Cost.f k t224 (rd x0 x4)).bind fun t226 => (psalteryref12_Spent.l0 k x0 (wrap64 (x3 + t226)) (wrap64 (x4 + 1)))) else (none)) else (none))) else (some x3)
def psalteryref12_Spent.f (k : Nat) (l0 : List Int) : Option (Int) := psalteryref12_Spent.l0 k l0 0 0
theorem psalteryref12_Spent.mono_l : ∀ k, (∀ y0 y1 y2, LeO (psalteryref12_Spent.l0 k y0 y1 y2) (psalteryref12_Spent.l0 (k + 1) y0 y1 y2))
 | 0 => fun _ _ _ r h => by simp [psalteryref12_Spent.l0] at h
 | k + 1 => by
  have ih0 := psalteryref12_Spent.mono_l k
  ·
   intro y0 y1 y2
   unfold psalteryref12_Spent.l0
   repeat' first
   | (with_reducible exact ih0 _ _ _)
   | (with_reducible exact psalteryref06_Cost.mono _ _ _)
   | (with_reducible exact psalteryref10_Width.mono _ _)
   | (with_reducible exact LeO.refl _)
   | (with_reducible exact LeO.none _)
   | (with_reducible refine LeO.ite ?_ ?_)
   | (with_reducible refine LeO.bind ?_ (fun _ => ?_))
   | exact ih0 _ _ _
   | exact psalteryref06_Cost.mono _ _ _
   | exact psalteryref10_Width.mono _ _
   | exact LeO.none _
   | refine LeO.ite ?_ ?_
   | refine LeO.bind ?_ (fun _ => ?_)
theorem psalteryref12_Spent.mono : ∀ a0 k, LeO (psalteryref12_Spent.f k a0) (psalteryref12_Spent.f (k + 1) a0) := by
 intro a0 k
 have ih0 := psalteryref12_Spent.mono_l k
 unfold psalteryref12_Spent.f
 repeat' first
   | (with_reducible exact ih0 _ _ _)
   | (with_reducible exact psalteryref06_Cost.mono _ _ _)
   | (with_reducible exact psalteryref10_Width.mono _ _)
   | (with_reducible exact LeO.refl _)
   | (with_reducible exact LeO.none _)
   | (with_reducible refine LeO.ite ?_ ?_)
   | (with_reducible refine LeO.bind ?_ (fun _ => ?_))
   | exact ih0 _ _ _
   | exact psalteryref06_Cost.mono _ _ _
   | exact psalteryref10_Width.mono _ _
   | exact LeO.none _
   | refine LeO.ite ?_ ?_
   | refine LeO.bind ?_ (fun _ => ?_)
def psalteryref12_Spent.T5 : Bool × List (List Nat × List Nat) := (true, [([], []), ([], []), ([1], [1]), ([], []), ([], []), ([3, 4], [3, 4]), ([5], [5]), ([2, 6, 2], [2, 6]), ([0, 7], [0, 7]), ([8, 7, 0, 1, 2, 3, 4, 5, 6, 7, 8], [0, 8])])
def psalteryref12_Spent.B5 : List Nat := [0, 0, 2, 0, 0, 24, 56, 126, 255, 511]
theorem psalteryref12_Spent.tab5 : rtab .any (opsOf Try.f19 5) = psalteryref12_Spent.T5 := by kernel_rfl
theorem psalteryref12_Spent.bits5 : waitsOk psalteryref12_Spent.T5.2 psalteryref12_Spent.B5 = true := by kernel_rfl
set_option maxHeartbeats 8000000 in
set_option maxRecDepth 100000 in
theorem psalteryref12_Spent.calls (k : Nat) (A0 : Option Addr) (c0 : Nat) (l0 : List Int) (r : Int) (w : World) (hr0 : Kd.C (Kd.int .i64) w A0 l0.length l0) (hc0 : l0.length ≤ c0) (h : psalteryref12_Spent.f k l0 = some r) :
  Calls Try.prog 19 #[.slice A0 l0.length c0] w fun e w' => e = .returned (.int .i64 r) ∧ Below w.heap.size w w' := by
 have HR0 := zm hr0
 have HC0 := zm hc0
 clear hr0 hc0
 have HB := zm (Below.refl w.heap.size w)
 have H : (psalteryref12_Spent.l0 k l0 0 0) = some r := h
 clear h
 have H' := zm H
 clear H
 go_enter Try.func19, Try.ntmps19
 go_wp2
 go_loopg [3, 4] k (fun kq v3 v4 w' => ∃ (x3_1 : Int) (x4_1 : Int), v3 = .int .i64 x3_1 ∧ v4 = .int .i64 x4_1 ∧ Aside0 (psalteryref12_Spent.l0 kq l0 x3_1 x4_1 = some r) ∧ Aside0 (kq ≤ k) ∧ Aside0 (Below w.heap.size w w'))
 case atStart => exact ⟨(0), (0), (by first | rfl | (simp; done) | (simp [*]; done)), (by first | rfl | (simp; done) | (simp [*]; done)), H', ⟨Nat.le_refl _⟩, ⟨by repeat (first | (with_reducible first | exact HB.out | apply ze | apply zd | apply zf) | exact HB.out)⟩⟩
 case round =>
  clear H'
  try clear c1
  obtain ⟨x3_1, x4_1, rfl, rfl, HA, HK1, HB⟩ := hrel
  cases gk with
  | zero => exact absurd HA.out (by simp [psalteryref12_Spent.l0])
  | succ k1 =>
   have H := HA.out
   clear HA
   simp only [psalteryref12_Spent.l0] at H
   by_cases c2 : x4_1 < 5
   ·
    rw [if_pos c2] at H
    have c2b0 : decide (x4_1 < 5) = true := decide_eq_true c2
    clear c2
    replace H := Option.bind_eq_some_iff.mp H
    obtain ⟨t224, A30, H⟩ := H
    replace H : (if 0 ≤ x4_1 then (if x4_1 < (l0.length : Int) then ((psalteryref06_Cost.f k1 t224 (rd l0 x4_1)).bind fun t226 => (psalteryref12_Spent.l0 k1 l0 (wrap64 (x3_1 + t226)) (wrap64 (x4_1 + 1)))) else (none)) else (none)) = some r := H
    have A3 := zm A30
    clear A30
    by_cases c4 : 0 ≤ x4_1
    ·
     rw [if_pos c4] at H
     have c4b0 : decide (0 ≤ x4_1) = true := decide_eq_true c4
     clear c4
     by_cases c5 : x4_1 < (l0.length : Int)
     ·
      rw [if_pos c5] at H
      have c5b0 : decide (x4_1 < (l0.length : Int)) = true := decide_eq_true c5
      clear c5
      replace H := Option.bind_eq_some_iff.mp H
      obtain ⟨t226, A60, H⟩ := H
      replace H : (psalteryref12_Spent.l0 k1 l0 (wrap64 (x3_1 + t226)) (wrap64 (x4_1 + 1))) = some r := H
      have A6 := zm A60
      clear A60
      have H' := zm H
      clear H
      try go_wp2
      have n0_ := zm (zf HB.out)
      clear HB
      have HB := n0_
      clear n0_
      have p225 : 0 ≤ (x4_1 : Int) := of_decide_eq_true (by first | (with_reducible assumption) | assumption)
      have q225 : x4_1 < (l0.length : Int) := of_decide_eq_true (by first | (with_reducible assumption) | assumption)
      obtain ⟨ad225, e225, hx225_0⟩ := Kd.at_int HR0.out x4_1 p225 q225
      have hw225_0 := hx225_0
      cases e225
      replace hx225_0 := (HB.out.cell (zb w _ hx225_0)).trans hx225_0
      replace p225 := eq_true p225
      replace q225 := eq_true q225
      refine start_ (n := 10) (S := fun w' => w'.cell? (ad225.add (x4_1).toNat) = some (.int .i64 (rd l0 x4_1))) (ds := []) #[false, false, false, false, false, false, false, false, false, false] (by kernel_rfl) rfl rfl (((HB.out.cell (zb w _ hw225_0)).trans hw225_0)) (fun hHeld => ?_); refine with_tabW psalteryref12_Spent.tab5 psalteryref12_Spent.bits5 (fun HT_ HW_ => ?_)
      generalize wr.drew = w7 at HB hx225_0 hHeld ⊢
      refine pure_ (i := 0) (N := some 9) (v := ?_) (a' := ?_) #[true, false, false, false, false, false, false, false, false, false] rfl rfl (any_of HT_.out (by kernel_rfl)) (fun _ _ _ h => h) (Or.inl ⟨by rfl, ?_⟩) ?_ ?_
      rotate_left
      ·
       intro w'
       go_simp
       with_reducible rfl
      rotate_left
      ·
       simp only [Act.put, List.setIfInBounds_toArray, List.set_cons_zero, List.set_cons_succ, i64_w, i32_w]
       rfl
      refine pure_ (i := 1) (N := some 10) (v := ?_) (a' := ?_) #[true, true, false, false, false, false, false, false, false, false] rfl rfl (any_of HT_.out (by kernel_rfl)) (fun _ _ _ h => h) (Or.inl ⟨by rfl, ?_⟩) ?_ ?_
      rotate_left
      ·
       intro w'
       go_simp
       with_reducible rfl
      rotate_left
      ·
       simp only [Act.put, List.setIfInBounds_toArray, List.set_cons_zero, List.set_cons_succ, i64_w, i32_w]
       rfl
      refine pure_ (i := 3) (N := some 12) (v := ?_) (a' := ?_) #[true, true, false, true, false, false, false, false, false, false] rfl rfl (any_of HT_.out (by kernel_rfl)) (fun _ _ _ h => h) (Or.inl ⟨by rfl, ?_⟩) ?_ ?_
      rotate_left
      ·
       intro w'
       go_simp
       with_reducible rfl
      rotate_left
      ·
       simp only [Act.put, List.setIfInBounds_toArray, List.set_cons_zero, List.set_cons_succ, i64_w, i32_w]
       rfl
      refine pure_ (i := 4) (N := some 13) (v := ?_) (a' := ?_) #[true, true, false, true, true, false, false, false, false, false] rfl rfl (any_of HT_.out (by kernel_rfl)) (fun _ _ _ h => h) (Or.inl ⟨by rfl, ?_⟩) ?_ ?_
      rotate_left
      ·
       intro w'
       go_simp
       with_reducible rfl
      rotate_left
      ·
       simp only [Act.put, List.setIfInBounds_toArray, List.set_cons_zero, List.set_cons_succ, i64_w, i32_w]
       rfl
      refine pure_ (i := 5) (N := some 14) (v := ?_) (a' := ?_) #[true, true, false, true, true, true, false, false, false, false] rfl rfl (any_of HT_.out (by kernel_rfl)) (fun _ _ _ h => h) (Or.inl ⟨by rfl, ?_⟩) ?_ ?_
      rotate_left
      ·
       intro w'
       go_simp
       with_reducible rfl
      rotate_left
      ·
       simp only [Act.put, List.setIfInBounds_toArray, List.set_cons_zero, List.set_cons_succ, i64_w, i32_w]
       rfl
      refine take_ (i := 6) (N := some 15) (v := ?_) (a' := ?_) #[true, true, false, true, true, true, true, false, false, false] rfl rfl (take_ofW HT_.out HW_.out (by kernel_rfl)) (fun _ _ _ h => h) (Or.inl ⟨by rfl, ?_⟩) hHeld ?_ ?_
      rotate_left
      ·
       intro w' s0
       go_simp
       with_reducible rfl
      rotate_left
      ·
       simp only [Act.put, List.setIfInBounds_toArray, List.set_cons_zero, List.set_cons_succ, i64_w, i32_w]
       rfl
      refine one_ (i := 2) (N := some 11) #[true, true, true, true, true, true, true, false, false, false] rfl rfl (one_of HT_.out (by kernel_rfl)) (by decide) (fun K hK => ?_)
      refine goes_ Try.func20 (by kernel_rfl) rfl #[.int .i64 x4_1] (by rfl) rfl rfl (by (try simp only [List.map_toArray, List.map_cons, List.map_nil]); first | done | rfl | (simp only [List.length_drop, List.length_take]; rfl)) ?_
      with_reducible refine (psalteryref10_Width.calls k1 x4_1 t224 _ A3.out).mono ?_
      rintro e w' ⟨rfl, ⟨nd, rfl⟩⟩
      refine ⟨_, rfl, ?_⟩
      refine hK.out _ _ (((HB.out.cell (zb w _ hw225_0)).trans hw225_0)) (fun hHeld => ?_)
      clear hK K
      refine norm_ (a' := ?_) ?_ ?_
      rotate_left
      ·
       show Act.put _ (some 11) _ = _
       simp only [Act.put, List.setIfInBounds_toArray, List.set_cons_zero, List.set_cons_succ, i64_w, i32_w]
       rfl
      refine one_ (i := 7) (N := some 16) #[true, true, true, true, true, true, true, true, false, false] rfl rfl (one_of HT_.out (by kernel_rfl)) (by decide) (fun K hK => ?_)
      refine goes_ Try.func29 (by kernel_rfl) rfl #[.int .i64 t224, .int .i64 (rd l0 x4_1)] (by rfl) rfl rfl (by (try simp only [List.map_toArray, List.map_cons, List.map_nil]); first | done | rfl | (simp only [List.length_drop, List.length_take]; rfl)) ?_
      with_reducible refine (psalteryref06_Cost.calls k1 t224 (rd l0 x4_1) t226 _ A6.out).mono ?_
      rintro e w8 ⟨rfl, hb⟩
      refine ⟨_, rfl, ?_⟩
      have n0_ := zm (zJ (by repeat (first | (with_reducible first | exact HB.out | apply ze | apply zd | apply zf) | exact HB.out)) hb)
      clear HB
      have HB := n0_
      clear n0_
      (try clear hb)
      (try clear hb2)
      (try clear hk)
      (try clear hi)
      refine hK.out _ _ (((HB.out.cell (zb w _ hw225_0)).trans hw225_0)) (fun hHeld => ?_)
      clear hK K
      refine norm_ (a' := ?_) ?_ ?_
      rotate_left
      ·
       show Act.put _ (some 16) _ = _
       simp only [Act.put, List.setIfInBounds_toArray, List.set_cons_zero, List.set_cons_succ, i64_w, i32_w]
       rfl
      refine pure_ (i := 8) (N := some 17) (v := ?_) (a' := ?_) #[true, true, true, true, true, true, true, true, true, false] rfl rfl (any_of HT_.out (by kernel_rfl)) (fun _ _ _ h => h) (Or.inl ⟨by rfl, ?_⟩) ?_ ?_
      rotate_left
      ·
       intro w'
       go_simp
       with_reducible rfl
      rotate_left
      ·
       simp only [Act.put, List.setIfInBounds_toArray, List.set_cons_zero, List.set_cons_succ, i64_w, i32_w]
       rfl
      refine pure_ (i := 9) (N := some 3) (v := ?_) (a' := ?_) #[true, true, true, true, true, true, true, true, true, true] rfl rfl (any_of HT_.out (by kernel_rfl)) (fun _ _ _ h => h) (Or.inl ⟨by rfl, ?_⟩) ?_ ?_
      rotate_left
      ·
       intro w'
       go_simp
       with_reducible rfl
      rotate_left
      ·
       simp only [Act.put, List.setIfInBounds_toArray, List.set_cons_zero, List.set_cons_succ, i64_w, i32_w]
       rfl
      refine done_ (done_of HT_.out (by kernel_rfl)) ?_
      try go_wp2
      go_roundg k1
      case measure => have := HK1.out; omega
      case rel => exact ⟨(wrap64 (x3_1 + t226)), (wrap64 (x4_1 + 1)), (by first | rfl | (simp; done) | (simp [*]; done)), (by first | rfl | (simp; done) | (simp [*]; done)), H', ⟨by have := HK1.out; omega⟩, ⟨by repeat (first | (with_reducible first | exact HB.out | apply ze | apply zd | apply zf) | exact HB.out)⟩⟩
     ·
      rw [if_neg c5] at H
      exact absurd H (by simp)
    ·
     rw [if_neg c4] at H
     exact absurd H (by simp)
   ·
    rw [if_neg c2] at H
    have c2b0 : decide (x4_1 < 5) = false := decide_eq_false c2
    clear c2
    obtain rfl := Option.some.inj H
    go_wp2
    go_ret
    exact ⟨by first | rfl | (simp [errW_none, errW_some] <;> rfl) | (simp [*, errW_none, errW_some] <;> rfl), by repeat (first | (with_reducible first | exact HB.out | apply ze | apply zd | apply zf) | exact HB.out)⟩

end Go.Proofs.Ytbaaedpjaanjnaa.Prt

namespace Go.Proofs.Ytbaaedpjaanjnaa.Prt
open Go.RowKit Go.Proofs.YtbaaedpjaanjnaaW.PrintWords Go.Proofs.YtbaaedpjaanjnaaW.PrintLast Go.Proofs.YtbaaedpjaanjnaaW.PrintMore
attribute [local go_sem] max2_int min2_int max_two min_two max_three min_three max_four min_four   -- for this text's walks alone
set_option linter.unusedVariables false
set_option linter.unusedSimpArgs false

/-! ### psalteryref12_May: function 21 -/
def psalteryref12_May.j0 : Nat → List Int → Int → Int → Bool → Option (Bool)
 | 0, _, _, _, _ => none
 | k + 1, x1, x2, x3, x32 => if x32 = true then (some false) else ((psalteryref12_More.f x1 x2).bind fun t239 => ((psalteryref12_Spent.f k t239).bind fun t242 => (some (decide (t242 ≤ x3)))))
def psalteryref12_May.f (k : Nat) (l0 : List Int) (l1 : List Int) (a2 : Int) (a3 : Int) : Option (Bool) := if 0 ≤ a2 then (if a2 < (l0.length : Int) then (if (rd l0 a2) < 1 then (psalteryref12_May.j0 k l1 a2 a3 true) else (if a2 < (l1.length : Int) then (if (rd l1 a2) ≥ 12 then (psalteryref12_May.j0 k l1 a2 a3 true) else ((psalteryref10_Width.f k a2).bind fun t237 => (if t237 = 1 then (psalteryref12_May.j0 k l1 a2 a3 (decide ((rd l1 a2) > 0))) else (psalteryref12_May.j0 k l1 a2 a3 false)))) else (none))) else (none)) else (none)
theorem psalteryref12_May.mono_l : ∀ k, (∀ y0 y1 y2 y3, LeO (psalteryref12_May.j0 k y0 y1 y2 y3) (psalteryref12_May.j0 (k + 1) y0 y1 y2 y3))
 | 0 => fun _ _ _ _ r h => by simp [psalteryref12_May.j0] at h
 | k + 1 => by
  have ih0 := psalteryref12_May.mono_l k
  ·
   intro y0 y1 y2 y3
   unfold psalteryref12_May.j0
   repeat' first
   | (with_reducible exact ih0 _ _ _ _)
   | (with_reducible exact psalteryref10_Width.mono _ _)
   | (with_reducible exact psalteryref12_Spent.mono _ _)
   | (with_reducible exact LeO.refl _)
   | (with_reducible exact LeO.none _)
   | (with_reducible refine LeO.ite ?_ ?_)
   | (with_reducible refine LeO.bind ?_ (fun _ => ?_))
   | exact ih0 _ _ _ _
   | exact psalteryref10_Width.mono _ _
   | exact psalteryref12_Spent.mono _ _
   | exact LeO.none _
   | refine LeO.ite ?_ ?_
   | refine LeO.bind ?_ (fun _ => ?_)
theorem psalteryref12_May.mono : ∀ a0 a1 a2 a3 k, LeO (psalteryref12_May.f k a0 a1 a2 a3) (psalteryref12_May.f (k + 1) a0 a1 a2 a3) := by
 intro a0 a1 a2 a3 k
 have ih0 := psalteryref12_May.mono_l k
 unfold psalteryref12_May.f
 repeat' first
   | (with_reducible exact ih0 _ _ _ _)
   | (with_reducible exact psalteryref10_Width.mono _ _)
   | (with_reducible exact psalteryref12_Spent.mono _ _)
   | (with_reducible exact LeO.refl _)
   | (with_reducible exact LeO.none _)
   | (with_reducible refine LeO.ite ?_ ?_)
   | (with_reducible refine LeO.bind ?_ (fun _ => ?_))
   | exact ih0 _ _ _ _
   | exact psalteryref10_Width.mono _ _
   | exact psalteryref12_Spent.mono _ _
   | exact LeO.none _
   | refine LeO.ite ?_ ?_
   | refine LeO.bind ?_ (fun _ => ?_)
set_option maxHeartbeats 8000000 in
set_option maxRecDepth 100000 in
theorem psalteryref12_May.calls (k : Nat) (A0 : Option Addr) (c0 : Nat) (l0 : List Int) (A1 : Option Addr) (c1 : Nat) (l1 : List Int) (a2 : Int) (a3 : Int) (r : Bool) (w : World) (hr0 : Kd.C (Kd.int .i64) w A0 l0.length l0) (hc0 : l0.length ≤ c0) (hr1 : Kd.C (Kd.int .i64) w A1 l1.length l1) (hc1 : l1.length ≤ c1) (h : psalteryref12_May.f k l0 l1 a2 a3 = some r) :
  Calls Try.prog 21 #[.slice A0 l0.length c0, .slice A1 l1.length c1, .int .i64 a2, .int .i64 a3] w fun e w' => e = .returned (.bool r) ∧ Below w.heap.size w w' := by
 have HR0 := zm hr0
 have HC0 := zm hc0
 clear hr0 hc0
 have HR1 := zm hr1
 have HC1 := zm hc1
 clear hr1 hc1
 have HB := zm (Below.refl w.heap.size w)
 have H : (if 0 ≤ a2 then (if a2 < (l0.length : Int) then (if (rd l0 a2) < 1 then (psalteryref12_May.j0 k l1 a2 a3 true) else (if a2 < (l1.length : Int) then (if (rd l1 a2) ≥ 12 then (psalteryref12_May.j0 k l1 a2 a3 true) else ((psalteryref10_Width.f k a2).bind fun t237 => (if t237 = 1 then (psalteryref12_May.j0 k l1 a2 a3 (decide ((rd l1 a2) > 0))) else (psalteryref12_May.j0 k l1 a2 a3 false)))) else (none))) else (none)) else (none)) = some r := h
 clear h
 have HC5 := zm H
 clear H
 go_enter Try.func21, Try.ntmps21
 go_upto_region 1 with (fail)
 go_cut [32] (fun v32 wc => ∃ (kq : Nat) (x32_4 : Bool), v32 = .bool x32_4 ∧ Aside0 (psalteryref12_May.j0 kq l1 a2 a3 x32_4 = some r) ∧ Aside0 (kq ≤ k) ∧ Aside0 (Below w.heap.size w wc))
 case first =>
  have H := HC5.out
  clear HC5
  by_cases c6 : 0 ≤ a2
  ·
   rw [if_pos c6] at H
   have c6b0 : decide (0 ≤ a2) = true := decide_eq_true c6
   clear c6
   (first | rw [c6b0] | (simp only [i64_w, i32_w]; rw [c6b0]) | skip)
   by_cases c7 : a2 < (l0.length : Int)
   ·
    rw [if_pos c7] at H
    have c7b0 : decide (a2 < (l0.length : Int)) = true := decide_eq_true c7
    clear c7
    by_cases c8 : (rd l0 a2) < 1
    ·
     rw [if_pos c8] at H
     have c8b0 : decide ((rd l0 a2) < 1) = true := decide_eq_true c8
     clear c8
     have H' := zm H
     clear H
     have p235 : 0 ≤ (a2 : Int) := of_decide_eq_true (by first | (with_reducible assumption) | assumption)
     have q235 : a2 < (l0.length : Int) := of_decide_eq_true (by first | (with_reducible assumption) | assumption)
     obtain ⟨ad235, e235, hx235_0⟩ := Kd.at_int HR0.out a2 p235 q235
     cases e235
     replace hx235_0 := (HB.out.cell (zb w _ hx235_0)).trans hx235_0
     replace p235 := eq_true p235
     replace q235 := eq_true q235
     go_wp2
     go_meet
     case rel => exact ⟨_, (true), (by first | rfl | (simp; done) | (simp [*]; done)), H', ⟨by first | omega | exact Nat.le_refl _⟩, ⟨by repeat (first | (with_reducible first | exact HB.out | apply ze | apply zd | apply zf) | exact HB.out)⟩⟩
    ·
     rw [if_neg c8] at H
     have c8b0 : decide ((rd l0 a2) < 1) = false := decide_eq_false c8
     clear c8
     by_cases c9 : a2 < (l1.length : Int)
     ·
      rw [if_pos c9] at H
      have c9b0 : decide (a2 < (l1.length : Int)) = true := decide_eq_true c9
      clear c9
      by_cases c10 : (rd l1 a2) ≥ 12
      ·
       rw [if_pos c10] at H
       have c10b0 : decide (12 ≤ (rd l1 a2)) = true := decide_eq_true c10
       clear c10
       have H' := zm H
       clear H
       have p235 : 0 ≤ (a2 : Int) := of_decide_eq_true (by first | (with_reducible assumption) | assumption)
       have q235 : a2 < (l0.length : Int) := of_decide_eq_true (by first | (with_reducible assumption) | assumption)
       obtain ⟨ad235, e235, hx235_0⟩ := Kd.at_int HR0.out a2 p235 q235
       cases e235
       replace hx235_0 := (HB.out.cell (zb w _ hx235_0)).trans hx235_0
       replace p235 := eq_true p235
       replace q235 := eq_true q235
       have p236 : 0 ≤ (a2 : Int) := of_decide_eq_true (by first | (with_reducible assumption) | assumption)
       have q236 : a2 < (l1.length : Int) := of_decide_eq_true (by first | (with_reducible assumption) | assumption)
       obtain ⟨ad236, e236, hx236_0⟩ := Kd.at_int HR1.out a2 p236 q236
       cases e236
       replace hx236_0 := (HB.out.cell (zb w _ hx236_0)).trans hx236_0
       replace p236 := eq_true p236
       replace q236 := eq_true q236
       go_wp2
       go_meet
       case rel => exact ⟨_, (true), (by first | rfl | (simp; done) | (simp [*]; done)), H', ⟨by first | omega | exact Nat.le_refl _⟩, ⟨by repeat (first | (with_reducible first | exact HB.out | apply ze | apply zd | apply zf) | exact HB.out)⟩⟩
      ·
       rw [if_neg c10] at H
       have c10b0 : decide (12 ≤ (rd l1 a2)) = false := decide_eq_false c10
       clear c10
       replace H := Option.bind_eq_some_iff.mp H
       obtain ⟨t237, A110, H⟩ := H
       replace H : (if t237 = 1 then (psalteryref12_May.j0 k l1 a2 a3 (decide ((rd l1 a2) > 0))) else (psalteryref12_May.j0 k l1 a2 a3 false)) = some r := H
       have A11 := zm A110
       clear A110
       by_cases c12 : t237 = 1
       ·
        rw [if_pos c12] at H
        have c12b0 : (t237 == 1) = true := beq_iff_eq.mpr c12
        have c12b1 : (t237 != 1) = false := bne_eq_false_iff_eq.mpr c12
        clear c12
        have H' := zm H
        clear H
        have p235 : 0 ≤ (a2 : Int) := of_decide_eq_true (by first | (with_reducible assumption) | assumption)
        have q235 : a2 < (l0.length : Int) := of_decide_eq_true (by first | (with_reducible assumption) | assumption)
        obtain ⟨ad235, e235, hx235_0⟩ := Kd.at_int HR0.out a2 p235 q235
        cases e235
        replace hx235_0 := (HB.out.cell (zb w _ hx235_0)).trans hx235_0
        replace p235 := eq_true p235
        replace q235 := eq_true q235
        have p236 : 0 ≤ (a2 : Int) := of_decide_eq_true (by first | (with_reducible assumption) | assumption)
        have q236 : a2 < (l1.length : Int) := of_decide_eq_true (by first | (with_reducible assumption) | assumption)
        obtain ⟨ad236, e236, hx236_0⟩ := Kd.at_int HR1.out a2 p236 q236
        cases e236
        replace hx236_0 := (HB.out.cell (zb w _ hx236_0)).trans hx236_0
        replace p236 := eq_true p236
        replace q236 := eq_true q236
        go_wp2_with (first | (go_at_call 20; (with_reducible refine (psalteryref10_Width.calls k a2 t237 _ A11.out).mono ?_); rintro e w' ⟨rfl, ⟨nd, rfl⟩⟩; have p238 : 0 ≤ (a2 : Int) := of_decide_eq_true (by first | (with_reducible assumption) | assumption); have q238 : a2 < (l1.length : Int) := of_decide_eq_true (by first | (with_reducible assumption) | assumption); obtain ⟨ad238, e238, hx238_0⟩ := Kd.at_int HR1.out a2 p238 q238; obtain rfl : ad236 = ad238 := (by injection e238); replace hx238_0 := (HB.out.cell (zb w _ hx238_0)).trans hx238_0; replace p238 := eq_true p238; replace q238 := eq_true q238))
        go_meet
        case rel => exact ⟨_, (decide ((rd l1 a2) > 0)), (by first | rfl | (simp; done) | (simp [*]; done)), H', ⟨by first | omega | exact Nat.le_refl _⟩, ⟨by repeat (first | (with_reducible first | exact HB.out | apply ze | apply zd | apply zf) | exact HB.out)⟩⟩
       ·
        rw [if_neg c12] at H
        have c12b0 : (t237 == 1) = false := beq_eq_false_iff_ne.mpr c12
        have c12b1 : (t237 != 1) = true := bne_iff_ne.mpr c12
        have H' := zm H
        clear H
        have p235 : 0 ≤ (a2 : Int) := of_decide_eq_true (by first | (with_reducible assumption) | assumption)
        have q235 : a2 < (l0.length : Int) := of_decide_eq_true (by first | (with_reducible assumption) | assumption)
        obtain ⟨ad235, e235, hx235_0⟩ := Kd.at_int HR0.out a2 p235 q235
        cases e235
        replace hx235_0 := (HB.out.cell (zb w _ hx235_0)).trans hx235_0
        replace p235 := eq_true p235
        replace q235 := eq_true q235
        have p236 : 0 ≤ (a2 : Int) := of_decide_eq_true (by first | (with_reducible assumption) | assumption)
        have q236 : a2 < (l1.length : Int) := of_decide_eq_true (by first | (with_reducible assumption) | assumption)
        obtain ⟨ad236, e236, hx236_0⟩ := Kd.at_int HR1.out a2 p236 q236
        cases e236
        replace hx236_0 := (HB.out.cell (zb w _ hx236_0)).trans hx236_0
        replace p236 := eq_true p236
        replace q236 := eq_true q236
        go_wp2_with (first | (go_at_call 20; (with_reducible refine (psalteryref10_Width.calls k a2 t237 _ A11.out).mono ?_); rintro e w' ⟨rfl, ⟨nd, rfl⟩⟩))
        go_meet
        case rel => exact ⟨_, (false), (by first | rfl | (simp; done) | (simp [*]; done)), H', ⟨by first | omega | exact Nat.le_refl _⟩, ⟨by repeat (first | (with_reducible first | exact HB.out | apply ze | apply zd | apply zf) | exact HB.out)⟩⟩
     ·
      rw [if_neg c9] at H
      exact absurd H (by simp)
   ·
    rw [if_neg c7] at H
    exact absurd H (by simp)
  ·
   rw [if_neg c6] at H
   exact absurd H (by simp)
 case rest =>
  clear HC5
  try clear c1
  try clear c2
  try clear p2
  try clear q2
  try clear hx2
  try clear c6
  try clear c6b0
  try clear c7
  try clear c7b0
  try clear c8
  try clear c8b0
  try clear c9
  try clear c9b0
  try clear c10
  try clear c10b0
  try clear c12
  try clear c12b0
  try clear c12b1
  try clear hx235_0
  try clear hx236_0
  try clear hx238_0
  try clear p235
  try clear p236
  try clear p238
  try clear q235
  try clear q236
  try clear q238
  obtain ⟨kq, x32_4, rfl, HA, HJ4, HB⟩ := hcut
  cases kq with
  | zero => exact absurd HA.out (by simp [psalteryref12_May.j0])
  | succ kj4 =>
   have H := HA.out
   clear HA
   simp only [psalteryref12_May.j0] at H
   by_cases c13 : x32_4 = true
   ·
    subst c13
    have H1 : (some false) = some r := by rw [if_pos rfl] at H; exact H
    clear H
    have H := H1
    clear H1
    obtain rfl := Option.some.inj H
    go_wp2
    go_ret
    exact ⟨by first | rfl | (simp [errW_none, errW_some] <;> rfl) | (simp [*, errW_none, errW_some] <;> rfl), by repeat (first | (with_reducible first | exact HB.out | apply ze | apply zd | apply zf) | exact HB.out)⟩
   ·
    replace c13 := Bool.eq_false_iff.mpr c13
    subst c13
    have H1 : ((psalteryref12_More.f l1 a2).bind fun t239 => ((psalteryref12_Spent.f kj4 t239).bind fun t242 => (some (decide (t242 ≤ a3))))) = some r := by rw [if_neg (show ¬ (false = true) by decide)] at H; exact H
    clear H
    have H := H1
    clear H1
    replace H := Option.bind_eq_some_iff.mp H
    obtain ⟨t239, A140, H⟩ := H
    replace H : ((psalteryref12_Spent.f kj4 t239).bind fun t242 => (some (decide (t242 ≤ a3)))) = some r := H
    have A14 := zm A140
    clear A140
    replace H := Option.bind_eq_some_iff.mp H
    obtain ⟨t242, A150, H⟩ := H
    replace H : (some (decide (t242 ≤ a3))) = some r := H
    have A15 := zm A150
    clear A150
    obtain rfl := Option.some.inj H
    go_wp2_with (first | ((with_reducible refine gate_callee (f := 30) rfl ?_); refine goesL_ (some 35) rfl rfl Try.func30 (by kernel_rfl) rfl #[.slice A1 l1.length c1, .int .i64 a2] rfl (by (try simp only [List.map_toArray, List.map_cons, List.map_nil]); first | done | rfl | (simp only [List.length_drop, List.length_take]; rfl)) ?_; (with_reducible refine (psalteryref12_More.calls _ _ l1 a2 t239 _ ?side1 ?side2 A14.out).mono ?_); (case side1 => repeat (first | exact (Kd.C_below HR1.out HB.out) | (with_reducible refine Kd.C_alloc ?_ _) | (with_reducible refine Kd.C_drewN ?_ _) | (with_reducible refine Kd.C_drew ?_))); (case side2 => exact HC1.out); rintro e w16 ⟨v240, rfl, ho0, hb⟩; refine ⟨_, rfl, ?_⟩; have n0_ := zm (Kd.R_lower ho0 (zE (by repeat (first | (with_reducible first | exact HB.out | apply ze | apply zd | apply zf) | exact HB.out)))); have n1_ := zm (zJ (by repeat (first | (with_reducible first | exact HB.out | apply ze | apply zd | apply zf) | exact HB.out)) hb); clear HB; have HO241 := n0_; have HB := n1_; clear n0_ n1_; (try clear hb); (try clear hb2); (try clear hk); (try clear hi); (try clear ho0); obtain ⟨Ao17, co17, eo17⟩ := Kd.R_slice HO241.out; subst eo17) | ((with_reducible refine gate_callee (f := 19) rfl ?_); refine goesL_ (some 36) rfl rfl Try.func19 (by kernel_rfl) rfl #[.slice Ao17 t239.length co17] rfl (by (try simp only [List.map_toArray, List.map_cons, List.map_nil]); first | done | rfl | (simp only [List.length_drop, List.length_take]; rfl)) ?_; (with_reducible refine (psalteryref12_Spent.calls kj4 _ _ t239 t242 _ ?side1 ?side2 A15.out).mono ?_); (case side1 => repeat (first | exact (Kd.R_reads' HO241.out).2.2 | (with_reducible refine Kd.C_alloc ?_ _) | (with_reducible refine Kd.C_drewN ?_ _) | (with_reducible refine Kd.C_drew ?_))); (case side2 => exact (Kd.R_reads' HO241.out).2.1); rintro e w18 ⟨rfl, hb⟩; refine ⟨_, rfl, ?_⟩; have n0_ := zm (Kd.R_below (by (with_reducible repeat (first | apply zo | apply zp | apply zq)); exact HO241.out) hb); have n1_ := zm (zJ (by repeat (first | (with_reducible first | exact HB.out | apply ze | apply zd | apply zf) | exact HB.out)) hb); clear HO241; clear HB; have HO241 := n0_; have HB := n1_; clear n0_ n1_; (try clear hb); (try clear hb2); (try clear hk); (try clear hi)))
    go_ret
    exact ⟨by first | rfl | (simp [errW_none, errW_some] <;> rfl) | (simp [*, errW_none, errW_some] <;> rfl), by repeat (first | (with_reducible first | exact HB.out | apply ze | apply zd | apply zf) | exact HB.out)⟩

end Go.Proofs.Ytbaaedpjaanjnaa.Prt

namespace Go.Proofs.Ytbaaedpjaanjnaa.Prt
open Go.RowKit Go.Proofs.YtbaaedpjaanjnaaW.PrintWords Go.Proofs.YtbaaedpjaanjnaaW.PrintLast Go.Proofs.YtbaaedpjaanjnaaW.PrintMore
attribute [local go_sem] max2_int min2_int max_two min_two max_three min_three max_four min_four   -- for this text's walks alone
set_option linter.unusedVariables false
set_option linter.unusedSimpArgs false

/-! ### psalteryref12_Channel: function 28 -/
mutual
def psalteryref12_Channel.l0 : Nat → List Int → Int → List Int → Option (List Int)
 | 0, _, _, _ => none
 | k + 1, x0, x1, x5 => psalteryref12_Channel.l1 k x0 x1 x5 (-1) 0 0
def psalteryref12_Channel.l1 : Nat → List Int → Int → List Int → Int → Int → Int → Option (List Int)
 | 0, _, _, _, _, _, _ => none
 | k + 1, x0, x1, x5, x6, x7, x8 => if x8 < 5 then (if 0 ≤ x8 then (if x8 < (x0.length : Int) then (if x8 < (x5.length : Int) then ((psalteryref10_Width.f k x8).bind fun t251 => (if t251 = 0 then (none) else ((psalteryref12_May.f k x0 x5 x8 x1).bind fun t252 => (if t252 = true then (if x6 < 0 then (psalteryref12_Channel.l1 k x0 x1 x5 x8 (wrap64 ((wrap64 (8 * (rd x0 x8))) - (wrap64 (Int.tdiv (wrap64 (16 * (rd x5 x8))) t251)))) (wrap64 (x8 + 1))) else (if (wrap64 ((wrap64 (8 * (rd x0 x8))) - (wrap64 (Int.tdiv (wrap64 (16 * (rd x5 x8))) t251)))) > x7 then (psalteryref12_Channel.l1 k x0 x1 x5 x8 (wrap64 ((wrap64 (8 * (rd x0 x8))) - (wrap64 (Int.tdiv (wrap64 (16 * (rd x5 x8))) t251)))) (wrap64 (x8 + 1))) else (psalteryref12_Channel.l1 k x0 x1 x5 x6 x7 (wrap64 (x8 + 1))))) else (psalteryref12_Channel.l1 k x0 x1 x5 x6 x7 (wrap64 (x8 + 1))))))) else (none)) else (none)) else (none)) else (if x6 < 0 then (some x5) else ((psalteryref12_More.f x5 x6).bind fun t246 => (psalteryref12_Channel.l0 k x0 x1 t246)))
end
def psalteryref12_Channel.f (k : Nat) (l0 : List Int) (a1 : Int) : Option (List Int) := psalteryref12_Channel.l0 k l0 a1 (([0, 0, 0, 0, 0] : List Int))
theorem psalteryref12_Channel.mono_l : ∀ k, (∀ y0 y1 y2, LeO (psalteryref12_Channel.l0 k y0 y1 y2) (psalteryref12_Channel.l0 (k + 1) y0 y1 y2)) ∧ (∀ y0 y1 y2 y3 y4 y5, LeO (psalteryref12_Channel.l1 k y0 y1 y2 y3 y4 y5) (psalteryref12_Channel.l1 (k + 1) y0 y1 y2 y3 y4 y5))
 | 0 => ⟨fun _ _ _ r h => by simp [psalteryref12_Channel.l0] at h, fun _ _ _ _ _ _ r h => by simp [psalteryref12_Channel.l1] at h⟩
 | k + 1 => by
  obtain ⟨ih0, ih1⟩ := psalteryref12_Channel.mono_l k
  refine ⟨?_, ?_⟩
  ·
   intro y0 y1 y2
   unfold psalteryref12_Channel.l0
   repeat' first
   | (with_reducible exact ih0 _ _ _)
   | (with_reducible exact ih1 _ _ _ _ _ _)
   | (with_reducible exact psalteryref10_Width.mono _ _)
   | (with_reducible exact psalteryref12_May.mono _ _ _ _ _)
   | (with_reducible exact LeO.refl _)
   | (with_reducible exact LeO.none _)
   | (with_reducible refine LeO.ite ?_ ?_)
   | (with_reducible refine LeO.bind ?_ (fun _ => ?_))
   | exact ih0 _ _ _
   | exact ih1 _ _ _ _ _ _
   | exact psalteryref10_Width.mono _ _
   | exact psalteryref12_May.mono _ _ _ _ _
   | exact LeO.none _
   | refine LeO.ite ?_ ?_
   | refine LeO.bind ?_ (fun _ => ?_)
  ·
   intro y0 y1 y2 y3 y4 y5
   unfold psalteryref12_Channel.l1
   repeat' first
   | (with_reducible exact ih0 _ _ _)
   | (with_reducible exact ih1 _ _ _ _ _ _)
   | (with_reducible exact psalteryref10_Width.mono _ _)
   | (with_reducible exact psalteryref12_May.mono _ _ _ _ _)
   | (with_reducible exact LeO.refl _)
   | (with_reducible exact LeO.none _)
   | (with_reducible refine LeO.ite ?_ ?_)
   | (with_reducible refine LeO.bind ?_ (fun _ => ?_))
   | exact ih0 _ _ _
   | exact ih1 _ _ _ _ _ _
   | exact psalteryref10_Width.mono _ _
   | exact psalteryref12_May.mono _ _ _ _ _
   | exact LeO.none _
   | refine LeO.ite ?_ ?_
   | refine LeO.bind ?_ (fun _ => ?_)
theorem psalteryref12_Channel.mono : ∀ a0 a1 k, LeO (psalteryref12_Channel.f k a0 a1) (psalteryref12_Channel.f (k + 1) a0 a1) := by
 intro a0 a1 k
 obtain ⟨ih0, ih1⟩ := psalteryref12_Channel.mono_l k
 unfold psalteryref12_Channel.f
 repeat' first
   | (with_reducible exact ih0 _ _ _)
   | (with_reducible exact ih1 _ _ _ _ _ _)
   | (with_reducible exact psalteryref10_Width.mono _ _)
   | (with_reducible exact psalteryref12_May.mono _ _ _ _ _)
   | (with_reducible exact LeO.refl _)
   | (with_reducible exact LeO.none _)
   | (with_reducible refine LeO.ite ?_ ?_)
   | (with_reducible refine LeO.bind ?_ (fun _ => ?_))
   | exact ih0 _ _ _
   | exact ih1 _ _ _ _ _ _
   | exact psalteryref10_Width.mono _ _
   | exact psalteryref12_May.mono _ _ _ _ _
   | exact LeO.none _
   | refine LeO.ite ?_ ?_
   | refine LeO.bind ?_ (fun _ => ?_)
set_option maxHeartbeats 8000000 in
set_option maxRecDepth 100000 in
theorem psalteryref12_Channel.calls (k : Nat) (A0 : Option Addr) (c0 : Nat) (l0 : List Int) (a1 : Int) (r : List Int) (w : World) (hr0 : Kd.C (Kd.int .i64) w A0 l0.length l0) (hc0 : l0.length ≤ c0) (h : psalteryref12_Channel.f k l0 a1 = some r) :
  Calls Try.prog 28 #[.slice A0 l0.length c0, .int .i64 a1] w fun e w' => ∃ v0_ : Value, e = .returned (v0_) ∧ Kd.R (Kd.int .i64) 3 w' w.heap.size (fun _ => True) v0_ r ∧ Below w.heap.size w w' := by
 have HR0 := zm hr0
 have HC0 := zm hc0
 clear hr0 hc0
 have HB := zm (Below.refl w.heap.size w)
 have H : (psalteryref12_Channel.l0 k l0 a1 (([0, 0, 0, 0, 0] : List Int))) = some r := h
 clear h
 obtain ⟨y243, hy243⟩ : ∃ y_ : List Int, y_ = (([0, 0, 0, 0, 0] : List Int)) := ⟨_, rfl⟩
 replace H : (psalteryref12_Channel.l0 k l0 a1 y243) = some r := by first | (rw [hy243]; with_reducible exact H) | (have H2_ := (Option.bind_some _ _).symm.trans H; rw [hy243]; with_reducible exact H2_) | (have H2_ := (Option.bind_some _ _).symm.trans H; with_reducible exact H2_) | with_reducible exact H | (rw [hy243]; exact H) | exact H
 have Ny243 := zm hy243
 clear hy243
 have H' := zm H
 clear H
 go_enter Try.func28, Try.ntmps28
 go_wp2_with (first | ((with_reducible refine gate_dst (N := 10) rfl ?_); refine Kd.R_lit (Kd.int .i64) _ 3 ?hg (N := 10) ?hd (xs := ([0, 0, 0, 0, 0] : List Int)) (inner := [.int .i64 0, .int .i64 0, .int .i64 0, .int .i64 0, .int .i64 0]) (ok := fun _ => True) (okp := fun _ => True) ?hr ?hp (fun _ hk => hk) trivial (Below.refl _ _) (Nat.le_refl _) (by simp) ?_; (case hd => rfl); (case hg => rfl); (case hr => first | (go_simp; done) | (go_simp; rfl)); (case hp => exact (Reps.one (show Kd.M (Kd.int .i64) _ _ _ 0 [.int .i64 0] from rfl) (Reps.one (show Kd.M (Kd.int .i64) _ _ _ 0 [.int .i64 0] from rfl) (Reps.one (show Kd.M (Kd.int .i64) _ _ _ 0 [.int .i64 0] from rfl) (Reps.one (show Kd.M (Kd.int .i64) _ _ _ 0 [.int .i64 0] from rfl) (Reps.one (show Kd.M (Kd.int .i64) _ _ _ 0 [.int .i64 0] from rfl) (Reps.none _ _))))))); intro v244 w3 ho4 hb hg_ hnew_; clear hg_ hnew_; (first | rw [← Ny243.out] at ho4 | (simp only [Int.reduceToNat] at ho4; rw [← Ny243.out] at ho4)); have n0_ := zm (Kd.R_lower ho4 (zE (by repeat (first | (with_reducible first | exact HB.out | apply ze | apply zd | apply zf) | exact HB.out)))); have n1_ := zm (zJ (by repeat (first | (with_reducible first | exact HB.out | apply ze | apply zd | apply zf) | exact HB.out)) hb); clear HB; have HO245 := n0_; have HB := n1_; clear n0_ n1_; clear hb ho4))
 repeat (go_quiet (first | ((with_reducible refine gate_dst (N := 10) rfl ?_); refine Kd.R_lit (Kd.int .i64) _ 3 ?hg (N := 10) ?hd (xs := ([0, 0, 0, 0, 0] : List Int)) (inner := [.int .i64 0, .int .i64 0, .int .i64 0, .int .i64 0, .int .i64 0]) (ok := fun _ => True) (okp := fun _ => True) ?hr ?hp (fun _ hk => hk) trivial (Below.refl _ _) (Nat.le_refl _) (by simp) ?_; (case hd => rfl); (case hg => rfl); (case hr => first | (go_simp; done) | (go_simp; rfl)); (case hp => exact (Reps.one (show Kd.M (Kd.int .i64) _ _ _ 0 [.int .i64 0] from rfl) (Reps.one (show Kd.M (Kd.int .i64) _ _ _ 0 [.int .i64 0] from rfl) (Reps.one (show Kd.M (Kd.int .i64) _ _ _ 0 [.int .i64 0] from rfl) (Reps.one (show Kd.M (Kd.int .i64) _ _ _ 0 [.int .i64 0] from rfl) (Reps.one (show Kd.M (Kd.int .i64) _ _ _ 0 [.int .i64 0] from rfl) (Reps.none _ _))))))); intro v244 w3 ho4 hb hg_ hnew_; clear hg_ hnew_; (first | rw [← Ny243.out] at ho4 | (simp only [Int.reduceToNat] at ho4; rw [← Ny243.out] at ho4)); have n0_ := zm (Kd.R_lower ho4 (zE (by repeat (first | (with_reducible first | exact HB.out | apply ze | apply zd | apply zf) | exact HB.out)))); have n1_ := zm (zJ (by repeat (first | (with_reducible first | exact HB.out | apply ze | apply zd | apply zf) | exact HB.out)) hb); clear HB; have HO245 := n0_; have HB := n1_; clear n0_ n1_; clear hb ho4)); try go_wp2_with (first | ((with_reducible refine gate_dst (N := 10) rfl ?_); refine Kd.R_lit (Kd.int .i64) _ 3 ?hg (N := 10) ?hd (xs := ([0, 0, 0, 0, 0] : List Int)) (inner := [.int .i64 0, .int .i64 0, .int .i64 0, .int .i64 0, .int .i64 0]) (ok := fun _ => True) (okp := fun _ => True) ?hr ?hp (fun _ hk => hk) trivial (Below.refl _ _) (Nat.le_refl _) (by simp) ?_; (case hd => rfl); (case hg => rfl); (case hr => first | (go_simp; done) | (go_simp; rfl)); (case hp => exact (Reps.one (show Kd.M (Kd.int .i64) _ _ _ 0 [.int .i64 0] from rfl) (Reps.one (show Kd.M (Kd.int .i64) _ _ _ 0 [.int .i64 0] from rfl) (Reps.one (show Kd.M (Kd.int .i64) _ _ _ 0 [.int .i64 0] from rfl) (Reps.one (show Kd.M (Kd.int .i64) _ _ _ 0 [.int .i64 0] from rfl) (Reps.one (show Kd.M (Kd.int .i64) _ _ _ 0 [.int .i64 0] from rfl) (Reps.none _ _))))))); intro v244 w3 ho4 hb hg_ hnew_; clear hg_ hnew_; (first | rw [← Ny243.out] at ho4 | (simp only [Int.reduceToNat] at ho4; rw [← Ny243.out] at ho4)); have n0_ := zm (Kd.R_lower ho4 (zE (by repeat (first | (with_reducible first | exact HB.out | apply ze | apply zd | apply zf) | exact HB.out)))); have n1_ := zm (zJ (by repeat (first | (with_reducible first | exact HB.out | apply ze | apply zd | apply zf) | exact HB.out)) hb); clear HB; have HO245 := n0_; have HB := n1_; clear n0_ n1_; clear hb ho4)))
 go_loopg [5] k (fun kq v5 w' => ∃ (x5_1 : List Int), Aside0 (psalteryref12_Channel.l0 kq l0 a1 x5_1 = some r) ∧ Aside0 (kq ≤ k) ∧ Aside0 (Kd.R (Kd.int .i64) 3 w' w.heap.size (fun _ => True) v5 x5_1) ∧ Aside0 (Below w.heap.size w w'))
 case atStart => exact ⟨(y243), H', ⟨Nat.le_refl _⟩, ⟨by (with_reducible repeat (first | apply zo | apply zp | apply zq)); exact HO245.out⟩, ⟨by repeat (first | (with_reducible first | exact HB.out | apply ze | apply zd | apply zf) | exact HB.out)⟩⟩
 case round =>
  clear H'
  try clear c2
  try clear p2
  obtain ⟨x5_1, HA, HK1, HO_5, HB⟩ := hrel
  cases gk with
  | zero => exact absurd HA.out (by simp [psalteryref12_Channel.l0])
  | succ k1 =>
   have H := HA.out
   clear HA
   simp only [psalteryref12_Channel.l0] at H
   have H' := zm H
   clear H
   go_wp2
   repeat (go_quiet (fail); try go_wp2)
   go_loopg [6, 7, 8] k1 (fun kq v6 v7 v8 w' => ∃ (x6_2 : Int) (x7_2 : Int) (x8_2 : Int), v6 = .int .i64 x6_2 ∧ v7 = .int .i64 x7_2 ∧ v8 = .int .i64 x8_2 ∧ Aside0 (psalteryref12_Channel.l1 kq l0 a1 x5_1 x6_2 x7_2 x8_2 = some r) ∧ Aside0 (kq ≤ k1) ∧ Aside0 (Kd.R (Kd.int .i64) 3 w' w.heap.size (fun _ => True) u5 x5_1) ∧ Aside0 (Below w.heap.size w w'))
   case atStart => exact ⟨((-1)), (0), (0), (by first | rfl | (simp; done) | (simp [*]; done)), (by first | rfl | (simp; done) | (simp [*]; done)), (by first | rfl | (simp; done) | (simp [*]; done)), H', ⟨Nat.le_refl _⟩, ⟨by (with_reducible repeat (first | apply zo | apply zp | apply zq)); exact HO_5.out⟩, ⟨by repeat (first | (with_reducible first | exact HB.out | apply ze | apply zd | apply zf) | exact HB.out)⟩⟩
   case round =>
    clear H'
    try clear c2
    try clear p2
    try clear p2
    obtain ⟨x6_2, x7_2, x8_2, rfl, rfl, rfl, HA, HK2, HO_5, HB⟩ := hrel
    cases gk with
    | zero => exact absurd HA.out (by simp [psalteryref12_Channel.l1])
    | succ k2 =>
     have H := HA.out
     clear HA
     simp only [psalteryref12_Channel.l1] at H
     by_cases c5 : x8_2 < 5
     ·
      rw [if_pos c5] at H
      have c5b0 : decide (x8_2 < 5) = true := decide_eq_true c5
      clear c5
      by_cases c6 : 0 ≤ x8_2
      ·
       rw [if_pos c6] at H
       have c6b0 : decide (0 ≤ x8_2) = true := decide_eq_true c6
       clear c6
       by_cases c7 : x8_2 < (l0.length : Int)
       ·
        rw [if_pos c7] at H
        have c7b0 : decide (x8_2 < (l0.length : Int)) = true := decide_eq_true c7
        clear c7
        by_cases c8 : x8_2 < (x5_1.length : Int)
        ·
         rw [if_pos c8] at H
         have c8b0 : decide (x8_2 < (x5_1.length : Int)) = true := decide_eq_true c8
         clear c8
         replace H := Option.bind_eq_some_iff.mp H
         obtain ⟨t251, A90, H⟩ := H
         replace H : (if t251 = 0 then (none) else ((psalteryref12_May.f k2 l0 x5_1 x8_2 a1).bind fun t252 => (if t252 = true then (if x6_2 < 0 then (psalteryref12_Channel.l1 k2 l0 a1 x5_1 x8_2 (wrap64 ((wrap64 (8 * (rd l0 x8_2))) - (wrap64 (Int.tdiv (wrap64 (16 * (rd x5_1 x8_2))) t251)))) (wrap64 (x8_2 + 1))) else (if (wrap64 ((wrap64 (8 * (rd l0 x8_2))) - (wrap64 (Int.tdiv (wrap64 (16 * (rd x5_1 x8_2))) t251)))) > x7_2 then (psalteryref12_Channel.l1 k2 l0 a1 x5_1 x8_2 (wrap64 ((wrap64 (8 * (rd l0 x8_2))) - (wrap64 (Int.tdiv (wrap64 (16 * (rd x5_1 x8_2))) t251)))) (wrap64 (x8_2 + 1))) else (psalteryref12_Channel.l1 k2 l0 a1 x5_1 x6_2 x7_2 (wrap64 (x8_2 + 1))))) else (psalteryref12_Channel.l1 k2 l0 a1 x5_1 x6_2 x7_2 (wrap64 (x8_2 + 1)))))) = some r := H
         have A9 := zm A90
         clear A90
         by_cases c10 : t251 = 0
         ·
          rw [if_pos c10] at H
          exact absurd H (by simp)
         ·
          rw [if_neg c10] at H
          have c10b0 : (t251 == 0) = false := beq_eq_false_iff_ne.mpr c10
          have c10b1 : (t251 != 0) = true := bne_iff_ne.mpr c10
          replace H := Option.bind_eq_some_iff.mp H
          obtain ⟨t252, A110, H⟩ := H
          replace H : (if t252 = true then (if x6_2 < 0 then (psalteryref12_Channel.l1 k2 l0 a1 x5_1 x8_2 (wrap64 ((wrap64 (8 * (rd l0 x8_2))) - (wrap64 (Int.tdiv (wrap64 (16 * (rd x5_1 x8_2))) t251)))) (wrap64 (x8_2 + 1))) else (if (wrap64 ((wrap64 (8 * (rd l0 x8_2))) - (wrap64 (Int.tdiv (wrap64 (16 * (rd x5_1 x8_2))) t251)))) > x7_2 then (psalteryref12_Channel.l1 k2 l0 a1 x5_1 x8_2 (wrap64 ((wrap64 (8 * (rd l0 x8_2))) - (wrap64 (Int.tdiv (wrap64 (16 * (rd x5_1 x8_2))) t251)))) (wrap64 (x8_2 + 1))) else (psalteryref12_Channel.l1 k2 l0 a1 x5_1 x6_2 x7_2 (wrap64 (x8_2 + 1))))) else (psalteryref12_Channel.l1 k2 l0 a1 x5_1 x6_2 x7_2 (wrap64 (x8_2 + 1)))) = some r := H
          have A11 := zm A110
          clear A110
          by_cases c12 : t252 = true
          ·
           subst c12
           have H1 : (if x6_2 < 0 then (psalteryref12_Channel.l1 k2 l0 a1 x5_1 x8_2 (wrap64 ((wrap64 (8 * (rd l0 x8_2))) - (wrap64 (Int.tdiv (wrap64 (16 * (rd x5_1 x8_2))) t251)))) (wrap64 (x8_2 + 1))) else (if (wrap64 ((wrap64 (8 * (rd l0 x8_2))) - (wrap64 (Int.tdiv (wrap64 (16 * (rd x5_1 x8_2))) t251)))) > x7_2 then (psalteryref12_Channel.l1 k2 l0 a1 x5_1 x8_2 (wrap64 ((wrap64 (8 * (rd l0 x8_2))) - (wrap64 (Int.tdiv (wrap64 (16 * (rd x5_1 x8_2))) t251)))) (wrap64 (x8_2 + 1))) else (psalteryref12_Channel.l1 k2 l0 a1 x5_1 x6_2 x7_2 (wrap64 (x8_2 + 1))))) = some r := by rw [if_pos rfl] at H; exact H
           clear H
           have H := H1
           clear H1
           by_cases c13 : x6_2 < 0
           ·
            rw [if_pos c13] at H
            have c13b0 : decide (x6_2 < 0) = true := decide_eq_true c13
            clear c13
            have H' := zm H
            clear H
            have p249 : 0 ≤ (x8_2 : Int) := of_decide_eq_true (by first | (with_reducible assumption) | assumption)
            have q249 : x8_2 < (l0.length : Int) := of_decide_eq_true (by first | (with_reducible assumption) | assumption)
            obtain ⟨ad249, e249, hx249_0⟩ := Kd.at_int HR0.out x8_2 p249 q249
            cases e249
            replace hx249_0 := (HB.out.cell (zb w _ hx249_0)).trans hx249_0
            replace p249 := eq_true p249
            replace q249 := eq_true q249
            obtain ⟨Ao14, co14, eo14⟩ := Kd.R_slice HO_5.out
            subst eo14
            have p250 : 0 ≤ (x8_2 : Int) := of_decide_eq_true (by first | (with_reducible assumption) | assumption)
            have q250 : x8_2 < (x5_1.length : Int) := of_decide_eq_true (by first | (with_reducible assumption) | assumption)
            obtain ⟨ad250, e250, hx250_0⟩ := Kd.at_int (Kd.R_reads' HO_5.out).2.2 x8_2 p250 q250
            cases e250
            replace p250 := eq_true p250
            replace q250 := eq_true q250
            go_wp2_with (first | (go_at_call 20; (with_reducible refine (psalteryref10_Width.calls k2 x8_2 t251 _ A9.out).mono ?_); rintro e w' ⟨rfl, ⟨nd, rfl⟩⟩; (try first | exact ⟨rfl, _, World.drewN_drewN _ _ _⟩ | exact ⟨rfl, _, Eq.trans (World.drewN_drewN _ _ _) (congrArg (World.drewN _) (Nat.add_assoc _ _ _))⟩)) | (go_at_call 21; (with_reducible refine (psalteryref12_May.calls k2 _ _ l0 _ _ x5_1 x8_2 a1 true _ ?side1 ?side2 ?side3 ?side4 A11.out).mono ?_); (case side1 => repeat (first | exact (Kd.C_below HR0.out (by repeat (first | (with_reducible first | exact HB.out | apply ze | apply zd | apply zf) | exact HB.out))) | (with_reducible refine Kd.C_alloc ?_ _) | (with_reducible refine Kd.C_drewN ?_ _) | (with_reducible refine Kd.C_drew ?_))); (case side2 => exact HC0.out); (case side3 => repeat (first | exact (Kd.R_reads' HO_5.out).2.2 | (with_reducible refine Kd.C_alloc ?_ _) | (with_reducible refine Kd.C_drewN ?_ _) | (with_reducible refine Kd.C_drew ?_))); (case side4 => exact (Kd.R_reads' HO_5.out).2.1); rintro e w15 ⟨rfl, hb⟩; have n0_ := zm (Kd.R_below (by (with_reducible repeat (first | apply zo | apply zp | apply zq)); exact HO_5.out) hb); have n1_ := zm (zJ (by repeat (first | (with_reducible first | exact HB.out | apply ze | apply zd | apply zf) | exact HB.out)) hb); clear HO_5; clear HB; have HO_5 := n0_; have HB := n1_; clear n0_ n1_; (try clear hb); (try clear hb2); (try clear hk); (try clear hi)))
            repeat (go_quiet (first | (go_at_call 20; (with_reducible refine (psalteryref10_Width.calls k2 x8_2 t251 _ A9.out).mono ?_); rintro e w' ⟨rfl, ⟨nd, rfl⟩⟩; (try first | exact ⟨rfl, _, World.drewN_drewN _ _ _⟩ | exact ⟨rfl, _, Eq.trans (World.drewN_drewN _ _ _) (congrArg (World.drewN _) (Nat.add_assoc _ _ _))⟩)) | (go_at_call 21; (with_reducible refine (psalteryref12_May.calls k2 _ _ l0 _ _ x5_1 x8_2 a1 true _ ?side1 ?side2 ?side3 ?side4 A11.out).mono ?_); (case side1 => repeat (first | exact (Kd.C_below HR0.out (by repeat (first | (with_reducible first | exact HB.out | apply ze | apply zd | apply zf) | exact HB.out))) | (with_reducible refine Kd.C_alloc ?_ _) | (with_reducible refine Kd.C_drewN ?_ _) | (with_reducible refine Kd.C_drew ?_))); (case side2 => exact HC0.out); (case side3 => repeat (first | exact (Kd.R_reads' HO_5.out).2.2 | (with_reducible refine Kd.C_alloc ?_ _) | (with_reducible refine Kd.C_drewN ?_ _) | (with_reducible refine Kd.C_drew ?_))); (case side4 => exact (Kd.R_reads' HO_5.out).2.1); rintro e w15 ⟨rfl, hb⟩; have n0_ := zm (Kd.R_below (by (with_reducible repeat (first | apply zo | apply zp | apply zq)); exact HO_5.out) hb); have n1_ := zm (zJ (by repeat (first | (with_reducible first | exact HB.out | apply ze | apply zd | apply zf) | exact HB.out)) hb); clear HO_5; clear HB; have HO_5 := n0_; have HB := n1_; clear n0_ n1_; (try clear hb); (try clear hb2); (try clear hk); (try clear hi))); try go_wp2_with (first | (go_at_call 20; (with_reducible refine (psalteryref10_Width.calls k2 x8_2 t251 _ A9.out).mono ?_); rintro e w' ⟨rfl, ⟨nd, rfl⟩⟩; (try first | exact ⟨rfl, _, World.drewN_drewN _ _ _⟩ | exact ⟨rfl, _, Eq.trans (World.drewN_drewN _ _ _) (congrArg (World.drewN _) (Nat.add_assoc _ _ _))⟩)) | (go_at_call 21; (with_reducible refine (psalteryref12_May.calls k2 _ _ l0 _ _ x5_1 x8_2 a1 true _ ?side1 ?side2 ?side3 ?side4 A11.out).mono ?_); (case side1 => repeat (first | exact (Kd.C_below HR0.out (by repeat (first | (with_reducible first | exact HB.out | apply ze | apply zd | apply zf) | exact HB.out))) | (with_reducible refine Kd.C_alloc ?_ _) | (with_reducible refine Kd.C_drewN ?_ _) | (with_reducible refine Kd.C_drew ?_))); (case side2 => exact HC0.out); (case side3 => repeat (first | exact (Kd.R_reads' HO_5.out).2.2 | (with_reducible refine Kd.C_alloc ?_ _) | (with_reducible refine Kd.C_drewN ?_ _) | (with_reducible refine Kd.C_drew ?_))); (case side4 => exact (Kd.R_reads' HO_5.out).2.1); rintro e w15 ⟨rfl, hb⟩; have n0_ := zm (Kd.R_below (by (with_reducible repeat (first | apply zo | apply zp | apply zq)); exact HO_5.out) hb); have n1_ := zm (zJ (by repeat (first | (with_reducible first | exact HB.out | apply ze | apply zd | apply zf) | exact HB.out)) hb); clear HO_5; clear HB; have HO_5 := n0_; have HB := n1_; clear n0_ n1_; (try clear hb); (try clear hb2); (try clear hk); (try clear hi))))
            go_roundg k2
            case measure => have := HK1.out; have := HK2.out; omega
            case rel => exact ⟨(x8_2), (wrap64 ((wrap64 (8 * (rd l0 x8_2))) - (wrap64 (Int.tdiv (wrap64 (16 * (rd x5_1 x8_2))) t251)))), (wrap64 (x8_2 + 1)), (by first | rfl | (simp; done) | (simp [*]; done)), (by first | rfl | (simp; done) | (simp [*]; done)), (by first | rfl | (simp; done) | (simp [*]; done)), H', ⟨by have := HK1.out; have := HK2.out; omega⟩, ⟨by (with_reducible repeat (first | apply zo | apply zp | apply zq)); exact HO_5.out⟩, ⟨by repeat (first | (with_reducible first | exact HB.out | apply ze | apply zd | apply zf) | exact HB.out)⟩⟩
           ·
            rw [if_neg c13] at H
            have c13b0 : decide (x6_2 < 0) = false := decide_eq_false c13
            clear c13
            by_cases c16 : (wrap64 ((wrap64 (8 * (rd l0 x8_2))) - (wrap64 (Int.tdiv (wrap64 (16 * (rd x5_1 x8_2))) t251)))) > x7_2
            ·
             rw [if_pos c16] at H
             have c16b0 : decide (x7_2 < (wrap64 ((wrap64 (8 * (rd l0 x8_2))) - (wrap64 (Int.tdiv (wrap64 (16 * (rd x5_1 x8_2))) t251))))) = true := decide_eq_true c16
             clear c16
             have H' := zm H
             clear H
             have p249 : 0 ≤ (x8_2 : Int) := of_decide_eq_true (by first | (with_reducible assumption) | assumption)
             have q249 : x8_2 < (l0.length : Int) := of_decide_eq_true (by first | (with_reducible assumption) | assumption)
             obtain ⟨ad249, e249, hx249_0⟩ := Kd.at_int HR0.out x8_2 p249 q249
             cases e249
             replace hx249_0 := (HB.out.cell (zb w _ hx249_0)).trans hx249_0
             replace p249 := eq_true p249
             replace q249 := eq_true q249
             obtain ⟨Ao17, co17, eo17⟩ := Kd.R_slice HO_5.out
             subst eo17
             have p250 : 0 ≤ (x8_2 : Int) := of_decide_eq_true (by first | (with_reducible assumption) | assumption)
             have q250 : x8_2 < (x5_1.length : Int) := of_decide_eq_true (by first | (with_reducible assumption) | assumption)
             obtain ⟨ad250, e250, hx250_0⟩ := Kd.at_int (Kd.R_reads' HO_5.out).2.2 x8_2 p250 q250
             cases e250
             replace p250 := eq_true p250
             replace q250 := eq_true q250
             go_wp2_with (first | (go_at_call 20; (with_reducible refine (psalteryref10_Width.calls k2 x8_2 t251 _ A9.out).mono ?_); rintro e w' ⟨rfl, ⟨nd, rfl⟩⟩; (try first | exact ⟨rfl, _, World.drewN_drewN _ _ _⟩ | exact ⟨rfl, _, Eq.trans (World.drewN_drewN _ _ _) (congrArg (World.drewN _) (Nat.add_assoc _ _ _))⟩)) | (go_at_call 21; (with_reducible refine (psalteryref12_May.calls k2 _ _ l0 _ _ x5_1 x8_2 a1 true _ ?side1 ?side2 ?side3 ?side4 A11.out).mono ?_); (case side1 => repeat (first | exact (Kd.C_below HR0.out (by repeat (first | (with_reducible first | exact HB.out | apply ze | apply zd | apply zf) | exact HB.out))) | (with_reducible refine Kd.C_alloc ?_ _) | (with_reducible refine Kd.C_drewN ?_ _) | (with_reducible refine Kd.C_drew ?_))); (case side2 => exact HC0.out); (case side3 => repeat (first | exact (Kd.R_reads' HO_5.out).2.2 | (with_reducible refine Kd.C_alloc ?_ _) | (with_reducible refine Kd.C_drewN ?_ _) | (with_reducible refine Kd.C_drew ?_))); (case side4 => exact (Kd.R_reads' HO_5.out).2.1); rintro e w18 ⟨rfl, hb⟩; have n0_ := zm (Kd.R_below (by (with_reducible repeat (first | apply zo | apply zp | apply zq)); exact HO_5.out) hb); have n1_ := zm (zJ (by repeat (first | (with_reducible first | exact HB.out | apply ze | apply zd | apply zf) | exact HB.out)) hb); clear HO_5; clear HB; have HO_5 := n0_; have HB := n1_; clear n0_ n1_; (try clear hb); (try clear hb2); (try clear hk); (try clear hi)))
             repeat (go_quiet (first | (go_at_call 20; (with_reducible refine (psalteryref10_Width.calls k2 x8_2 t251 _ A9.out).mono ?_); rintro e w' ⟨rfl, ⟨nd, rfl⟩⟩; (try first | exact ⟨rfl, _, World.drewN_drewN _ _ _⟩ | exact ⟨rfl, _, Eq.trans (World.drewN_drewN _ _ _) (congrArg (World.drewN _) (Nat.add_assoc _ _ _))⟩)) | (go_at_call 21; (with_reducible refine (psalteryref12_May.calls k2 _ _ l0 _ _ x5_1 x8_2 a1 true _ ?side1 ?side2 ?side3 ?side4 A11.out).mono ?_); (case side1 => repeat (first | exact (Kd.C_below HR0.out (by repeat (first | (with_reducible first | exact HB.out | apply ze | apply zd | apply zf) | exact HB.out))) | (with_reducible refine Kd.C_alloc ?_ _) | (with_reducible refine Kd.C_drewN ?_ _) | (with_reducible refine Kd.C_drew ?_))); (case side2 => exact HC0.out); (case side3 => repeat (first | exact (Kd.R_reads' HO_5.out).2.2 | (with_reducible refine Kd.C_alloc ?_ _) | (with_reducible refine Kd.C_drewN ?_ _) | (with_reducible refine Kd.C_drew ?_))); (case side4 => exact (Kd.R_reads' HO_5.out).2.1); rintro e w18 ⟨rfl, hb⟩; have n0_ := zm (Kd.R_below (by (with_reducible repeat (first | apply zo | apply zp | apply zq)); exact HO_5.out) hb); have n1_ := zm (zJ (by repeat (first | (with_reducible first | exact HB.out | apply ze | apply zd | apply zf) | exact HB.out)) hb); clear HO_5; clear HB; have HO_5 := n0_; have HB := n1_; clear n0_ n1_; (try clear hb); (try clear hb2); (try clear hk); (try clear hi))); try go_wp2_with (first | (go_at_call 20; (with_reducible refine (psalteryref10_Width.calls k2 x8_2 t251 _ A9.out).mono ?_); rintro e w' ⟨rfl, ⟨nd, rfl⟩⟩; (try first | exact ⟨rfl, _, World.drewN_drewN _ _ _⟩ | exact ⟨rfl, _, Eq.trans (World.drewN_drewN _ _ _) (congrArg (World.drewN _) (Nat.add_assoc _ _ _))⟩)) | (go_at_call 21; (with_reducible refine (psalteryref12_May.calls k2 _ _ l0 _ _ x5_1 x8_2 a1 true _ ?side1 ?side2 ?side3 ?side4 A11.out).mono ?_); (case side1 => repeat (first | exact (Kd.C_below HR0.out (by repeat (first | (with_reducible first | exact HB.out | apply ze | apply zd | apply zf) | exact HB.out))) | (with_reducible refine Kd.C_alloc ?_ _) | (with_reducible refine Kd.C_drewN ?_ _) | (with_reducible refine Kd.C_drew ?_))); (case side2 => exact HC0.out); (case side3 => repeat (first | exact (Kd.R_reads' HO_5.out).2.2 | (with_reducible refine Kd.C_alloc ?_ _) | (with_reducible refine Kd.C_drewN ?_ _) | (with_reducible refine Kd.C_drew ?_))); (case side4 => exact (Kd.R_reads' HO_5.out).2.1); rintro e w18 ⟨rfl, hb⟩; have n0_ := zm (Kd.R_below (by (with_reducible repeat (first | apply zo | apply zp | apply zq)); exact HO_5.out) hb); have n1_ := zm (zJ (by repeat (first | (with_reducible first | exact HB.out | apply ze | apply zd | apply zf) | exact HB.out)) hb); clear HO_5; clear HB; have HO_5 := n0_; have HB := n1_; clear n0_ n1_; (try clear hb); (try clear hb2); (try clear hk); (try clear hi))))
             go_roundg k2
             case measure => have := HK1.out; have := HK2.out; omega
             case rel => exact ⟨(x8_2), (wrap64 ((wrap64 (8 * (rd l0 x8_2))) - (wrap64 (Int.tdiv (wrap64 (16 * (rd x5_1 x8_2))) t251)))), (wrap64 (x8_2 + 1)), (by first | rfl | (simp; done) | (simp [*]; done)), (by first | rfl | (simp; done) | (simp [*]; done)), (by first | rfl | (simp; done) | (simp [*]; done)), H', ⟨by have := HK1.out; have := HK2.out; omega⟩, ⟨by (with_reducible repeat (first | apply zo | apply zp | apply zq)); exact HO_5.out⟩, ⟨by repeat (first | (with_reducible first | exact HB.out | apply ze | apply zd | apply zf) | exact HB.out)⟩⟩
            ·
             rw [if_neg c16] at H
             have c16b0 : decide (x7_2 < (wrap64 ((wrap64 (8 * (rd l0 x8_2))) - (wrap64 (Int.tdiv (wrap64 (16 * (rd x5_1 x8_2))) t251))))) = false := decide_eq_false c16
             clear c16
             have H' := zm H
             clear H
             have p249 : 0 ≤ (x8_2 : Int) := of_decide_eq_true (by first | (with_reducible assumption) | assumption)
             have q249 : x8_2 < (l0.length : Int) := of_decide_eq_true (by first | (with_reducible assumption) | assumption)
             obtain ⟨ad249, e249, hx249_0⟩ := Kd.at_int HR0.out x8_2 p249 q249
             cases e249
             replace hx249_0 := (HB.out.cell (zb w _ hx249_0)).trans hx249_0
             replace p249 := eq_true p249
             replace q249 := eq_true q249
             obtain ⟨Ao19, co19, eo19⟩ := Kd.R_slice HO_5.out
             subst eo19
             have p250 : 0 ≤ (x8_2 : Int) := of_decide_eq_true (by first | (with_reducible assumption) | assumption)
             have q250 : x8_2 < (x5_1.length : Int) := of_decide_eq_true (by first | (with_reducible assumption) | assumption)
             obtain ⟨ad250, e250, hx250_0⟩ := Kd.at_int (Kd.R_reads' HO_5.out).2.2 x8_2 p250 q250
             cases e250
             replace p250 := eq_true p250
             replace q250 := eq_true q250
             go_wp2_with (first | (go_at_call 20; (with_reducible refine (psalteryref10_Width.calls k2 x8_2 t251 _ A9.out).mono ?_); rintro e w' ⟨rfl, ⟨nd, rfl⟩⟩; (try first | exact ⟨rfl, _, World.drewN_drewN _ _ _⟩ | exact ⟨rfl, _, Eq.trans (World.drewN_drewN _ _ _) (congrArg (World.drewN _) (Nat.add_assoc _ _ _))⟩)) | (go_at_call 21; (with_reducible refine (psalteryref12_May.calls k2 _ _ l0 _ _ x5_1 x8_2 a1 true _ ?side1 ?side2 ?side3 ?side4 A11.out).mono ?_); (case side1 => repeat (first | exact (Kd.C_below HR0.out (by repeat (first | (with_reducible first | exact HB.out | apply ze | apply zd | apply zf) | exact HB.out))) | (with_reducible refine Kd.C_alloc ?_ _) | (with_reducible refine Kd.C_drewN ?_ _) | (with_reducible refine Kd.C_drew ?_))); (case side2 => exact HC0.out); (case side3 => repeat (first | exact (Kd.R_reads' HO_5.out).2.2 | (with_reducible refine Kd.C_alloc ?_ _) | (with_reducible refine Kd.C_drewN ?_ _) | (with_reducible refine Kd.C_drew ?_))); (case side4 => exact (Kd.R_reads' HO_5.out).2.1); rintro e w20 ⟨rfl, hb⟩; have n0_ := zm (Kd.R_below (by (with_reducible repeat (first | apply zo | apply zp | apply zq)); exact HO_5.out) hb); have n1_ := zm (zJ (by repeat (first | (with_reducible first | exact HB.out | apply ze | apply zd | apply zf) | exact HB.out)) hb); clear HO_5; clear HB; have HO_5 := n0_; have HB := n1_; clear n0_ n1_; (try clear hb); (try clear hb2); (try clear hk); (try clear hi)))
             repeat (go_quiet (first | (go_at_call 20; (with_reducible refine (psalteryref10_Width.calls k2 x8_2 t251 _ A9.out).mono ?_); rintro e w' ⟨rfl, ⟨nd, rfl⟩⟩; (try first | exact ⟨rfl, _, World.drewN_drewN _ _ _⟩ | exact ⟨rfl, _, Eq.trans (World.drewN_drewN _ _ _) (congrArg (World.drewN _) (Nat.add_assoc _ _ _))⟩)) | (go_at_call 21; (with_reducible refine (psalteryref12_May.calls k2 _ _ l0 _ _ x5_1 x8_2 a1 true _ ?side1 ?side2 ?side3 ?side4 A11.out).mono ?_); (case side1 => repeat (first | exact (Kd.C_below HR0.out (by repeat (first | (with_reducible first | exact HB.out | apply ze | apply zd | apply zf) | exact HB.out))) | (with_reducible refine Kd.C_alloc ?_ _) | (with_reducible refine Kd.C_drewN ?_ _) | (with_reducible refine Kd.C_drew ?_))); (case side2 => exact HC0.out); (case side3 => repeat (first | exact (Kd.R_reads' HO_5.out).2.2 | (with_reducible refine Kd.C_alloc ?_ _) | (with_reducible refine Kd.C_drewN ?_ _) | (with_reducible refine Kd.C_drew ?_))); (case side4 => exact (Kd.R_reads' HO_5.out).2.1); rintro e w20 ⟨rfl, hb⟩; have n0_ := zm (Kd.R_below (by (with_reducible repeat (first | apply zo | apply zp | apply zq)); exact HO_5.out) hb); have n1_ := zm (zJ (by repeat (first | (with_reducible first | exact HB.out | apply ze | apply zd | apply zf) | exact HB.out)) hb); clear HO_5; clear HB; have HO_5 := n0_; have HB := n1_; clear n0_ n1_; (try clear hb); (try clear hb2); (try clear hk); (try clear hi))); try go_wp2_with (first | (go_at_call 20; (with_reducible refine (psalteryref10_Width.calls k2 x8_2 t251 _ A9.out).mono ?_); rintro e w' ⟨rfl, ⟨nd, rfl⟩⟩; (try first | exact ⟨rfl, _, World.drewN_drewN _ _ _⟩ | exact ⟨rfl, _, Eq.trans (World.drewN_drewN _ _ _) (congrArg (World.drewN _) (Nat.add_assoc _ _ _))⟩)) | (go_at_call 21; (with_reducible refine (psalteryref12_May.calls k2 _ _ l0 _ _ x5_1 x8_2 a1 true _ ?side1 ?side2 ?side3 ?side4 A11.out).mono ?_); (case side1 => repeat (first | exact (Kd.C_below HR0.out (by repeat (first | (with_reducible first | exact HB.out | apply ze | apply zd | apply zf) | exact HB.out))) | (with_reducible refine Kd.C_alloc ?_ _) | (with_reducible refine Kd.C_drewN ?_ _) | (with_reducible refine Kd.C_drew ?_))); (case side2 => exact HC0.out); (case side3 => repeat (first | exact (Kd.R_reads' HO_5.out).2.2 | (with_reducible refine Kd.C_alloc ?_ _) | (with_reducible refine Kd.C_drewN ?_ _) | (with_reducible refine Kd.C_drew ?_))); (case side4 => exact (Kd.R_reads' HO_5.out).2.1); rintro e w20 ⟨rfl, hb⟩; have n0_ := zm (Kd.R_below (by (with_reducible repeat (first | apply zo | apply zp | apply zq)); exact HO_5.out) hb); have n1_ := zm (zJ (by repeat (first | (with_reducible first | exact HB.out | apply ze | apply zd | apply zf) | exact HB.out)) hb); clear HO_5; clear HB; have HO_5 := n0_; have HB := n1_; clear n0_ n1_; (try clear hb); (try clear hb2); (try clear hk); (try clear hi))))
             go_roundg k2
             case measure => have := HK1.out; have := HK2.out; omega
             case rel => exact ⟨(x6_2), (x7_2), (wrap64 (x8_2 + 1)), (by first | rfl | (simp; done) | (simp [*]; done)), (by first | rfl | (simp; done) | (simp [*]; done)), (by first | rfl | (simp; done) | (simp [*]; done)), H', ⟨by have := HK1.out; have := HK2.out; omega⟩, ⟨by (with_reducible repeat (first | apply zo | apply zp | apply zq)); exact HO_5.out⟩, ⟨by repeat (first | (with_reducible first | exact HB.out | apply ze | apply zd | apply zf) | exact HB.out)⟩⟩
          ·
           replace c12 := Bool.eq_false_iff.mpr c12
           subst c12
           have H1 : (psalteryref12_Channel.l1 k2 l0 a1 x5_1 x6_2 x7_2 (wrap64 (x8_2 + 1))) = some r := by rw [if_neg (show ¬ (false = true) by decide)] at H; exact H
           clear H
           have H := H1
           clear H1
           have H' := zm H
           clear H
           have p249 : 0 ≤ (x8_2 : Int) := of_decide_eq_true (by first | (with_reducible assumption) | assumption)
           have q249 : x8_2 < (l0.length : Int) := of_decide_eq_true (by first | (with_reducible assumption) | assumption)
           obtain ⟨ad249, e249, hx249_0⟩ := Kd.at_int HR0.out x8_2 p249 q249
           cases e249
           replace hx249_0 := (HB.out.cell (zb w _ hx249_0)).trans hx249_0
           replace p249 := eq_true p249
           replace q249 := eq_true q249
           obtain ⟨Ao21, co21, eo21⟩ := Kd.R_slice HO_5.out
           subst eo21
           have p250 : 0 ≤ (x8_2 : Int) := of_decide_eq_true (by first | (with_reducible assumption) | assumption)
           have q250 : x8_2 < (x5_1.length : Int) := of_decide_eq_true (by first | (with_reducible assumption) | assumption)
           obtain ⟨ad250, e250, hx250_0⟩ := Kd.at_int (Kd.R_reads' HO_5.out).2.2 x8_2 p250 q250
           cases e250
           replace p250 := eq_true p250
           replace q250 := eq_true q250
           go_wp2_with (first | (go_at_call 20; (with_reducible refine (psalteryref10_Width.calls k2 x8_2 t251 _ A9.out).mono ?_); rintro e w' ⟨rfl, ⟨nd, rfl⟩⟩; (try first | exact ⟨rfl, _, World.drewN_drewN _ _ _⟩ | exact ⟨rfl, _, Eq.trans (World.drewN_drewN _ _ _) (congrArg (World.drewN _) (Nat.add_assoc _ _ _))⟩)) | (go_at_call 21; (with_reducible refine (psalteryref12_May.calls k2 _ _ l0 _ _ x5_1 x8_2 a1 false _ ?side1 ?side2 ?side3 ?side4 A11.out).mono ?_); (case side1 => repeat (first | exact (Kd.C_below HR0.out (by repeat (first | (with_reducible first | exact HB.out | apply ze | apply zd | apply zf) | exact HB.out))) | (with_reducible refine Kd.C_alloc ?_ _) | (with_reducible refine Kd.C_drewN ?_ _) | (with_reducible refine Kd.C_drew ?_))); (case side2 => exact HC0.out); (case side3 => repeat (first | exact (Kd.R_reads' HO_5.out).2.2 | (with_reducible refine Kd.C_alloc ?_ _) | (with_reducible refine Kd.C_drewN ?_ _) | (with_reducible refine Kd.C_drew ?_))); (case side4 => exact (Kd.R_reads' HO_5.out).2.1); rintro e w22 ⟨rfl, hb⟩; have n0_ := zm (Kd.R_below (by (with_reducible repeat (first | apply zo | apply zp | apply zq)); exact HO_5.out) hb); have n1_ := zm (zJ (by repeat (first | (with_reducible first | exact HB.out | apply ze | apply zd | apply zf) | exact HB.out)) hb); clear HO_5; clear HB; have HO_5 := n0_; have HB := n1_; clear n0_ n1_; (try clear hb); (try clear hb2); (try clear hk); (try clear hi)))
           repeat (go_quiet (first | (go_at_call 20; (with_reducible refine (psalteryref10_Width.calls k2 x8_2 t251 _ A9.out).mono ?_); rintro e w' ⟨rfl, ⟨nd, rfl⟩⟩; (try first | exact ⟨rfl, _, World.drewN_drewN _ _ _⟩ | exact ⟨rfl, _, Eq.trans (World.drewN_drewN _ _ _) (congrArg (World.drewN _) (Nat.add_assoc _ _ _))⟩)) | (go_at_call 21; (with_reducible refine (psalteryref12_May.calls k2 _ _ l0 _ _ x5_1 x8_2 a1 false _ ?side1 ?side2 ?side3 ?side4 A11.out).mono ?_); (case side1 => repeat (first | exact (Kd.C_below HR0.out (by repeat (first | (with_reducible first | exact HB.out | apply ze | apply zd | apply zf) | exact HB.out))) | (with_reducible refine Kd.C_alloc ?_ _) | (with_reducible refine Kd.C_drewN ?_ _) | (with_reducible refine Kd.C_drew ?_))); (case side2 => exact HC0.out); (case side3 => repeat (first | exact (Kd.R_reads' HO_5.out).2.2 | (with_reducible refine Kd.C_alloc ?_ _) | (with_reducible refine Kd.C_drewN ?_ _) | (with_reducible refine Kd.C_drew ?_))); (case side4 => exact (Kd.R_reads' HO_5.out).2.1); rintro e w22 ⟨rfl, hb⟩; have n0_ := zm (Kd.R_below (by (with_reducible repeat (first | apply zo | apply zp | apply zq)); exact HO_5.out) hb); have n1_ := zm (zJ (by repeat (first | (with_reducible first | exact HB.out | apply ze | apply zd | apply zf) | exact HB.out)) hb); clear HO_5; clear HB; have HO_5 := n0_; have HB := n1_; clear n0_ n1_; (try clear hb); (try clear hb2); (try clear hk); (try clear hi))); try go_wp2_with (first | (go_at_call 20; (with_reducible refine (psalteryref10_Width.calls k2 x8_2 t251 _ A9.out).mono ?_); rintro e w' ⟨rfl, ⟨nd, rfl⟩⟩; (try first | exact ⟨rfl, _, World.drewN_drewN _ _ _⟩ | exact ⟨rfl, _, Eq.trans (World.drewN_drewN _ _ _) (congrArg (World.drewN _) (Nat.add_assoc _ _ _))⟩)) | (go_at_call 21; (with_reducible refine (psalteryref12_May.calls k2 _ _ l0 _ _ x5_1 x8_2 a1 false _ ?side1 ?side2 ?side3 ?side4 A11.out).mono ?_); (case side1 => repeat (first | exact (Kd.C_below HR0.out (by repeat (first | (with_reducible first | exact HB.out | apply ze | apply zd | apply zf) | exact HB.out))) | (with_reducible refine Kd.C_alloc ?_ _) | (with_reducible refine Kd.C_drewN ?_ _) | (with_reducible refine Kd.C_drew ?_))); (case side2 => exact HC0.out); (case side3 => repeat (first | exact (Kd.R_reads' HO_5.out).2.2 | (with_reducible refine Kd.C_alloc ?_ _) | (with_reducible refine Kd.C_drewN ?_ _) | (with_reducible refine Kd.C_drew ?_))); (case side4 => exact (Kd.R_reads' HO_5.out).2.1); rintro e w22 ⟨rfl, hb⟩; have n0_ := zm (Kd.R_below (by (with_reducible repeat (first | apply zo | apply zp | apply zq)); exact HO_5.out) hb); have n1_ := zm (zJ (by repeat (first | (with_reducible first | exact HB.out | apply ze | apply zd | apply zf) | exact HB.out)) hb); clear HO_5; clear HB; have HO_5 := n0_; have HB := n1_; clear n0_ n1_; (try clear hb); (try clear hb2); (try clear hk); (try clear hi))))
           go_roundg k2
           case measure => have := HK1.out; have := HK2.out; omega
           case rel => exact ⟨(x6_2), (x7_2), (wrap64 (x8_2 + 1)), (by first | rfl | (simp; done) | (simp [*]; done)), (by first | rfl | (simp; done) | (simp [*]; done)), (by first | rfl | (simp; done) | (simp [*]; done)), H', ⟨by have := HK1.out; have := HK2.out; omega⟩, ⟨by (with_reducible repeat (first | apply zo | apply zp | apply zq)); exact HO_5.out⟩, ⟨by repeat (first | (with_reducible first | exact HB.out | apply ze | apply zd | apply zf) | exact HB.out)⟩⟩
        ·
         rw [if_neg c8] at H
         exact absurd H (by simp)
       ·
        rw [if_neg c7] at H
        exact absurd H (by simp)
      ·
       rw [if_neg c6] at H
       exact absurd H (by simp)
     ·
      rw [if_neg c5] at H
      have c5b0 : decide (x8_2 < 5) = false := decide_eq_false c5
      clear c5
      by_cases c23 : x6_2 < 0
      ·
       rw [if_pos c23] at H
       have c23b0 : decide (x6_2 < 0) = true := decide_eq_true c23
       clear c23
       obtain rfl := Option.some.inj H
       go_wp2
       repeat (go_quiet (fail); try go_wp2)
       go_ret
       exact ⟨_, by first | rfl | (simp [errW_none, errW_some] <;> rfl) | (simp [*, errW_none, errW_some] <;> rfl), by (with_reducible repeat (first | apply zo | apply zp | apply zq)); exact HO_5.out, by repeat (first | (with_reducible first | exact HB.out | apply ze | apply zd | apply zf) | exact HB.out)⟩
      ·
       rw [if_neg c23] at H
       have c23b0 : decide (x6_2 < 0) = false := decide_eq_false c23
       clear c23
       replace H := Option.bind_eq_some_iff.mp H
       obtain ⟨t246, A240, H⟩ := H
       replace H : (psalteryref12_Channel.l0 k2 l0 a1 t246) = some r := H
       have A24 := zm A240
       clear A240
       have H' := zm H
       clear H
       obtain ⟨Ao25, co25, eo25⟩ := Kd.R_slice HO_5.out
       subst eo25
       go_wp2_with (first | (go_at_call 30; (with_reducible refine (psalteryref12_More.calls _ _ x5_1 x6_2 t246 _ ?side1 ?side2 A24.out).mono ?_); (case side1 => repeat (first | exact (Kd.R_reads' HO_5.out).2.2 | (with_reducible refine Kd.C_alloc ?_ _) | (with_reducible refine Kd.C_drewN ?_ _) | (with_reducible refine Kd.C_drew ?_))); (case side2 => exact (Kd.R_reads' HO_5.out).2.1); rintro e w26 ⟨v247, rfl, ho0, hb⟩; have n0_ := zm (Kd.R_elder' (by (with_reducible repeat (first | apply zo | apply zp | apply zq)); exact HO_5.out) (Kd.R_base ho0) hb); have n1_ := zm (Kd.R_lower (Kd.R_new' ho0 (Kd.R_lt (by (with_reducible repeat (first | apply zo | apply zp | apply zq)); exact HO_5.out))) (zE (by repeat (first | (with_reducible first | exact HB.out | apply ze | apply zd | apply zf) | exact HB.out)))); have n2_ := zm (zJ (by repeat (first | (with_reducible first | exact HB.out | apply ze | apply zd | apply zf) | exact HB.out)) hb); clear HO_5; clear HB; have HO_5 := n0_; have HO248 := n1_; have HB := n2_; clear n0_ n1_ n2_; (try clear hb); (try clear hb2); (try clear hk); (try clear hi); (try clear ho0)))
       repeat (go_quiet (first | (go_at_call 30; (with_reducible refine (psalteryref12_More.calls _ _ x5_1 x6_2 t246 _ ?side1 ?side2 A24.out).mono ?_); (case side1 => repeat (first | exact (Kd.R_reads' HO_5.out).2.2 | (with_reducible refine Kd.C_alloc ?_ _) | (with_reducible refine Kd.C_drewN ?_ _) | (with_reducible refine Kd.C_drew ?_))); (case side2 => exact (Kd.R_reads' HO_5.out).2.1); rintro e w26 ⟨v247, rfl, ho0, hb⟩; have n0_ := zm (Kd.R_elder' (by (with_reducible repeat (first | apply zo | apply zp | apply zq)); exact HO_5.out) (Kd.R_base ho0) hb); have n1_ := zm (Kd.R_lower (Kd.R_new' ho0 (Kd.R_lt (by (with_reducible repeat (first | apply zo | apply zp | apply zq)); exact HO_5.out))) (zE (by repeat (first | (with_reducible first | exact HB.out | apply ze | apply zd | apply zf) | exact HB.out)))); have n2_ := zm (zJ (by repeat (first | (with_reducible first | exact HB.out | apply ze | apply zd | apply zf) | exact HB.out)) hb); clear HO_5; clear HB; have HO_5 := n0_; have HO248 := n1_; have HB := n2_; clear n0_ n1_ n2_; (try clear hb); (try clear hb2); (try clear hk); (try clear hi); (try clear ho0))); try go_wp2_with (first | (go_at_call 30; (with_reducible refine (psalteryref12_More.calls _ _ x5_1 x6_2 t246 _ ?side1 ?side2 A24.out).mono ?_); (case side1 => repeat (first | exact (Kd.R_reads' HO_5.out).2.2 | (with_reducible refine Kd.C_alloc ?_ _) | (with_reducible refine Kd.C_drewN ?_ _) | (with_reducible refine Kd.C_drew ?_))); (case side2 => exact (Kd.R_reads' HO_5.out).2.1); rintro e w26 ⟨v247, rfl, ho0, hb⟩; have n0_ := zm (Kd.R_elder' (by (with_reducible repeat (first | apply zo | apply zp | apply zq)); exact HO_5.out) (Kd.R_base ho0) hb); have n1_ := zm (Kd.R_lower (Kd.R_new' ho0 (Kd.R_lt (by (with_reducible repeat (first | apply zo | apply zp | apply zq)); exact HO_5.out))) (zE (by repeat (first | (with_reducible first | exact HB.out | apply ze | apply zd | apply zf) | exact HB.out)))); have n2_ := zm (zJ (by repeat (first | (with_reducible first | exact HB.out | apply ze | apply zd | apply zf) | exact HB.out)) hb); clear HO_5; clear HB; have HO_5 := n0_; have HO248 := n1_; have HB := n2_; clear n0_ n1_ n2_; (try clear hb); (try clear hb2); (try clear hk); (try clear hi); (try clear ho0))))
       go_roundg k2
       case measure => have := HK1.out; have := HK2.out; omega
       case rel => exact ⟨(t246), H', ⟨by have := HK1.out; have := HK2.out; omega⟩, ⟨by (with_reducible repeat (first | apply zo | apply zp | apply zq)); exact zG HO248.out (fun _ hk => trivial)⟩, ⟨by repeat (first | (with_reducible first | exact HB.out | apply ze | apply zd | apply zf) | exact HB.out)⟩⟩

end Go.Proofs.Ytbaaedpjaanjnaa.Prt
