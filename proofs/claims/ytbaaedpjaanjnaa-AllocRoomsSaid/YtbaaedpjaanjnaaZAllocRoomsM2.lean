-- Functions of the program and of the document as plain Lean, each with the proof that the code comes to it. Written by a program of this session (wip/tools/myprint.py, pack.py) over the kit's printer; Lean checks it.
import Derived.Test.YtbaaedpjaanjnaaZAllocRoomsPrt0
import Derived.Test.YtbaaedpjaanjnaaZAllocRoomsM1
namespace Go.Proofs.Ytbaaedpjaanjnaa.Prt
open Go.RowKit Go.Proofs.YtbaaedpjaanjnaaW.PrintWords Go.Proofs.YtbaaedpjaanjnaaW.PrintLast Go.Proofs.YtbaaedpjaanjnaaW.PrintMore
attribute [local go_sem] max2_int min2_int max_two min_two max_three min_three max_four min_four   -- for this text's walks alone
set_option linter.unusedVariables false
set_option linter.unusedSimpArgs false

/-! ### psalterylaw12_knows: function 13 -/
def psalterylaw12_knows.f (k : Nat)  : Option (Bool) := (alloc_Pulses.f k 11 1 (([(([9, 0, 0, 0, 0] : List Int))] : List (List Int)))).bind fun bt164 => ((alloc_Pulses.f k 11 1 (([(([0, 0, 9, 0, 0] : List Int))] : List (List Int)))).bind fun bt174 => ((alloc_Room.f 11 1).bind fun t178 => (if t178 = 2 then ((psalteryref12_Same.f k bt164.1 (([(([1, 0, 0, 0, 0] : List Int))] : List (List Int)))).bind fun t185 => (if t185 = true then (if bt164.2 = 0 then ((psalteryref12_Same.f k bt174.1 (([(([0, 0, 1, 0, 0] : List Int))] : List (List Int)))).bind fun t192 => (if t192 = true then (if bt174.2 = 0 then ((alloc_Right.f 17 2).bind fun t193 => (if t193 = true then ((alloc_Right.f 16 2).bind fun t194 => (some (!t194))) else (none))) else (none)) else (none))) else (none)) else (none))) else (none))))
theorem psalterylaw12_knows.mono : ∀ k, LeO (psalterylaw12_knows.f k ) (psalterylaw12_knows.f (k + 1) ) := by
 intro  k
 unfold psalterylaw12_knows.f
 repeat' first
   | (with_reducible exact alloc_Pulses.mono _ _ _ _)
   | (with_reducible exact psalteryref12_Same.mono _ _ _)
   | (with_reducible exact LeO.refl _)
   | (with_reducible exact LeO.none _)
   | (with_reducible refine LeO.ite ?_ ?_)
   | (with_reducible refine LeO.bind ?_ (fun _ => ?_))
   | exact alloc_Pulses.mono _ _ _ _
   | exact psalteryref12_Same.mono _ _ _
   | exact LeO.none _
   | refine LeO.ite ?_ ?_
   | refine LeO.bind ?_ (fun _ => ?_)
set_option maxHeartbeats 8000000 in
set_option maxRecDepth 100000 in
theorem psalterylaw12_knows.calls (k : Nat)  (r : Bool) (w : World) (h : psalterylaw12_knows.f k  = some r) :
  Calls Try.prog 13 #[] w fun e w' => e = .returned (.bool r) ∧ Below w.heap.size w w' := by
 have HB := zm (Below.refl w.heap.size w)
 have H : ((alloc_Pulses.f k 11 1 (([(([9, 0, 0, 0, 0] : List Int))] : List (List Int)))).bind fun bt164 => ((alloc_Pulses.f k 11 1 (([(([0, 0, 9, 0, 0] : List Int))] : List (List Int)))).bind fun bt174 => ((alloc_Room.f 11 1).bind fun t178 => (if t178 = 2 then ((psalteryref12_Same.f k bt164.1 (([(([1, 0, 0, 0, 0] : List Int))] : List (List Int)))).bind fun t185 => (if t185 = true then (if bt164.2 = 0 then ((psalteryref12_Same.f k bt174.1 (([(([0, 0, 1, 0, 0] : List Int))] : List (List Int)))).bind fun t192 => (if t192 = true then (if bt174.2 = 0 then ((alloc_Right.f 17 2).bind fun t193 => (if t193 = true then ((alloc_Right.f 16 2).bind fun t194 => (some (!t194))) else (none))) else (none)) else (none))) else (none)) else (none))) else (none))))) = some r := h
 clear h
 obtain ⟨y158, hy158⟩ : ∃ y_ : List Int, y_ = (([9, 0, 0, 0, 0] : List Int)) := ⟨_, rfl⟩
 replace H : ((alloc_Pulses.f k 11 1 (([y158] : List (List Int)))).bind fun bt164 => ((alloc_Pulses.f k 11 1 (([(([0, 0, 9, 0, 0] : List Int))] : List (List Int)))).bind fun bt174 => ((alloc_Room.f 11 1).bind fun t178 => (if t178 = 2 then ((psalteryref12_Same.f k bt164.1 (([(([1, 0, 0, 0, 0] : List Int))] : List (List Int)))).bind fun t185 => (if t185 = true then (if bt164.2 = 0 then ((psalteryref12_Same.f k bt174.1 (([(([0, 0, 1, 0, 0] : List Int))] : List (List Int)))).bind fun t192 => (if t192 = true then (if bt174.2 = 0 then ((alloc_Right.f 17 2).bind fun t193 => (if t193 = true then ((alloc_Right.f 16 2).bind fun t194 => (some (!t194))) else (none))) else (none)) else (none))) else (none)) else (none))) else (none))))) = some r := by first | (rw [hy158]; with_reducible exact H) | (have H2_ := (Option.bind_some _ _).symm.trans H; rw [hy158]; with_reducible exact H2_) | (have H2_ := (Option.bind_some _ _).symm.trans H; with_reducible exact H2_) | with_reducible exact H | (rw [hy158]; exact H) | exact H
 have Ny158 := zm hy158
 clear hy158
 obtain ⟨y161, hy161⟩ : ∃ y_ : List (List Int), y_ = (([y158] : List (List Int))) := ⟨_, rfl⟩
 replace H : ((alloc_Pulses.f k 11 1 y161).bind fun bt164 => ((alloc_Pulses.f k 11 1 (([(([0, 0, 9, 0, 0] : List Int))] : List (List Int)))).bind fun bt174 => ((alloc_Room.f 11 1).bind fun t178 => (if t178 = 2 then ((psalteryref12_Same.f k bt164.1 (([(([1, 0, 0, 0, 0] : List Int))] : List (List Int)))).bind fun t185 => (if t185 = true then (if bt164.2 = 0 then ((psalteryref12_Same.f k bt174.1 (([(([0, 0, 1, 0, 0] : List Int))] : List (List Int)))).bind fun t192 => (if t192 = true then (if bt174.2 = 0 then ((alloc_Right.f 17 2).bind fun t193 => (if t193 = true then ((alloc_Right.f 16 2).bind fun t194 => (some (!t194))) else (none))) else (none)) else (none))) else (none)) else (none))) else (none))))) = some r := by first | (rw [hy161]; with_reducible exact H) | (have H2_ := (Option.bind_some _ _).symm.trans H; rw [hy161]; with_reducible exact H2_) | (have H2_ := (Option.bind_some _ _).symm.trans H; with_reducible exact H2_) | with_reducible exact H | (rw [hy161]; exact H) | exact H
 have Ny161 := zm hy161
 clear hy161
 replace H := Option.bind_eq_some_iff.mp H
 obtain ⟨⟨t164, t165⟩, A10, H⟩ := H
 replace H : ((alloc_Pulses.f k 11 1 (([(([0, 0, 9, 0, 0] : List Int))] : List (List Int)))).bind fun bt174 => ((alloc_Room.f 11 1).bind fun t178 => (if t178 = 2 then ((psalteryref12_Same.f k t164 (([(([1, 0, 0, 0, 0] : List Int))] : List (List Int)))).bind fun t185 => (if t185 = true then (if t165 = 0 then ((psalteryref12_Same.f k bt174.1 (([(([0, 0, 1, 0, 0] : List Int))] : List (List Int)))).bind fun t192 => (if t192 = true then (if bt174.2 = 0 then ((alloc_Right.f 17 2).bind fun t193 => (if t193 = true then ((alloc_Right.f 16 2).bind fun t194 => (some (!t194))) else (none))) else (none)) else (none))) else (none)) else (none))) else (none)))) = some r := H
 have A1 := zm A10
 clear A10
 obtain ⟨y168, hy168⟩ : ∃ y_ : List Int, y_ = (([0, 0, 9, 0, 0] : List Int)) := ⟨_, rfl⟩
 replace H : ((alloc_Pulses.f k 11 1 (([y168] : List (List Int)))).bind fun bt174 => ((alloc_Room.f 11 1).bind fun t178 => (if t178 = 2 then ((psalteryref12_Same.f k t164 (([(([1, 0, 0, 0, 0] : List Int))] : List (List Int)))).bind fun t185 => (if t185 = true then (if t165 = 0 then ((psalteryref12_Same.f k bt174.1 (([(([0, 0, 1, 0, 0] : List Int))] : List (List Int)))).bind fun t192 => (if t192 = true then (if bt174.2 = 0 then ((alloc_Right.f 17 2).bind fun t193 => (if t193 = true then ((alloc_Right.f 16 2).bind fun t194 => (some (!t194))) else (none))) else (none)) else (none))) else (none)) else (none))) else (none)))) = some r := by first | (rw [hy168]; with_reducible exact H) | (have H2_ := (Option.bind_some _ _).symm.trans H; rw [hy168]; with_reducible exact H2_) | (have H2_ := (Option.bind_some _ _).symm.trans H; with_reducible exact H2_) | with_reducible exact H | (rw [hy168]; exact H) | exact H
 have Ny168 := zm hy168
 clear hy168
 obtain ⟨y171, hy171⟩ : ∃ y_ : List (List Int), y_ = (([y168] : List (List Int))) := ⟨_, rfl⟩
 replace H : ((alloc_Pulses.f k 11 1 y171).bind fun bt174 => ((alloc_Room.f 11 1).bind fun t178 => (if t178 = 2 then ((psalteryref12_Same.f k t164 (([(([1, 0, 0, 0, 0] : List Int))] : List (List Int)))).bind fun t185 => (if t185 = true then (if t165 = 0 then ((psalteryref12_Same.f k bt174.1 (([(([0, 0, 1, 0, 0] : List Int))] : List (List Int)))).bind fun t192 => (if t192 = true then (if bt174.2 = 0 then ((alloc_Right.f 17 2).bind fun t193 => (if t193 = true then ((alloc_Right.f 16 2).bind fun t194 => (some (!t194))) else (none))) else (none)) else (none))) else (none)) else (none))) else (none)))) = some r := by first | (rw [hy171]; with_reducible exact H) | (have H2_ := (Option.bind_some _ _).symm.trans H; rw [hy171]; with_reducible exact H2_) | (have H2_ := (Option.bind_some _ _).symm.trans H; with_reducible exact H2_) | with_reducible exact H | (rw [hy171]; exact H) | exact H
 have Ny171 := zm hy171
 clear hy171
 replace H := Option.bind_eq_some_iff.mp H
 obtain ⟨⟨t174, t175⟩, A20, H⟩ := H
 replace H : ((alloc_Room.f 11 1).bind fun t178 => (if t178 = 2 then ((psalteryref12_Same.f k t164 (([(([1, 0, 0, 0, 0] : List Int))] : List (List Int)))).bind fun t185 => (if t185 = true then (if t165 = 0 then ((psalteryref12_Same.f k t174 (([(([0, 0, 1, 0, 0] : List Int))] : List (List Int)))).bind fun t192 => (if t192 = true then (if t175 = 0 then ((alloc_Right.f 17 2).bind fun t193 => (if t193 = true then ((alloc_Right.f 16 2).bind fun t194 => (some (!t194))) else (none))) else (none)) else (none))) else (none)) else (none))) else (none))) = some r := H
 have A2 := zm A20
 clear A20
 replace H := Option.bind_eq_some_iff.mp H
 obtain ⟨t178, A30, H⟩ := H
 replace H : (if t178 = 2 then ((psalteryref12_Same.f k t164 (([(([1, 0, 0, 0, 0] : List Int))] : List (List Int)))).bind fun t185 => (if t185 = true then (if t165 = 0 then ((psalteryref12_Same.f k t174 (([(([0, 0, 1, 0, 0] : List Int))] : List (List Int)))).bind fun t192 => (if t192 = true then (if t175 = 0 then ((alloc_Right.f 17 2).bind fun t193 => (if t193 = true then ((alloc_Right.f 16 2).bind fun t194 => (some (!t194))) else (none))) else (none)) else (none))) else (none)) else (none))) else (none)) = some r := H
 have A3 := zm A30
 clear A30
 by_cases c4 : t178 = 2
 ·
  rw [if_pos c4] at H
  have c4b0 : (t178 == 2) = true := beq_iff_eq.mpr c4
  have c4b1 : (t178 != 2) = false := bne_eq_false_iff_eq.mpr c4
  clear c4
  obtain ⟨y179, hy179⟩ : ∃ y_ : List Int, y_ = (([1, 0, 0, 0, 0] : List Int)) := ⟨_, rfl⟩
  replace H : ((psalteryref12_Same.f k t164 (([y179] : List (List Int)))).bind fun t185 => (if t185 = true then (if t165 = 0 then ((psalteryref12_Same.f k t174 (([(([0, 0, 1, 0, 0] : List Int))] : List (List Int)))).bind fun t192 => (if t192 = true then (if t175 = 0 then ((alloc_Right.f 17 2).bind fun t193 => (if t193 = true then ((alloc_Right.f 16 2).bind fun t194 => (some (!t194))) else (none))) else (none)) else (none))) else (none)) else (none))) = some r := by first | (rw [hy179]; with_reducible exact H) | (have H2_ := (Option.bind_some _ _).symm.trans H; rw [hy179]; with_reducible exact H2_) | (have H2_ := (Option.bind_some _ _).symm.trans H; with_reducible exact H2_) | with_reducible exact H | (rw [hy179]; exact H) | exact H
  have Ny179 := zm hy179
  clear hy179
  obtain ⟨y182, hy182⟩ : ∃ y_ : List (List Int), y_ = (([y179] : List (List Int))) := ⟨_, rfl⟩
  replace H : ((psalteryref12_Same.f k t164 y182).bind fun t185 => (if t185 = true then (if t165 = 0 then ((psalteryref12_Same.f k t174 (([(([0, 0, 1, 0, 0] : List Int))] : List (List Int)))).bind fun t192 => (if t192 = true then (if t175 = 0 then ((alloc_Right.f 17 2).bind fun t193 => (if t193 = true then ((alloc_Right.f 16 2).bind fun t194 => (some (!t194))) else (none))) else (none)) else (none))) else (none)) else (none))) = some r := by first | (rw [hy182]; with_reducible exact H) | (have H2_ := (Option.bind_some _ _).symm.trans H; rw [hy182]; with_reducible exact H2_) | (have H2_ := (Option.bind_some _ _).symm.trans H; with_reducible exact H2_) | with_reducible exact H | (rw [hy182]; exact H) | exact H
  have Ny182 := zm hy182
  clear hy182
  replace H := Option.bind_eq_some_iff.mp H
  obtain ⟨t185, A50, H⟩ := H
  replace H : (if t185 = true then (if t165 = 0 then ((psalteryref12_Same.f k t174 (([(([0, 0, 1, 0, 0] : List Int))] : List (List Int)))).bind fun t192 => (if t192 = true then (if t175 = 0 then ((alloc_Right.f 17 2).bind fun t193 => (if t193 = true then ((alloc_Right.f 16 2).bind fun t194 => (some (!t194))) else (none))) else (none)) else (none))) else (none)) else (none)) = some r := H
  have A5 := zm A50
  clear A50
  by_cases c6 : t185 = true
  ·
   subst c6
   have H1 : (if t165 = 0 then ((psalteryref12_Same.f k t174 (([(([0, 0, 1, 0, 0] : List Int))] : List (List Int)))).bind fun t192 => (if t192 = true then (if t175 = 0 then ((alloc_Right.f 17 2).bind fun t193 => (if t193 = true then ((alloc_Right.f 16 2).bind fun t194 => (some (!t194))) else (none))) else (none)) else (none))) else (none)) = some r := by rw [if_pos rfl] at H; exact H
   clear H
   have H := H1
   clear H1
   by_cases c7 : t165 = 0
   ·
    rw [if_pos c7] at H
    have c7b0 : (t165 == 0) = true := beq_iff_eq.mpr c7
    have c7b1 : (t165 != 0) = false := bne_eq_false_iff_eq.mpr c7
    clear c7
    obtain ⟨y186, hy186⟩ : ∃ y_ : List Int, y_ = (([0, 0, 1, 0, 0] : List Int)) := ⟨_, rfl⟩
    replace H : ((psalteryref12_Same.f k t174 (([y186] : List (List Int)))).bind fun t192 => (if t192 = true then (if t175 = 0 then ((alloc_Right.f 17 2).bind fun t193 => (if t193 = true then ((alloc_Right.f 16 2).bind fun t194 => (some (!t194))) else (none))) else (none)) else (none))) = some r := by first | (rw [hy186]; with_reducible exact H) | (have H2_ := (Option.bind_some _ _).symm.trans H; rw [hy186]; with_reducible exact H2_) | (have H2_ := (Option.bind_some _ _).symm.trans H; with_reducible exact H2_) | with_reducible exact H | (rw [hy186]; exact H) | exact H
    have Ny186 := zm hy186
    clear hy186
    obtain ⟨y189, hy189⟩ : ∃ y_ : List (List Int), y_ = (([y186] : List (List Int))) := ⟨_, rfl⟩
    replace H : ((psalteryref12_Same.f k t174 y189).bind fun t192 => (if t192 = true then (if t175 = 0 then ((alloc_Right.f 17 2).bind fun t193 => (if t193 = true then ((alloc_Right.f 16 2).bind fun t194 => (some (!t194))) else (none))) else (none)) else (none))) = some r := by first | (rw [hy189]; with_reducible exact H) | (have H2_ := (Option.bind_some _ _).symm.trans H; rw [hy189]; with_reducible exact H2_) | (have H2_ := (Option.bind_some _ _).symm.trans H; with_reducible exact H2_) | with_reducible exact H | (rw [hy189]; exact H) | exact H
    have Ny189 := zm hy189
    clear hy189
    replace H := Option.bind_eq_some_iff.mp H
    obtain ⟨t192, A80, H⟩ := H
    replace H : (if t192 = true then (if t175 = 0 then ((alloc_Right.f 17 2).bind fun t193 => (if t193 = true then ((alloc_Right.f 16 2).bind fun t194 => (some (!t194))) else (none))) else (none)) else (none)) = some r := H
    have A8 := zm A80
    clear A80
    by_cases c9 : t192 = true
    ·
     subst c9
     have H1 : (if t175 = 0 then ((alloc_Right.f 17 2).bind fun t193 => (if t193 = true then ((alloc_Right.f 16 2).bind fun t194 => (some (!t194))) else (none))) else (none)) = some r := by rw [if_pos rfl] at H; exact H
     clear H
     have H := H1
     clear H1
     by_cases c10 : t175 = 0
     ·
      rw [if_pos c10] at H
      have c10b0 : (t175 == 0) = true := beq_iff_eq.mpr c10
      have c10b1 : (t175 != 0) = false := bne_eq_false_iff_eq.mpr c10
      clear c10
      replace H := Option.bind_eq_some_iff.mp H
      obtain ⟨t193, A110, H⟩ := H
      replace H : (if t193 = true then ((alloc_Right.f 16 2).bind fun t194 => (some (!t194))) else (none)) = some r := H
      have A11 := zm A110
      clear A110
      by_cases c12 : t193 = true
      ·
       subst c12
       have H1 : ((alloc_Right.f 16 2).bind fun t194 => (some (!t194))) = some r := by rw [if_pos rfl] at H; exact H
       clear H
       have H := H1
       clear H1
       replace H := Option.bind_eq_some_iff.mp H
       obtain ⟨t194, A130, H⟩ := H
       replace H : (some (!t194)) = some r := H
       have A13 := zm A130
       clear A130
       obtain rfl := Option.some.inj H
       go_enter Try.func13, Try.ntmps13
       go_wp2_with (first | ((with_reducible refine gate_dst (N := 6) rfl ?_); (try (refine gate_guard (by rfl) ?_; dsimp only)); refine Kd.R_lit (Kd.int .i64) _ 3 ?hg (N := 6) ?hd (xs := ([9, 0, 0, 0, 0] : List Int)) (inner := [.int .i64 9, .int .i64 0, .int .i64 0, .int .i64 0, .int .i64 0]) (ok := fun _ => True) (okp := fun _ => True) ?hr ?hp (fun _ hk => hk) trivial (Below.refl _ _) (Nat.le_refl _) (by simp) ?_; (case hd => rfl); (case hg => rfl); (case hr => first | (go_simp; done) | (go_simp; rfl)); (case hp => exact (Reps.one (show Kd.M (Kd.int .i64) _ _ _ 9 [.int .i64 9] from rfl) (Reps.one (show Kd.M (Kd.int .i64) _ _ _ 0 [.int .i64 0] from rfl) (Reps.one (show Kd.M (Kd.int .i64) _ _ _ 0 [.int .i64 0] from rfl) (Reps.one (show Kd.M (Kd.int .i64) _ _ _ 0 [.int .i64 0] from rfl) (Reps.one (show Kd.M (Kd.int .i64) _ _ _ 0 [.int .i64 0] from rfl) (Reps.none _ _))))))); intro v159 w14 ho15 hb hg_ hnew_; clear hg_ hnew_; (first | rw [← Ny158.out] at ho15 | (simp only [Int.reduceToNat] at ho15; rw [← Ny158.out] at ho15)); have n0_ := zm (Kd.R_lower ho15 (zE (by repeat (first | (with_reducible first | exact HB.out | apply ze | apply zd | apply zf) | exact HB.out)))); have n1_ := zm (zJ (by repeat (first | (with_reducible first | exact HB.out | apply ze | apply zd | apply zf) | exact HB.out)) hb); clear HB; have HO160 := n0_; have HB := n1_; clear n0_ n1_; clear hb ho15; obtain ⟨Ao16, co16, eo16⟩ := Kd.R_slice HO160.out; subst eo16) | ((with_reducible refine gate_dst (N := 7) rfl ?_); (try (refine gate_guard (by rfl) ?_; dsimp only)); refine Kd.N_lit (Kd.slice 3 (Kd.int .i64)) _ 34 ?hg (N' := 7) ?hd (xs := ([y158] : List (List Int))) (inner := [.slice Ao16 y158.length co16]) (ok := (fun _ => True)) (okp := (fun _ => True)) ?hr ?hp (fun _ hk => hk) ((show ∀ k_, w14.heap.size ≤ k_ → (fun _ => True) k_ from fun k_ hk => trivial) _ (Nat.le_refl _)) (Below.refl _ _) (Nat.le_refl _) (by simp) ?_; (case hd => rfl); (case hg => rfl); (case hr => first | (go_simp; done) | (go_simp; rfl)); (case hp => exact (Reps.one (show Kd.FK (Kd.slice 3 (Kd.int .i64)) _ _ y158 [.slice Ao16 y158.length co16] from (Kd.FK_slice_mk (Kd.R_reads' (zG (ok' := (fun _ => True)) (HO160.out) (fun k_ hk => trivial))).2.1 (Kd.R_F (zG (ok' := (fun _ => True)) (HO160.out) (fun k_ hk => trivial))))) (Reps.none _ _))); intro v162 w17 ho18 hb hg_ hnew_; clear hg_ hnew_; (first | rw [← Ny161.out] at ho18 | (simp only [Int.reduceToNat] at ho18; rw [← Ny161.out] at ho18)); have n0_ := zm (Kd.N_lower ho18 (zE (by repeat (first | (with_reducible first | exact HB.out | apply ze | apply zd | apply zf) | exact HB.out)))); have n1_ := zm (zJ (by repeat (first | (with_reducible first | exact HB.out | apply ze | apply zd | apply zf) | exact HB.out)) hb); clear HB; clear HO160; have HO163 := n0_; have HB := n1_; clear n0_ n1_; clear hb ho18; obtain ⟨Ao19, co19, eo19⟩ := Kd.N_slice HO163.out; subst eo19) | ((with_reducible refine gate_callee (f := 15) rfl ?_); refine goesL_ (some 8) rfl rfl Try.func15 (by kernel_rfl) rfl #[.int .i64 11, .int .i64 1, .slice Ao19 y161.length co19] rfl (by (try simp only [List.map_toArray, List.map_cons, List.map_nil]); first | done | rfl | (simp only [List.length_drop, List.length_take]; rfl)) ?_; (with_reducible refine (alloc_Pulses.calls k 11 1 _ _ y161 t164 t165 _ ?side1 ?side2 A1.out).mono ?_); (case side1 => repeat (first | exact (Kd.N_reads' HO163.out).2.2 | (with_reducible refine Kd.C_alloc ?_ _) | (with_reducible refine Kd.C_drewN ?_ _) | (with_reducible refine Kd.C_drew ?_))); (case side2 => exact (Kd.N_reads' HO163.out).2.1); rintro e w20 ⟨v166, rfl, ho0, hb⟩; refine ⟨_, rfl, ?_⟩; have n0_ := zm (Kd.N_elder' (by (with_reducible repeat (first | apply Kd.N_alloc | apply Kd.N_drewN | apply Kd.N_drew)); exact HO163.out) (Kd.S_base ho0) hb); have n1_ := zm (Kd.N_lower (Kd.N_mono (ok' := fun k_ => some k_ ≠ (.slice Ao19 y161.length co19 : Value).ownBlock) (Kd.S_N (Kd.S_bound ho0)) (fun k_ hk_ => (Kd.fresh' (Kd.N_lt (by (with_reducible repeat (first | apply Kd.N_alloc | apply Kd.N_drewN | apply Kd.N_drew)); exact HO163.out)) k_ hk_.2.1))) (zE (by repeat (first | (with_reducible first | exact HB.out | apply ze | apply zd | apply zf) | exact HB.out)))); have n2_ := zm (zJ (by repeat (first | (with_reducible first | exact HB.out | apply ze | apply zd | apply zf) | exact HB.out)) hb); clear HO163; clear HB; have HO163 := n0_; have HO167 := n1_; have HB := n2_; clear n0_ n1_ n2_; (try clear hb); (try clear hb2); (try clear hk); (try clear hi); (try clear ho0)) | ((with_reducible refine gate_dst (N := 12) rfl ?_); (try (refine gate_guard (by rfl) ?_; dsimp only)); refine Kd.R_lit (Kd.int .i64) _ 3 ?hg (N := 12) ?hd (xs := ([0, 0, 9, 0, 0] : List Int)) (inner := [.int .i64 0, .int .i64 0, .int .i64 9, .int .i64 0, .int .i64 0]) (ok := fun _ => True) (okp := fun _ => True) ?hr ?hp (fun _ hk => hk) trivial (Below.refl _ _) (Nat.le_refl _) (by simp) ?_; (case hd => rfl); (case hg => rfl); (case hr => first | (go_simp; done) | (go_simp; rfl)); (case hp => exact (Reps.one (show Kd.M (Kd.int .i64) _ _ _ 0 [.int .i64 0] from rfl) (Reps.one (show Kd.M (Kd.int .i64) _ _ _ 0 [.int .i64 0] from rfl) (Reps.one (show Kd.M (Kd.int .i64) _ _ _ 9 [.int .i64 9] from rfl) (Reps.one (show Kd.M (Kd.int .i64) _ _ _ 0 [.int .i64 0] from rfl) (Reps.one (show Kd.M (Kd.int .i64) _ _ _ 0 [.int .i64 0] from rfl) (Reps.none _ _))))))); intro v169 w21 ho22 hb hg_ hnew_; clear hg_ hnew_; (first | rw [← Ny168.out] at ho22 | (simp only [Int.reduceToNat] at ho22; rw [← Ny168.out] at ho22)); have n0_ := zm (Kd.N_elder' (by (with_reducible repeat (first | apply Kd.N_alloc | apply Kd.N_drewN | apply Kd.N_drew)); exact HO163.out) (Kd.R_base ho22) hb); have n1_ := zm (Kd.N_elder' (by (with_reducible repeat (first | apply Kd.N_alloc | apply Kd.N_drewN | apply Kd.N_drew)); exact HO167.out) (Kd.R_base ho22) hb); have n2_ := zm (Kd.R_lower ho22 (zE (by repeat (first | (with_reducible first | exact HB.out | apply ze | apply zd | apply zf) | exact HB.out)))); have n3_ := zm (zJ (by repeat (first | (with_reducible first | exact HB.out | apply ze | apply zd | apply zf) | exact HB.out)) hb); clear HO163; clear HO167; clear HB; have HO163 := n0_; have HO167 := n1_; have HO170 := n2_; have HB := n3_; clear n0_ n1_ n2_ n3_; clear hb ho22; obtain ⟨Ao23, co23, eo23⟩ := Kd.R_slice HO170.out; subst eo23) | ((with_reducible refine gate_dst (N := 13) rfl ?_); (try (refine gate_guard (by rfl) ?_; dsimp only)); refine Kd.N_lit (Kd.slice 3 (Kd.int .i64)) _ 34 ?hg (N' := 13) ?hd (xs := ([y168] : List (List Int))) (inner := [.slice Ao23 y168.length co23]) (ok := (fun k_ => some k_ ≠ (.slice Ao19 y161.length co19 : Value).ownBlock ∧ some k_ ≠ (v166 : Value).ownBlock)) (okp := (fun k_ => some k_ ≠ (.slice Ao19 y161.length co19 : Value).ownBlock ∧ some k_ ≠ (v166 : Value).ownBlock)) ?hr ?hp (fun _ hk => hk) ((show ∀ k_, w21.heap.size ≤ k_ → (fun k_ => some k_ ≠ (.slice Ao19 y161.length co19 : Value).ownBlock ∧ some k_ ≠ (v166 : Value).ownBlock) k_ from fun k_ hk => ⟨Kd.fresh' (Kd.N_lt (by (with_reducible repeat (first | apply Kd.N_alloc | apply Kd.N_drewN | apply Kd.N_drew)); exact HO163.out)) k_ hk, Kd.fresh' (Kd.N_lt (by (with_reducible repeat (first | apply Kd.N_alloc | apply Kd.N_drewN | apply Kd.N_drew)); exact HO167.out)) k_ hk⟩) _ (Nat.le_refl _)) (Below.refl _ _) (Nat.le_refl _) (by simp) ?_; (case hd => rfl); (case hg => rfl); (case hr => first | (go_simp; done) | (go_simp; rfl)); (case hp => exact (Reps.one (show Kd.FK (Kd.slice 3 (Kd.int .i64)) _ _ y168 [.slice Ao23 y168.length co23] from (Kd.FK_slice_mk (Kd.R_reads' (zG (ok' := (fun k_ => some k_ ≠ (.slice Ao19 y161.length co19 : Value).ownBlock ∧ some k_ ≠ (v166 : Value).ownBlock)) (Kd.R_apart' (Kd.R_apart' (HO170.out) (Kd.N_typed HO163.out) (by decide)) (Kd.N_typed HO167.out) (by decide)) (fun k_ hk => ⟨hk.1.2, hk.2⟩))).2.1 (Kd.R_F (zG (ok' := (fun k_ => some k_ ≠ (.slice Ao19 y161.length co19 : Value).ownBlock ∧ some k_ ≠ (v166 : Value).ownBlock)) (Kd.R_apart' (Kd.R_apart' (HO170.out) (Kd.N_typed HO163.out) (by decide)) (Kd.N_typed HO167.out) (by decide)) (fun k_ hk => ⟨hk.1.2, hk.2⟩))))) (Reps.none _ _))); intro v172 w24 ho25 hb hg_ hnew_; clear hg_ hnew_; (first | rw [← Ny171.out] at ho25 | (simp only [Int.reduceToNat] at ho25; rw [← Ny171.out] at ho25)); have n0_ := zm (Kd.N_elder' (by (with_reducible repeat (first | apply Kd.N_alloc | apply Kd.N_drewN | apply Kd.N_drew)); exact HO163.out) (Kd.N_base ho25) hb); have n1_ := zm (Kd.N_elder' (by (with_reducible repeat (first | apply Kd.N_alloc | apply Kd.N_drewN | apply Kd.N_drew)); exact HO167.out) (Kd.N_base ho25) hb); have n2_ := zm (Kd.N_lower ho25 (zE (by repeat (first | (with_reducible first | exact HB.out | apply ze | apply zd | apply zf) | exact HB.out)))); have n3_ := zm (zJ (by repeat (first | (with_reducible first | exact HB.out | apply ze | apply zd | apply zf) | exact HB.out)) hb); clear HO163; clear HO167; clear HB; clear HO170; have HO163 := n0_; have HO167 := n1_; have HO173 := n2_; have HB := n3_; clear n0_ n1_ n2_ n3_; clear hb ho25; obtain ⟨Ao26, co26, eo26⟩ := Kd.N_slice HO173.out; subst eo26) | ((with_reducible refine gate_callee (f := 15) rfl ?_); refine goesL_ (some 14) rfl rfl Try.func15 (by kernel_rfl) rfl #[.int .i64 11, .int .i64 1, .slice Ao26 y171.length co26] rfl (by (try simp only [List.map_toArray, List.map_cons, List.map_nil]); first | done | rfl | (simp only [List.length_drop, List.length_take]; rfl)) ?_; (with_reducible refine (alloc_Pulses.calls k 11 1 _ _ y171 t174 t175 _ ?side1 ?side2 A2.out).mono ?_); (case side1 => repeat (first | exact (Kd.N_reads' HO173.out).2.2 | (with_reducible refine Kd.C_alloc ?_ _) | (with_reducible refine Kd.C_drewN ?_ _) | (with_reducible refine Kd.C_drew ?_))); (case side2 => exact (Kd.N_reads' HO173.out).2.1); rintro e w27 ⟨v176, rfl, ho0, hb⟩; refine ⟨_, rfl, ?_⟩; have n0_ := zm (Kd.N_elder' (by (with_reducible repeat (first | apply Kd.N_alloc | apply Kd.N_drewN | apply Kd.N_drew)); exact HO163.out) (Kd.S_base ho0) hb); have n1_ := zm (Kd.N_elder' (by (with_reducible repeat (first | apply Kd.N_alloc | apply Kd.N_drewN | apply Kd.N_drew)); exact HO167.out) (Kd.S_base ho0) hb); have n2_ := zm (Kd.N_elder' (by (with_reducible repeat (first | apply Kd.N_alloc | apply Kd.N_drewN | apply Kd.N_drew)); exact HO173.out) (Kd.S_base ho0) hb); have n3_ := zm (Kd.N_lower (Kd.N_mono (ok' := fun k_ => some k_ ≠ (.slice Ao19 y161.length co19 : Value).ownBlock ∧ some k_ ≠ (v166 : Value).ownBlock ∧ some k_ ≠ (.slice Ao26 y171.length co26 : Value).ownBlock) (Kd.S_N (Kd.S_bound ho0)) (fun k_ hk_ => ⟨(Kd.fresh' (Kd.N_lt (by (with_reducible repeat (first | apply Kd.N_alloc | apply Kd.N_drewN | apply Kd.N_drew)); exact HO163.out)) k_ hk_.2.1), (Kd.fresh' (Kd.N_lt (by (with_reducible repeat (first | apply Kd.N_alloc | apply Kd.N_drewN | apply Kd.N_drew)); exact HO167.out)) k_ hk_.2.1), (Kd.fresh' (Kd.N_lt (by (with_reducible repeat (first | apply Kd.N_alloc | apply Kd.N_drewN | apply Kd.N_drew)); exact HO173.out)) k_ hk_.2.1)⟩)) (zE (by repeat (first | (with_reducible first | exact HB.out | apply ze | apply zd | apply zf) | exact HB.out)))); have n4_ := zm (zJ (by repeat (first | (with_reducible first | exact HB.out | apply ze | apply zd | apply zf) | exact HB.out)) hb); clear HO163; clear HO167; clear HO173; clear HB; have HO163 := n0_; have HO167 := n1_; have HO173 := n2_; have HO177 := n3_; have HB := n4_; clear n0_ n1_ n2_ n3_ n4_; (try clear hb); (try clear hb2); (try clear hk); (try clear hi); (try clear ho0)) | ((with_reducible refine gate_callee (f := 11) rfl ?_); refine goesL_ (some 17) rfl rfl Try.func11 (by kernel_rfl) rfl #[.int .i64 11, .int .i64 1] rfl (by (try simp only [List.map_toArray, List.map_cons, List.map_nil]); first | done | rfl | (simp only [List.length_drop, List.length_take]; rfl)) ?_; (with_reducible refine (alloc_Room.calls 11 1 t178 _ A3.out).mono ?_); rintro e w' ⟨rfl, ⟨nd, rfl⟩⟩; refine ⟨_, rfl, ?_⟩) | ((with_reducible refine gate_dst (N := 21) rfl ?_); (try (refine gate_guard (by rfl) ?_; dsimp only)); refine Kd.R_lit (Kd.int .i64) _ 3 ?hg (N := 21) ?hd (xs := ([1, 0, 0, 0, 0] : List Int)) (inner := [.int .i64 1, .int .i64 0, .int .i64 0, .int .i64 0, .int .i64 0]) (ok := fun _ => True) (okp := fun _ => True) ?hr ?hp (fun _ hk => hk) trivial (Below.refl _ _) (Nat.le_refl _) (by simp) ?_; (case hd => rfl); (case hg => rfl); (case hr => first | (go_simp; done) | (go_simp; rfl)); (case hp => exact (Reps.one (show Kd.M (Kd.int .i64) _ _ _ 1 [.int .i64 1] from rfl) (Reps.one (show Kd.M (Kd.int .i64) _ _ _ 0 [.int .i64 0] from rfl) (Reps.one (show Kd.M (Kd.int .i64) _ _ _ 0 [.int .i64 0] from rfl) (Reps.one (show Kd.M (Kd.int .i64) _ _ _ 0 [.int .i64 0] from rfl) (Reps.one (show Kd.M (Kd.int .i64) _ _ _ 0 [.int .i64 0] from rfl) (Reps.none _ _))))))); intro v180 w28 ho29 hb hg_ hnew_; clear hg_ hnew_; (first | rw [← Ny179.out] at ho29 | (simp only [Int.reduceToNat] at ho29; rw [← Ny179.out] at ho29)); have n0_ := zm (Kd.N_elder' (by (with_reducible repeat (first | apply Kd.N_alloc | apply Kd.N_drewN | apply Kd.N_drew)); exact HO163.out) (Kd.R_base ho29) hb); have n1_ := zm (Kd.N_elder' (by (with_reducible repeat (first | apply Kd.N_alloc | apply Kd.N_drewN | apply Kd.N_drew)); exact HO167.out) (Kd.R_base ho29) hb); have n2_ := zm (Kd.N_elder' (by (with_reducible repeat (first | apply Kd.N_alloc | apply Kd.N_drewN | apply Kd.N_drew)); exact HO173.out) (Kd.R_base ho29) hb); have n3_ := zm (Kd.N_elder' (by (with_reducible repeat (first | apply Kd.N_alloc | apply Kd.N_drewN | apply Kd.N_drew)); exact HO177.out) (Kd.R_base ho29) hb); have n4_ := zm (Kd.R_lower ho29 (zE (by repeat (first | (with_reducible first | exact HB.out | apply ze | apply zd | apply zf) | exact HB.out)))); have n5_ := zm (zJ (by repeat (first | (with_reducible first | exact HB.out | apply ze | apply zd | apply zf) | exact HB.out)) hb); clear HO163; clear HO167; clear HO173; clear HO177; clear HB; have HO163 := n0_; have HO167 := n1_; have HO173 := n2_; have HO177 := n3_; have HO181 := n4_; have HB := n5_; clear n0_ n1_ n2_ n3_ n4_ n5_; clear hb ho29; obtain ⟨Ao30, co30, eo30⟩ := Kd.R_slice HO181.out; subst eo30) | ((with_reducible refine gate_dst (N := 22) rfl ?_); (try (refine gate_guard (by rfl) ?_; dsimp only)); refine Kd.N_lit (Kd.slice 3 (Kd.int .i64)) _ 34 ?hg (N' := 22) ?hd (xs := ([y179] : List (List Int))) (inner := [.slice Ao30 y179.length co30]) (ok := (fun k_ => some k_ ≠ (.slice Ao19 y161.length co19 : Value).ownBlock ∧ some k_ ≠ (v166 : Value).ownBlock ∧ some k_ ≠ (.slice Ao26 y171.length co26 : Value).ownBlock ∧ some k_ ≠ (v176 : Value).ownBlock)) (okp := (fun k_ => some k_ ≠ (.slice Ao19 y161.length co19 : Value).ownBlock ∧ some k_ ≠ (v166 : Value).ownBlock ∧ some k_ ≠ (.slice Ao26 y171.length co26 : Value).ownBlock ∧ some k_ ≠ (v176 : Value).ownBlock)) ?hr ?hp (fun _ hk => hk) ((show ∀ k_, w28.heap.size ≤ k_ → (fun k_ => some k_ ≠ (.slice Ao19 y161.length co19 : Value).ownBlock ∧ some k_ ≠ (v166 : Value).ownBlock ∧ some k_ ≠ (.slice Ao26 y171.length co26 : Value).ownBlock ∧ some k_ ≠ (v176 : Value).ownBlock) k_ from fun k_ hk => ⟨Kd.fresh' (Kd.N_lt (by (with_reducible repeat (first | apply Kd.N_alloc | apply Kd.N_drewN | apply Kd.N_drew)); exact HO163.out)) k_ hk, Kd.fresh' (Kd.N_lt (by (with_reducible repeat (first | apply Kd.N_alloc | apply Kd.N_drewN | apply Kd.N_drew)); exact HO167.out)) k_ hk, Kd.fresh' (Kd.N_lt (by (with_reducible repeat (first | apply Kd.N_alloc | apply Kd.N_drewN | apply Kd.N_drew)); exact HO173.out)) k_ hk, Kd.fresh' (Kd.N_lt (by (with_reducible repeat (first | apply Kd.N_alloc | apply Kd.N_drewN | apply Kd.N_drew)); exact HO177.out)) k_ hk⟩) _ (Nat.le_refl _)) (Below.refl _ _) (Nat.le_refl _) (by simp) ?_; (case hd => rfl); (case hg => rfl); (case hr => first | (go_simp; done) | (go_simp; rfl)); (case hp => exact (Reps.one (show Kd.FK (Kd.slice 3 (Kd.int .i64)) _ _ y179 [.slice Ao30 y179.length co30] from (Kd.FK_slice_mk (Kd.R_reads' (zG (ok' := (fun k_ => some k_ ≠ (.slice Ao19 y161.length co19 : Value).ownBlock ∧ some k_ ≠ (v166 : Value).ownBlock ∧ some k_ ≠ (.slice Ao26 y171.length co26 : Value).ownBlock ∧ some k_ ≠ (v176 : Value).ownBlock)) (Kd.R_apart' (Kd.R_apart' (Kd.R_apart' (Kd.R_apart' (HO181.out) (Kd.N_typed HO163.out) (by decide)) (Kd.N_typed HO167.out) (by decide)) (Kd.N_typed HO173.out) (by decide)) (Kd.N_typed HO177.out) (by decide)) (fun k_ hk => ⟨hk.1.1.1.2, ⟨hk.1.1.2, ⟨hk.1.2, hk.2⟩⟩⟩))).2.1 (Kd.R_F (zG (ok' := (fun k_ => some k_ ≠ (.slice Ao19 y161.length co19 : Value).ownBlock ∧ some k_ ≠ (v166 : Value).ownBlock ∧ some k_ ≠ (.slice Ao26 y171.length co26 : Value).ownBlock ∧ some k_ ≠ (v176 : Value).ownBlock)) (Kd.R_apart' (Kd.R_apart' (Kd.R_apart' (Kd.R_apart' (HO181.out) (Kd.N_typed HO163.out) (by decide)) (Kd.N_typed HO167.out) (by decide)) (Kd.N_typed HO173.out) (by decide)) (Kd.N_typed HO177.out) (by decide)) (fun k_ hk => ⟨hk.1.1.1.2, ⟨hk.1.1.2, ⟨hk.1.2, hk.2⟩⟩⟩))))) (Reps.none _ _))); intro v183 w31 ho32 hb hg_ hnew_; clear hg_ hnew_; (first | rw [← Ny182.out] at ho32 | (simp only [Int.reduceToNat] at ho32; rw [← Ny182.out] at ho32)); have n0_ := zm (Kd.N_elder' (by (with_reducible repeat (first | apply Kd.N_alloc | apply Kd.N_drewN | apply Kd.N_drew)); exact HO163.out) (Kd.N_base ho32) hb); have n1_ := zm (Kd.N_elder' (by (with_reducible repeat (first | apply Kd.N_alloc | apply Kd.N_drewN | apply Kd.N_drew)); exact HO167.out) (Kd.N_base ho32) hb); have n2_ := zm (Kd.N_elder' (by (with_reducible repeat (first | apply Kd.N_alloc | apply Kd.N_drewN | apply Kd.N_drew)); exact HO173.out) (Kd.N_base ho32) hb); have n3_ := zm (Kd.N_elder' (by (with_reducible repeat (first | apply Kd.N_alloc | apply Kd.N_drewN | apply Kd.N_drew)); exact HO177.out) (Kd.N_base ho32) hb); have n4_ := zm (Kd.N_lower ho32 (zE (by repeat (first | (with_reducible first | exact HB.out | apply ze | apply zd | apply zf) | exact HB.out)))); have n5_ := zm (zJ (by repeat (first | (with_reducible first | exact HB.out | apply ze | apply zd | apply zf) | exact HB.out)) hb); clear HO163; clear HO167; clear HO173; clear HO177; clear HB; clear HO181; have HO163 := n0_; have HO167 := n1_; have HO173 := n2_; have HO177 := n3_; have HO184 := n4_; have HB := n5_; clear n0_ n1_ n2_ n3_ n4_ n5_; clear hb ho32; obtain ⟨Ao33, co33, eo33⟩ := Kd.N_slice HO167.out; subst eo33; obtain ⟨Ao34, co34, eo34⟩ := Kd.N_slice HO184.out; subst eo34) | (go_at_call 17; (with_reducible refine (psalteryref12_Same.calls k _ _ t164 _ _ y182 true _ ?side1 ?side2 ?side3 ?side4 A5.out).mono ?_); (case side1 => repeat (first | exact (Kd.N_reads' HO167.out).2.2 | (with_reducible refine Kd.C_alloc ?_ _) | (with_reducible refine Kd.C_drewN ?_ _) | (with_reducible refine Kd.C_drew ?_))); (case side2 => exact (Kd.N_reads' HO167.out).2.1); (case side3 => repeat (first | exact (Kd.N_reads' HO184.out).2.2 | (with_reducible refine Kd.C_alloc ?_ _) | (with_reducible refine Kd.C_drewN ?_ _) | (with_reducible refine Kd.C_drew ?_))); (case side4 => exact (Kd.N_reads' HO184.out).2.1); rintro e w' ⟨rfl, ⟨nd, rfl⟩⟩) | ((with_reducible refine gate_dst (N := 31) rfl ?_); (try (refine gate_guard (by rfl) ?_; dsimp only)); refine Kd.R_lit (Kd.int .i64) _ 3 ?hg (N := 31) ?hd (xs := ([0, 0, 1, 0, 0] : List Int)) (inner := [.int .i64 0, .int .i64 0, .int .i64 1, .int .i64 0, .int .i64 0]) (ok := fun _ => True) (okp := fun _ => True) ?hr ?hp (fun _ hk => hk) trivial (Below.refl _ _) (Nat.le_refl _) (by simp) ?_; (case hd => rfl); (case hg => rfl); (case hr => first | (go_simp; done) | (go_simp; rfl)); (case hp => exact (Reps.one (show Kd.M (Kd.int .i64) _ _ _ 0 [.int .i64 0] from rfl) (Reps.one (show Kd.M (Kd.int .i64) _ _ _ 0 [.int .i64 0] from rfl) (Reps.one (show Kd.M (Kd.int .i64) _ _ _ 1 [.int .i64 1] from rfl) (Reps.one (show Kd.M (Kd.int .i64) _ _ _ 0 [.int .i64 0] from rfl) (Reps.one (show Kd.M (Kd.int .i64) _ _ _ 0 [.int .i64 0] from rfl) (Reps.none _ _))))))); intro v187 w35 ho36 hb hg_ hnew_; clear hg_ hnew_; (first | rw [← Ny186.out] at ho36 | (simp only [Int.reduceToNat] at ho36; rw [← Ny186.out] at ho36)); have n0_ := zm (Kd.N_elder' (by (with_reducible repeat (first | apply Kd.N_alloc | apply Kd.N_drewN | apply Kd.N_drew)); exact HO163.out) (Kd.R_base ho36) hb); have n1_ := zm (Kd.N_elder' (by (with_reducible repeat (first | apply Kd.N_alloc | apply Kd.N_drewN | apply Kd.N_drew)); exact HO167.out) (Kd.R_base ho36) hb); have n2_ := zm (Kd.N_elder' (by (with_reducible repeat (first | apply Kd.N_alloc | apply Kd.N_drewN | apply Kd.N_drew)); exact HO173.out) (Kd.R_base ho36) hb); have n3_ := zm (Kd.N_elder' (by (with_reducible repeat (first | apply Kd.N_alloc | apply Kd.N_drewN | apply Kd.N_drew)); exact HO177.out) (Kd.R_base ho36) hb); have n4_ := zm (Kd.N_elder' (by (with_reducible repeat (first | apply Kd.N_alloc | apply Kd.N_drewN | apply Kd.N_drew)); exact HO184.out) (Kd.R_base ho36) hb); have n5_ := zm (Kd.R_lower ho36 (zE (by repeat (first | (with_reducible first | exact HB.out | apply ze | apply zd | apply zf) | exact HB.out)))); have n6_ := zm (zJ (by repeat (first | (with_reducible first | exact HB.out | apply ze | apply zd | apply zf) | exact HB.out)) hb); clear HO163; clear HO167; clear HO173; clear HO177; clear HO184; clear HB; have HO163 := n0_; have HO167 := n1_; have HO173 := n2_; have HO177 := n3_; have HO184 := n4_; have HO188 := n5_; have HB := n6_; clear n0_ n1_ n2_ n3_ n4_ n5_ n6_; clear hb ho36; obtain ⟨Ao37, co37, eo37⟩ := Kd.R_slice HO188.out; subst eo37) | ((with_reducible refine gate_dst (N := 32) rfl ?_); (try (refine gate_guard (by rfl) ?_; dsimp only)); refine Kd.N_lit (Kd.slice 3 (Kd.int .i64)) _ 34 ?hg (N' := 32) ?hd (xs := ([y186] : List (List Int))) (inner := [.slice Ao37 y186.length co37]) (ok := (fun k_ => some k_ ≠ (.slice Ao19 y161.length co19 : Value).ownBlock ∧ some k_ ≠ (.slice Ao33 t164.length co33 : Value).ownBlock ∧ some k_ ≠ (.slice Ao26 y171.length co26 : Value).ownBlock ∧ some k_ ≠ (v176 : Value).ownBlock ∧ some k_ ≠ (.slice Ao34 y182.length co34 : Value).ownBlock)) (okp := (fun k_ => some k_ ≠ (.slice Ao19 y161.length co19 : Value).ownBlock ∧ some k_ ≠ (.slice Ao33 t164.length co33 : Value).ownBlock ∧ some k_ ≠ (.slice Ao26 y171.length co26 : Value).ownBlock ∧ some k_ ≠ (v176 : Value).ownBlock ∧ some k_ ≠ (.slice Ao34 y182.length co34 : Value).ownBlock)) ?hr ?hp (fun _ hk => hk) ((show ∀ k_, w35.heap.size ≤ k_ → (fun k_ => some k_ ≠ (.slice Ao19 y161.length co19 : Value).ownBlock ∧ some k_ ≠ (.slice Ao33 t164.length co33 : Value).ownBlock ∧ some k_ ≠ (.slice Ao26 y171.length co26 : Value).ownBlock ∧ some k_ ≠ (v176 : Value).ownBlock ∧ some k_ ≠ (.slice Ao34 y182.length co34 : Value).ownBlock) k_ from fun k_ hk => ⟨Kd.fresh' (Kd.N_lt (by (with_reducible repeat (first | apply Kd.N_alloc | apply Kd.N_drewN | apply Kd.N_drew)); exact HO163.out)) k_ hk, Kd.fresh' (Kd.N_lt (by (with_reducible repeat (first | apply Kd.N_alloc | apply Kd.N_drewN | apply Kd.N_drew)); exact HO167.out)) k_ hk, Kd.fresh' (Kd.N_lt (by (with_reducible repeat (first | apply Kd.N_alloc | apply Kd.N_drewN | apply Kd.N_drew)); exact HO173.out)) k_ hk, Kd.fresh' (Kd.N_lt (by (with_reducible repeat (first | apply Kd.N_alloc | apply Kd.N_drewN | apply Kd.N_drew)); exact HO177.out)) k_ hk, Kd.fresh' (Kd.N_lt (by (with_reducible repeat (first | apply Kd.N_alloc | apply Kd.N_drewN | apply Kd.N_drew)); exact HO184.out)) k_ hk⟩) _ (Nat.le_refl _)) (Below.refl _ _) (Nat.le_refl _) (by simp) ?_; (case hd => rfl); (case hg => rfl); (case hr => first | (go_simp; done) | (go_simp; rfl)); (case hp => exact (Reps.one (show Kd.FK (Kd.slice 3 (Kd.int .i64)) _ _ y186 [.slice Ao37 y186.length co37] from (Kd.FK_slice_mk (Kd.R_reads' (zG (ok' := (fun k_ => some k_ ≠ (.slice Ao19 y161.length co19 : Value).ownBlock ∧ some k_ ≠ (.slice Ao33 t164.length co33 : Value).ownBlock ∧ some k_ ≠ (.slice Ao26 y171.length co26 : Value).ownBlock ∧ some k_ ≠ (v176 : Value).ownBlock ∧ some k_ ≠ (.slice Ao34 y182.length co34 : Value).ownBlock)) (Kd.R_apart' (Kd.R_apart' (Kd.R_apart' (Kd.R_apart' (Kd.R_apart' (HO188.out) (Kd.N_typed HO163.out) (by decide)) (Kd.N_typed HO167.out) (by decide)) (Kd.N_typed HO173.out) (by decide)) (Kd.N_typed HO177.out) (by decide)) (Kd.N_typed HO184.out) (by decide)) (fun k_ hk => ⟨hk.1.1.1.1.2, ⟨hk.1.1.1.2, ⟨hk.1.1.2, ⟨hk.1.2, hk.2⟩⟩⟩⟩))).2.1 (Kd.R_F (zG (ok' := (fun k_ => some k_ ≠ (.slice Ao19 y161.length co19 : Value).ownBlock ∧ some k_ ≠ (.slice Ao33 t164.length co33 : Value).ownBlock ∧ some k_ ≠ (.slice Ao26 y171.length co26 : Value).ownBlock ∧ some k_ ≠ (v176 : Value).ownBlock ∧ some k_ ≠ (.slice Ao34 y182.length co34 : Value).ownBlock)) (Kd.R_apart' (Kd.R_apart' (Kd.R_apart' (Kd.R_apart' (Kd.R_apart' (HO188.out) (Kd.N_typed HO163.out) (by decide)) (Kd.N_typed HO167.out) (by decide)) (Kd.N_typed HO173.out) (by decide)) (Kd.N_typed HO177.out) (by decide)) (Kd.N_typed HO184.out) (by decide)) (fun k_ hk => ⟨hk.1.1.1.1.2, ⟨hk.1.1.1.2, ⟨hk.1.1.2, ⟨hk.1.2, hk.2⟩⟩⟩⟩))))) (Reps.none _ _))); intro v190 w38 ho39 hb hg_ hnew_; clear hg_ hnew_; (first | rw [← Ny189.out] at ho39 | (simp only [Int.reduceToNat] at ho39; rw [← Ny189.out] at ho39)); have n0_ := zm (Kd.N_elder' (by (with_reducible repeat (first | apply Kd.N_alloc | apply Kd.N_drewN | apply Kd.N_drew)); exact HO163.out) (Kd.N_base ho39) hb); have n1_ := zm (Kd.N_elder' (by (with_reducible repeat (first | apply Kd.N_alloc | apply Kd.N_drewN | apply Kd.N_drew)); exact HO167.out) (Kd.N_base ho39) hb); have n2_ := zm (Kd.N_elder' (by (with_reducible repeat (first | apply Kd.N_alloc | apply Kd.N_drewN | apply Kd.N_drew)); exact HO173.out) (Kd.N_base ho39) hb); have n3_ := zm (Kd.N_elder' (by (with_reducible repeat (first | apply Kd.N_alloc | apply Kd.N_drewN | apply Kd.N_drew)); exact HO177.out) (Kd.N_base ho39) hb); have n4_ := zm (Kd.N_elder' (by (with_reducible repeat (first | apply Kd.N_alloc | apply Kd.N_drewN | apply Kd.N_drew)); exact HO184.out) (Kd.N_base ho39) hb); have n5_ := zm (Kd.N_lower ho39 (zE (by repeat (first | (with_reducible first | exact HB.out | apply ze | apply zd | apply zf) | exact HB.out)))); have n6_ := zm (zJ (by repeat (first | (with_reducible first | exact HB.out | apply ze | apply zd | apply zf) | exact HB.out)) hb); clear HO163; clear HO167; clear HO173; clear HO177; clear HO184; clear HB; clear HO188; have HO163 := n0_; have HO167 := n1_; have HO173 := n2_; have HO177 := n3_; have HO184 := n4_; have HO191 := n5_; have HB := n6_; clear n0_ n1_ n2_ n3_ n4_ n5_ n6_; clear hb ho39; obtain ⟨Ao40, co40, eo40⟩ := Kd.N_slice HO177.out; subst eo40; obtain ⟨Ao41, co41, eo41⟩ := Kd.N_slice HO191.out; subst eo41) | (go_at_call 17; (with_reducible refine (psalteryref12_Same.calls k _ _ t174 _ _ y189 true _ ?side1 ?side2 ?side3 ?side4 A8.out).mono ?_); (case side1 => repeat (first | exact (Kd.N_reads' HO177.out).2.2 | (with_reducible refine Kd.C_alloc ?_ _) | (with_reducible refine Kd.C_drewN ?_ _) | (with_reducible refine Kd.C_drew ?_))); (case side2 => exact (Kd.N_reads' HO177.out).2.1); (case side3 => repeat (first | exact (Kd.N_reads' HO191.out).2.2 | (with_reducible refine Kd.C_alloc ?_ _) | (with_reducible refine Kd.C_drewN ?_ _) | (with_reducible refine Kd.C_drew ?_))); (case side4 => exact (Kd.N_reads' HO191.out).2.1); rintro e w' ⟨rfl, ⟨nd, rfl⟩⟩) | (go_at_call 9; (with_reducible refine (alloc_Right.calls 17 2 true _ A11.out).mono ?_); rintro e w' ⟨rfl, ⟨nd, rfl⟩⟩) | (go_at_call 9; (with_reducible refine (alloc_Right.calls 16 2 t194 _ A13.out).mono ?_); rintro e w' ⟨rfl, ⟨nd, rfl⟩⟩))
       go_ret
       exact ⟨by first | rfl | (simp [errW_none, errW_some] <;> rfl) | (simp [*, errW_none, errW_some] <;> rfl), by repeat (first | (with_reducible first | exact HB.out | apply ze | apply zd | apply zf) | exact HB.out)⟩
      ·
       replace c12 := Bool.eq_false_iff.mpr c12
       subst c12
       have H1 : (none) = some r := by rw [if_neg (show ¬ (false = true) by decide)] at H; exact H
       clear H
       have H := H1
       clear H1
       exact absurd H (by simp)
     ·
      rw [if_neg c10] at H
      exact absurd H (by simp)
    ·
     replace c9 := Bool.eq_false_iff.mpr c9
     subst c9
     have H1 : (none) = some r := by rw [if_neg (show ¬ (false = true) by decide)] at H; exact H
     clear H
     have H := H1
     clear H1
     exact absurd H (by simp)
   ·
    rw [if_neg c7] at H
    exact absurd H (by simp)
  ·
   replace c6 := Bool.eq_false_iff.mpr c6
   subst c6
   have H1 : (none) = some r := by rw [if_neg (show ¬ (false = true) by decide)] at H; exact H
   clear H
   have H := H1
   clear H1
   exact absurd H (by simp)
 ·
  rw [if_neg c4] at H
  exact absurd H (by simp)

end Go.Proofs.Ytbaaedpjaanjnaa.Prt

namespace Go.Proofs.Ytbaaedpjaanjnaa.Prt
open Go.RowKit Go.Proofs.YtbaaedpjaanjnaaW.PrintWords Go.Proofs.YtbaaedpjaanjnaaW.PrintLast Go.Proofs.YtbaaedpjaanjnaaW.PrintMore
attribute [local go_sem] max2_int min2_int max_two min_two max_three min_three max_four min_four   -- for this text's walks alone
set_option linter.unusedVariables false
set_option linter.unusedSimpArgs false

/-! ### psalteryref12_Right: function 10 -/
def psalteryref12_Right.f (a0 : Int) (a1 : Int) : Option (Bool) := if a0 ≤ 60 then (if a1 = 1 then (if a0 ≥ 11 then (some true) else (if a1 = 2 then (some (decide (a0 ≥ 17))) else (some false))) else (if a1 = 2 then (some (decide (a0 ≥ 17))) else (some false))) else (some false)
set_option maxHeartbeats 8000000 in
set_option maxRecDepth 100000 in
theorem psalteryref12_Right.calls (a0 : Int) (a1 : Int) (r : Bool) (w : World) (h : psalteryref12_Right.f a0 a1 = some r) :
  Calls Try.prog 10 #[.int .i64 a0, .int .i64 a1] w fun e w' => e = .returned (.bool r) ∧ Drawn0 w w' := by
 have H : (if a0 ≤ 60 then (if a1 = 1 then (if a0 ≥ 11 then (some true) else (if a1 = 2 then (some (decide (a0 ≥ 17))) else (some false))) else (if a1 = 2 then (some (decide (a0 ≥ 17))) else (some false))) else (some false)) = some r := h
 clear h
 by_cases c3 : a0 ≤ 60
 ·
  rw [if_pos c3] at H
  have c3b0 : decide (a0 ≤ 60) = true := decide_eq_true c3
  clear c3
  by_cases c4 : a1 = 1
  ·
   rw [if_pos c4] at H
   have c4b0 : (a1 == 1) = true := beq_iff_eq.mpr c4
   have c4b1 : (a1 != 1) = false := bne_eq_false_iff_eq.mpr c4
   clear c4
   by_cases c5 : a0 ≥ 11
   ·
    rw [if_pos c5] at H
    have c5b0 : decide (11 ≤ a0) = true := decide_eq_true c5
    clear c5
    obtain rfl := Option.some.inj H
    go_enter Try.func10, Try.ntmps10
    go_wp2
    go_ret
    exact ⟨by first | rfl | (simp; done) | (simp [*]; done), by repeat (first | exact Drawn0.refl _ | apply Drawn0.step)⟩
   ·
    rw [if_neg c5] at H
    have c5b0 : decide (11 ≤ a0) = false := decide_eq_false c5
    clear c5
    by_cases c6 : a1 = 2
    ·
     rw [if_pos c6] at H
     have c6b0 : (a1 == 2) = true := beq_iff_eq.mpr c6
     have c6b1 : (a1 != 2) = false := bne_eq_false_iff_eq.mpr c6
     clear c6
     obtain rfl := Option.some.inj H
     go_enter Try.func10, Try.ntmps10
     go_wp2
     go_ret
     exact ⟨by first | rfl | (simp; done) | (simp [*]; done), by repeat (first | exact Drawn0.refl _ | apply Drawn0.step)⟩
    ·
     rw [if_neg c6] at H
     have c6b0 : (a1 == 2) = false := beq_eq_false_iff_ne.mpr c6
     have c6b1 : (a1 != 2) = true := bne_iff_ne.mpr c6
     obtain rfl := Option.some.inj H
     go_enter Try.func10, Try.ntmps10
     go_wp2
     go_ret
     exact ⟨by first | rfl | (simp; done) | (simp [*]; done), by repeat (first | exact Drawn0.refl _ | apply Drawn0.step)⟩
  ·
   rw [if_neg c4] at H
   have c4b0 : (a1 == 1) = false := beq_eq_false_iff_ne.mpr c4
   have c4b1 : (a1 != 1) = true := bne_iff_ne.mpr c4
   by_cases c7 : a1 = 2
   ·
    rw [if_pos c7] at H
    have c7b0 : (a1 == 2) = true := beq_iff_eq.mpr c7
    have c7b1 : (a1 != 2) = false := bne_eq_false_iff_eq.mpr c7
    clear c7
    obtain rfl := Option.some.inj H
    go_enter Try.func10, Try.ntmps10
    go_wp2
    go_ret
    exact ⟨by first | rfl | (simp; done) | (simp [*]; done), by repeat (first | exact Drawn0.refl _ | apply Drawn0.step)⟩
   ·
    rw [if_neg c7] at H
    have c7b0 : (a1 == 2) = false := beq_eq_false_iff_ne.mpr c7
    have c7b1 : (a1 != 2) = true := bne_iff_ne.mpr c7
    obtain rfl := Option.some.inj H
    go_enter Try.func10, Try.ntmps10
    go_wp2
    go_ret
    exact ⟨by first | rfl | (simp; done) | (simp [*]; done), by repeat (first | exact Drawn0.refl _ | apply Drawn0.step)⟩
 ·
  rw [if_neg c3] at H
  have c3b0 : decide (a0 ≤ 60) = false := decide_eq_false c3
  clear c3
  obtain rfl := Option.some.inj H
  go_enter Try.func10, Try.ntmps10
  go_wp2
  go_ret
  exact ⟨by first | rfl | (simp; done) | (simp [*]; done), by repeat (first | exact Drawn0.refl _ | apply Drawn0.step)⟩

end Go.Proofs.Ytbaaedpjaanjnaa.Prt

namespace Go.Proofs.Ytbaaedpjaanjnaa.Prt
open Go.RowKit Go.Proofs.YtbaaedpjaanjnaaW.PrintWords Go.Proofs.YtbaaedpjaanjnaaW.PrintLast Go.Proofs.YtbaaedpjaanjnaaW.PrintMore
attribute [local go_sem] max2_int min2_int max_two min_two max_three min_three max_four min_four   -- for this text's walks alone
set_option linter.unusedVariables false
set_option linter.unusedSimpArgs false

/-! ### psalteryref12_Room: function 12 -/
def psalteryref12_Room.f (a0 : Int) (a1 : Int) : Option (Int) := (psalteryref12_Right.f a0 a1).bind fun t103 => (if t103 = true then (if a1 = 1 then (some (wrap64 ((wrap64 (8 * a0)) - 86))) else (some (wrap64 (Int.tdiv (wrap64 ((wrap64 (8 * a0)) - 131)) 2)))) else (some 0))
set_option maxHeartbeats 8000000 in
set_option maxRecDepth 100000 in
theorem psalteryref12_Room.calls (a0 : Int) (a1 : Int) (r : Int) (w : World) (h : psalteryref12_Room.f a0 a1 = some r) :
  Calls Try.prog 12 #[.int .i64 a0, .int .i64 a1] w fun e w' => e = .returned (.int .i64 r) ∧ Drawn0 w w' := by
 have H : ((psalteryref12_Right.f a0 a1).bind fun t103 => (if t103 = true then (if a1 = 1 then (some (wrap64 ((wrap64 (8 * a0)) - 86))) else (some (wrap64 (Int.tdiv (wrap64 ((wrap64 (8 * a0)) - 131)) 2)))) else (some 0))) = some r := h
 clear h
 replace H := Option.bind_eq_some_iff.mp H
 obtain ⟨t103, A30, H⟩ := H
 replace H : (if t103 = true then (if a1 = 1 then (some (wrap64 ((wrap64 (8 * a0)) - 86))) else (some (wrap64 (Int.tdiv (wrap64 ((wrap64 (8 * a0)) - 131)) 2)))) else (some 0)) = some r := H
 have A3 := zm A30
 clear A30
 by_cases c4 : t103 = true
 ·
  subst c4
  have H1 : (if a1 = 1 then (some (wrap64 ((wrap64 (8 * a0)) - 86))) else (some (wrap64 (Int.tdiv (wrap64 ((wrap64 (8 * a0)) - 131)) 2)))) = some r := by rw [if_pos rfl] at H; exact H
  clear H
  have H := H1
  clear H1
  by_cases c5 : a1 = 1
  ·
   rw [if_pos c5] at H
   have c5b0 : (a1 == 1) = true := beq_iff_eq.mpr c5
   have c5b1 : (a1 != 1) = false := bne_eq_false_iff_eq.mpr c5
   clear c5
   obtain rfl := Option.some.inj H
   go_enter Try.func12, Try.ntmps12
   go_wp2_with (first | ((with_reducible refine gate_callee (f := 10) rfl ?_); refine goesL_ (some 7) rfl rfl Try.func10 (by kernel_rfl) rfl #[.int .i64 a0, .int .i64 a1] rfl (by (try simp only [List.map_toArray, List.map_cons, List.map_nil]); first | done | rfl | (simp only [List.length_drop, List.length_take]; rfl)) ?_; (with_reducible refine (psalteryref12_Right.calls a0 a1 true _ A3.out).mono ?_); rintro e w' ⟨rfl, ⟨nd, rfl⟩⟩; refine ⟨_, rfl, ?_⟩))
   go_ret
   exact ⟨by first | rfl | (simp; done) | (simp [*]; done), by repeat (first | exact Drawn0.refl _ | apply Drawn0.step)⟩
  ·
   rw [if_neg c5] at H
   have c5b0 : (a1 == 1) = false := beq_eq_false_iff_ne.mpr c5
   have c5b1 : (a1 != 1) = true := bne_iff_ne.mpr c5
   obtain rfl := Option.some.inj H
   go_enter Try.func12, Try.ntmps12
   go_wp2_with (first | ((with_reducible refine gate_callee (f := 10) rfl ?_); refine goesL_ (some 7) rfl rfl Try.func10 (by kernel_rfl) rfl #[.int .i64 a0, .int .i64 a1] rfl (by (try simp only [List.map_toArray, List.map_cons, List.map_nil]); first | done | rfl | (simp only [List.length_drop, List.length_take]; rfl)) ?_; (with_reducible refine (psalteryref12_Right.calls a0 a1 true _ A3.out).mono ?_); rintro e w' ⟨rfl, ⟨nd, rfl⟩⟩; refine ⟨_, rfl, ?_⟩))
   go_ret
   exact ⟨by first | rfl | (simp; done) | (simp [*]; done), by repeat (first | exact Drawn0.refl _ | apply Drawn0.step)⟩
 ·
  replace c4 := Bool.eq_false_iff.mpr c4
  subst c4
  have H1 : (some 0) = some r := by rw [if_neg (show ¬ (false = true) by decide)] at H; exact H
  clear H
  have H := H1
  clear H1
  obtain rfl := Option.some.inj H
  go_enter Try.func12, Try.ntmps12
  go_wp2_with (first | ((with_reducible refine gate_callee (f := 10) rfl ?_); refine goesL_ (some 7) rfl rfl Try.func10 (by kernel_rfl) rfl #[.int .i64 a0, .int .i64 a1] rfl (by (try simp only [List.map_toArray, List.map_cons, List.map_nil]); first | done | rfl | (simp only [List.length_drop, List.length_take]; rfl)) ?_; (with_reducible refine (psalteryref12_Right.calls a0 a1 false _ A3.out).mono ?_); rintro e w' ⟨rfl, ⟨nd, rfl⟩⟩; refine ⟨_, rfl, ?_⟩))
  go_ret
  exact ⟨by first | rfl | (simp; done) | (simp [*]; done), by repeat (first | exact Drawn0.refl _ | apply Drawn0.step)⟩

end Go.Proofs.Ytbaaedpjaanjnaa.Prt

namespace Go.Proofs.Ytbaaedpjaanjnaa.Prt
open Go.RowKit Go.Proofs.YtbaaedpjaanjnaaW.PrintWords Go.Proofs.YtbaaedpjaanjnaaW.PrintLast Go.Proofs.YtbaaedpjaanjnaaW.PrintMore
attribute [local go_sem] max2_int min2_int max_two min_two max_three min_three max_four min_four   -- for this text's walks alone
set_option linter.unusedVariables false
set_option linter.unusedSimpArgs false

/-! ### psalterylaw12_AllocRooms: function 3 -/
def psalterylaw12_AllocRooms.f (k : Nat) (a0 : Int) (a1 : Int) : Option (Bool) := (alloc_Right.f a0 a1).bind fun t195 => ((psalteryref12_Right.f a0 a1).bind fun t196 => (if (t195 == t196) = true then ((alloc_Room.f a0 a1).bind fun t197 => ((psalteryref12_Room.f a0 a1).bind fun t198 => (if t197 = t198 then ((psalterylaw12_knows.f k).bind fun t199 => (some t199)) else (none)))) else (none)))
theorem psalterylaw12_AllocRooms.mono : ∀ a0 a1 k, LeO (psalterylaw12_AllocRooms.f k a0 a1) (psalterylaw12_AllocRooms.f (k + 1) a0 a1) := by
 intro a0 a1 k
 unfold psalterylaw12_AllocRooms.f
 repeat' first
   | (with_reducible exact psalterylaw12_knows.mono _)
   | (with_reducible exact LeO.refl _)
   | (with_reducible exact LeO.none _)
   | (with_reducible refine LeO.ite ?_ ?_)
   | (with_reducible refine LeO.bind ?_ (fun _ => ?_))
   | exact psalterylaw12_knows.mono _
   | exact LeO.none _
   | refine LeO.ite ?_ ?_
   | refine LeO.bind ?_ (fun _ => ?_)
set_option maxHeartbeats 8000000 in
set_option maxRecDepth 100000 in
theorem psalterylaw12_AllocRooms.calls (k : Nat) (a0 : Int) (a1 : Int) (r : Bool) (w : World) (h : psalterylaw12_AllocRooms.f k a0 a1 = some r) :
  Calls Try.prog 3 #[.int .i64 a0, .int .i64 a1] w fun e w' => e = .returned (.bool r) ∧ Below w.heap.size w w' := by
 have HB := zm (Below.refl w.heap.size w)
 have H : ((alloc_Right.f a0 a1).bind fun t195 => ((psalteryref12_Right.f a0 a1).bind fun t196 => (if (t195 == t196) = true then ((alloc_Room.f a0 a1).bind fun t197 => ((psalteryref12_Room.f a0 a1).bind fun t198 => (if t197 = t198 then ((psalterylaw12_knows.f k).bind fun t199 => (some t199)) else (none)))) else (none)))) = some r := h
 clear h
 replace H := Option.bind_eq_some_iff.mp H
 obtain ⟨t195, A30, H⟩ := H
 replace H : ((psalteryref12_Right.f a0 a1).bind fun t196 => (if (t195 == t196) = true then ((alloc_Room.f a0 a1).bind fun t197 => ((psalteryref12_Room.f a0 a1).bind fun t198 => (if t197 = t198 then ((psalterylaw12_knows.f k).bind fun t199 => (some t199)) else (none)))) else (none))) = some r := H
 have A3 := zm A30
 clear A30
 replace H := Option.bind_eq_some_iff.mp H
 obtain ⟨t196, A40, H⟩ := H
 replace H : (if (t195 == t196) = true then ((alloc_Room.f a0 a1).bind fun t197 => ((psalteryref12_Room.f a0 a1).bind fun t198 => (if t197 = t198 then ((psalterylaw12_knows.f k).bind fun t199 => (some t199)) else (none)))) else (none)) = some r := H
 have A4 := zm A40
 clear A40
 by_cases c5 : (t195 == t196) = true
 ·
  rw [if_pos c5] at H
  have c5b0 : (t195 == t196) = true := c5
  (try (have c5b1 : decide (t195 = t196) = true := by simpa using c5))
  (try (have c5b2 : (t195 == t196) = true := by simpa using c5))
  clear c5
  replace H := Option.bind_eq_some_iff.mp H
  obtain ⟨t197, A60, H⟩ := H
  replace H : ((psalteryref12_Room.f a0 a1).bind fun t198 => (if t197 = t198 then ((psalterylaw12_knows.f k).bind fun t199 => (some t199)) else (none))) = some r := H
  have A6 := zm A60
  clear A60
  replace H := Option.bind_eq_some_iff.mp H
  obtain ⟨t198, A70, H⟩ := H
  replace H : (if t197 = t198 then ((psalterylaw12_knows.f k).bind fun t199 => (some t199)) else (none)) = some r := H
  have A7 := zm A70
  clear A70
  by_cases c8 : t197 = t198
  ·
   rw [if_pos c8] at H
   have c8b0 : (t197 == t198) = true := beq_iff_eq.mpr c8
   have c8b1 : (t197 != t198) = false := bne_eq_false_iff_eq.mpr c8
   clear c8
   replace H := Option.bind_eq_some_iff.mp H
   obtain ⟨t199, A90, H⟩ := H
   replace H : (some t199) = some r := H
   have A9 := zm A90
   clear A90
   obtain rfl := Option.some.inj H
   go_enter Try.func3, Try.ntmps3
   go_wp2_with (first | ((with_reducible refine gate_callee (f := 9) rfl ?_); refine goesL_ (some 7) rfl rfl Try.func9 (by kernel_rfl) rfl #[.int .i64 a0, .int .i64 a1] rfl (by (try simp only [List.map_toArray, List.map_cons, List.map_nil]); first | done | rfl | (simp only [List.length_drop, List.length_take]; rfl)) ?_; (with_reducible refine (alloc_Right.calls a0 a1 t195 _ A3.out).mono ?_); rintro e w' ⟨rfl, ⟨nd, rfl⟩⟩; refine ⟨_, rfl, ?_⟩) | ((with_reducible refine gate_callee (f := 10) rfl ?_); refine goesL_ (some 10) rfl rfl Try.func10 (by kernel_rfl) rfl #[.int .i64 a0, .int .i64 a1] rfl (by (try simp only [List.map_toArray, List.map_cons, List.map_nil]); first | done | rfl | (simp only [List.length_drop, List.length_take]; rfl)) ?_; (with_reducible refine (psalteryref12_Right.calls a0 a1 t196 _ A4.out).mono ?_); rintro e w' ⟨rfl, ⟨nd, rfl⟩⟩; refine ⟨_, rfl, ?_⟩) | (go_at_call 11; (with_reducible refine (alloc_Room.calls a0 a1 t197 _ A6.out).mono ?_); rintro e w' ⟨rfl, ⟨nd, rfl⟩⟩) | (go_at_call 12; (with_reducible refine (psalteryref12_Room.calls a0 a1 t198 _ A7.out).mono ?_); rintro e w' ⟨rfl, ⟨nd, rfl⟩⟩) | (go_at_call 13; (with_reducible refine (psalterylaw12_knows.calls k  t199 _ A9.out).mono ?_); rintro e w10 ⟨rfl, hb⟩; have n0_ := zm (zJ (by repeat (first | (with_reducible first | exact HB.out | apply ze | apply zd | apply zf) | exact HB.out)) hb); clear HB; have HB := n0_; clear n0_; (try clear hb); (try clear hb2); (try clear hk); (try clear hi)))
   go_ret
   exact ⟨by first | rfl | (simp [errW_none, errW_some] <;> rfl) | (simp [*, errW_none, errW_some] <;> rfl), by repeat (first | (with_reducible first | exact HB.out | apply ze | apply zd | apply zf) | exact HB.out)⟩
  ·
   rw [if_neg c8] at H
   exact absurd H (by simp)
 ·
  rw [if_neg c5] at H
  exact absurd H (by simp)

/-- THE ONE PURE STATEMENT of psalterylaw12_AllocRooms: yours. -/
def psalterylaw12_AllocRooms.Pure : Prop := ∀ (a0 : Int) (a1 : Int), (Lit.int .i64 a0).wf = true → (Lit.int .i64 a1).wf = true → ∃ k, psalterylaw12_AllocRooms.f k a0 a1 = some true
theorem psalterylaw12_AllocRooms.walk (P : psalterylaw12_AllocRooms.Pure) (a0 : Int) (a1 : Int) (w : World) (w0 : (Lit.int .i64 a0).wf = true) (w1 : (Lit.int .i64 a1).wf = true) :
  Calls Try.prog 3 #[.int .i64 a0, .int .i64 a1] w fun e w' => e = .returned (.bool true) ∧ Below w.heap.size w w' := by
 obtain ⟨k, h⟩ := P a0 a1 w0 w1
 refine (psalterylaw12_AllocRooms.calls k a0 a1 true w h).mono ?_
 rintro e w' ⟨rfl, hd⟩
 exact ⟨rfl, hd⟩

end Go.Proofs.Ytbaaedpjaanjnaa.Prt
