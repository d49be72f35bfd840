-- Written for this claim by a program of this session (wip/tools/myprint.py) over the kit's printer; Lean checks it.
import Derived.Test.YtnmbndkojpjkmaaProg
import Derived.Below
import Derived.Deep.Draws
import Derived.Deep.AppendLies
import Derived.Maps.AppendAt
import Derived.OwnWalk
import Derived.Laws.BytesArg
import Derived.Laws.MakeOwn
import Derived.Laws.OwnMore
import Derived.Deep.OwnRows
import Derived.Tactics
import Derived.Lib.ConvBytes
import Derived.Laws.Slices
import Derived.WalkKit
import Derived.KernelRfl
import Derived.RowKit3
import Derived.Deep.LoopGhost
import Derived.Deep.QuietTactic
import Derived.BigQuiet
import Derived.WideLaws
import Derived.Deep.DeepCutAuto
import Derived.Deep.CutBlock
import Derived.Deep.RegionHeld3
import Derived.Laws.Rows
import Derived.Lib.AppendStr
import Derived.ArgAppend
import Derived.Laws.IdiomCopy
import Derived.OrdersHeld
import Derived.Laws.BitsLemmas
import Derived.RowKit
import Derived.WalkMore
import Derived.Test.YtnmbndkojpjkmaaZPackAnyWWords
import Derived.Test.YtnmbndkojpjkmaaZPackAnyWLast
import Derived.Test.YtnmbndkojpjkmaaZPackAnyWTab
import Derived.Test.YtnmbndkojpjkmaaZPackAnyWFour
import Derived.Test.YtnmbndkojpjkmaaZPackAnyWQPut
import Derived.Test.YtnmbndkojpjkmaaZPackAnyWApart
import Derived.Test.YtnmbndkojpjkmaaZPackAnyWArr
import Derived.Test.YtnmbndkojpjkmaaZPackAnyWZeros
import Derived.Test.YtnmbndkojpjkmaaZPackAnyWFoot
import Derived.Test.YtnmbndkojpjkmaaZPackAnyWKept
import Derived.Test.YtnmbndkojpjkmaaZPackAnyWShare
import Derived.Test.YtnmbndkojpjkmaaZPackAnyWN
import Derived.Test.YtnmbndkojpjkmaaZPackAnyWFootNe
import Derived.Test.YtnmbndkojpjkmaaZPackAnyWAt
import Derived.Test.YtnmbndkojpjkmaaZPackAnyWEqStruct
import Derived.Test.YtnmbndkojpjkmaaZPackAnyWRepsOne
import Derived.Test.YtnmbndkojpjkmaaZPackAnyWInv
import Derived.Test.YtnmbndkojpjkmaaZPackAnyWInvWords
import Derived.Test.YtnmbndkojpjkmaaZPackAnyWGuard
import Derived.Test.YtnmbndkojpjkmaaZPackAnyWNEv
import Derived.Test.YtnmbndkojpjkmaaZPackAnyWMore
namespace Go.Proofs.Ytnmbndkojpjkmaa.Prt
open Go.RowKit Go.Proofs.YtnmbndkojpjkmaaW.PrintWords Go.Proofs.YtnmbndkojpjkmaaW.PrintLast Go.Proofs.YtnmbndkojpjkmaaW.PrintMore
attribute [local go_sem] max2_int min2_int max_two min_two max_three min_three max_four min_four   -- for this text's walks alone
set_option linter.unusedVariables false
set_option linter.unusedSimpArgs false



def errW : Option Int → Value
  | none => .nilIface
  | some c => .iface 0 (.int .i64 c)
theorem errW_none : errW none = .nilIface := rfl
theorem errW_some (c : Int) : errW (some c) = .iface 0 (.int .i64 c) := rfl

theorem info3 : (Try.prog.info? 3).map (fun i => (i.zero, i.size, i.bytes)) = some (some (.int .i64 0), 1, 8) := by kernel_rfl
theorem info5 : (Try.prog.info? 5).map (fun i => (i.zero, i.size, i.bytes)) = some (some (.int .u8 0), 1, 1) := by kernel_rfl
theorem info22 : (Try.prog.info? 22).map (fun i => (i.zero, i.size, i.bytes)) = some (some (.slice none 0 0), 1, 24) := by kernel_rfl
theorem info49 : (Try.prog.info? 49).map (fun i => (i.zero, i.size, i.bytes)) = some (some (.slice none 0 0), 1, 24) := by kernel_rfl
theorem info51 : (Try.prog.info? 51).map (fun i => (i.zero, i.size, i.bytes)) = some (some (.int .u64 0), 1, 8) := by kernel_rfl
-- the values' own types
def rd_L1 (xs : List (List Int)) (i : Int) : (List Int) := xs.getD i.toNat ([] : List Int)
theorem at_L1 {w : World} {A : Option Addr} {n : Nat} {xs : List (List Int)} (h : Kd.C (Kd.slice 3 (Kd.int .i64)) w A n xs) (i : Int) (h0 : 0 ≤ i) (h1 : i < n) : ∃ ad A0 c0, A = some ad ∧ w.cell? (ad.add i.toNat) = some (.slice A0 (rd_L1 xs i).length c0) ∧ (rd_L1 xs i).length ≤ c0 ∧ (Kd.int .i64).C w A0 (rd_L1 xs i).length (rd_L1 xs i) := by
  obtain ⟨ad, c, e, _, hK, hc0⟩ := Kd.C_get h ([] : List Int) i h0 h1
  have hc : ∀ j u, c[j]? = some u → w.cell? (ad.add (i.toNat * 1 + j)) = some u := hc0
  obtain ⟨A0, c0, rfl, l0, g0⟩ := hK
  exact ⟨ad, A0, c0, e, by have hq := hc 0 _ rfl; rwa [Nat.mul_one, Nat.add_zero] at hq, l0, g0⟩

def rd_L2 (xs : List (List (List Int))) (i : Int) : (List (List Int)) := xs.getD i.toNat ([] : List (List Int))
theorem at_L2 {w : World} {A : Option Addr} {n : Nat} {xs : List (List (List Int))} (h : Kd.C (Kd.slice 49 (Kd.slice 3 (Kd.int .i64))) w A n xs) (i : Int) (h0 : 0 ≤ i) (h1 : i < n) : ∃ ad A0 c0, A = some ad ∧ w.cell? (ad.add i.toNat) = some (.slice A0 (rd_L2 xs i).length c0) ∧ (rd_L2 xs i).length ≤ c0 ∧ (Kd.slice 3 (Kd.int .i64)).C w A0 (rd_L2 xs i).length (rd_L2 xs i) := by
  obtain ⟨ad, c, e, _, hK, hc0⟩ := Kd.C_get h ([] : List (List Int)) i h0 h1
  have hc : ∀ j u, c[j]? = some u → w.cell? (ad.add (i.toNat * 1 + j)) = some u := hc0
  obtain ⟨A0, c0, rfl, l0, g0⟩ := hK
  exact ⟨ad, A0, c0, e, by have hq := hc 0 _ rfl; rwa [Nat.mul_one, Nat.add_zero] at hq, l0, g0⟩

theorem zb : type_of% @World.block_lt_of_cell? := @World.block_lt_of_cell?
theorem za : type_of% @add_block := @add_block
theorem zl : type_of% @Nat.lt_of_lt_of_le := @Nat.lt_of_lt_of_le
theorem zn : type_of% @Nat.ne_of_lt := @Nat.ne_of_lt
theorem zg : type_of% @Nat.ne_of_gt := @Nat.ne_of_gt
theorem ze : type_of% @below_alloc := @below_alloc
theorem zf : type_of% @below_drew1 := @below_drew1
theorem zm : type_of% @Aside0.mk := @Aside0.mk
theorem zh : type_of% @blk_drewN := @blk_drewN
theorem zi : type_of% @blk_alloc := @blk_alloc
theorem zj : type_of% @blk_drew := @blk_drew
theorem zk : type_of% @below_set := @below_set
theorem zo : type_of% @Kd.R_alloc := @Kd.R_alloc
theorem zp : type_of% @Kd.R_drewN := @Kd.R_drewN
theorem zq : type_of% @Kd.R_drew := @Kd.R_drew
theorem zr : type_of% @cell_far := @cell_far
theorem zs : type_of% @blk_cell := @blk_cell
theorem zt : type_of% @Kd.own_blk := @Kd.own_blk
theorem zu : type_of% @Kd.R_ne := @Kd.R_ne
theorem zv : type_of% @blk_far := @blk_far
theorem zw : type_of% @blk_put := @blk_put
theorem zx : type_of% @blk_frozen := @blk_frozen
theorem zy : type_of% @Kd.V_mono := @Kd.V_mono
theorem zC : type_of% @Kd.V_drew := @Kd.V_drew
theorem zD : type_of% @blk_lt := @blk_lt
theorem zE : type_of% @below_size := @below_size
theorem zF : type_of% @blk_below := @blk_below
theorem zG : type_of% @Kd.R_mono := @Kd.R_mono
theorem zH : type_of% @Kd.R_far := @Kd.R_far
theorem zJ : type_of% @below_step := @below_step
theorem zK : type_of% @gate_callee := @gate_callee
theorem zL : type_of% @gate_dst := @gate_dst
theorem zM : type_of% @Option.some.injEq := @Option.some.injEq
theorem zN : type_of% @Prod.mk.injEq := @Prod.mk.injEq
theorem zO : type_of% @Option.some.inj := @Option.some.inj
theorem zP : type_of% @eq_true := @eq_true
theorem zQ : type_of% @Kd.R_reads' := @Kd.R_reads'
theorem zR : type_of% @Kd.V_reads' := @Kd.V_reads'
theorem zS : type_of% @Kd.S_reads' := @Kd.S_reads'
theorem zT : type_of% @Kd.R_slice := @Kd.R_slice
theorem zU : type_of% @Kd.V_slice := @Kd.V_slice
theorem zV : type_of% @Kd.S_slice := @Kd.S_slice
theorem zW : type_of% @Kd.R_base := @Kd.R_base
theorem zX : type_of% @Nat.le_refl := @Nat.le_refl
theorem zY : type_of% @Below.refl := @Below.refl
theorem zZ : type_of% @Kd.R_apart' := @Kd.R_apart'
theorem za0 : type_of% @Kd.R_lower := @Kd.R_lower
theorem za1 : type_of% @bodyPost_ret := @bodyPost_ret
theorem za2 : type_of% @store_event := @store_event
theorem za3 : type_of% @Bool.eq_false_iff := @Bool.eq_false_iff
theorem za4 : type_of% @if_pos := @if_pos
theorem za5 : type_of% @if_neg := @if_neg
theorem za6 : type_of% @Kd.R_elder' := @Kd.R_elder'
theorem za7 : type_of% @Kd.V_elder' := @Kd.V_elder'
theorem za8 : type_of% @Kd.S_elder' := @Kd.S_elder'
theorem za9 : type_of% @List.setIfInBounds_toArray := @List.setIfInBounds_toArray
theorem zb0 : type_of% @List.set_cons_zero := @List.set_cons_zero
theorem zb1 : type_of% @List.set_cons_succ := @List.set_cons_succ
theorem zb2 : type_of% @results_cell_row := @results_cell_row
theorem zb3 : type_of% @Kd.C_kept_now := @Kd.C_kept_now
theorem zb4 : type_of% @Kept.drewN := @Kept.drewN
theorem zb5 : type_of% @Kept.alloc := @Kept.alloc
theorem zb6 : type_of% @Kept.drew := @Kept.drew
theorem zb7 : type_of% @Kd.at_int := @Kd.at_int
theorem zb8 : type_of% @gate_store := @gate_store
theorem zb9 : type_of% @gate_builtin := @gate_builtin
theorem zc0 : type_of% @Kd.R_after := @Kd.R_after
theorem zc1 : type_of% @Kd.V_afterv := @Kd.V_afterv
theorem zc2 : type_of% @Kd.fresh' := @Kd.fresh'
theorem zc3 : type_of% @blk_grown := @blk_grown
end Go.Proofs.Ytnmbndkojpjkmaa.Prt
