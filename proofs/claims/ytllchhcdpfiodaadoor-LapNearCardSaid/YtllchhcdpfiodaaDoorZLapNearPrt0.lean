-- Written for this claim by a program of this session (wip/tools/myprint.py) over the kit's printer; Lean checks it.
import Derived.Test.YtllchhcdpfiodaaDoorProg
import Derived.Below
import Derived.Deep.Draws
import Derived.Deep.AppendLies
import Derived.Maps.AppendAt
import Derived.OwnWalk
import Derived.Laws.BytesArg
import Derived.Laws.MakeOwn
import Derived.Laws.OwnMore
import Derived.Deep.OwnRows
import Derived.Tactics
import Derived.Lib.ConvBytes
import Derived.Laws.Slices
import Derived.WalkKit
import Derived.KernelRfl
import Derived.RowKit3
import Derived.Deep.LoopGhost
import Derived.Deep.QuietTactic
import Derived.BigQuiet
import Derived.WideLaws
import Derived.Deep.DeepCutAuto
import Derived.Deep.CutBlock
import Derived.Deep.RegionHeld3
import Derived.Laws.Rows
import Derived.Lib.AppendStr
import Derived.ArgAppend
import Derived.Laws.IdiomCopy
import Derived.OrdersHeld
import Derived.Laws.BitsLemmas
import Derived.RowKit
import Derived.WalkMore
import Derived.Test.YtllchhcdpfiodaaDoorZLapNearWWords
import Derived.Test.YtllchhcdpfiodaaDoorZLapNearWLast
import Derived.Test.YtllchhcdpfiodaaDoorZLapNearWTab
import Derived.Test.YtllchhcdpfiodaaDoorZLapNearWFour
import Derived.Test.YtllchhcdpfiodaaDoorZLapNearWQPut
import Derived.Test.YtllchhcdpfiodaaDoorZLapNearWApart
import Derived.Test.YtllchhcdpfiodaaDoorZLapNearWArr
import Derived.Test.YtllchhcdpfiodaaDoorZLapNearWZeros
import Derived.Test.YtllchhcdpfiodaaDoorZLapNearWFoot
import Derived.Test.YtllchhcdpfiodaaDoorZLapNearWKept
import Derived.Test.YtllchhcdpfiodaaDoorZLapNearWShare
import Derived.Test.YtllchhcdpfiodaaDoorZLapNearWN
import Derived.Test.YtllchhcdpfiodaaDoorZLapNearWFootNe
import Derived.Test.YtllchhcdpfiodaaDoorZLapNearWAt
import Derived.Test.YtllchhcdpfiodaaDoorZLapNearWEqStruct
import Derived.Test.YtllchhcdpfiodaaDoorZLapNearWRepsOne
import Derived.Test.YtllchhcdpfiodaaDoorZLapNearWInv
import Derived.Test.YtllchhcdpfiodaaDoorZLapNearWInvWords
import Derived.Test.YtllchhcdpfiodaaDoorZLapNearWGuard
import Derived.Test.YtllchhcdpfiodaaDoorZLapNearWNEv
import Derived.Test.YtllchhcdpfiodaaDoorZLapNearWMore
namespace Go.Proofs.YtllchhcdpfiodaaDoor.Prt
open Go.RowKit Go.Proofs.YtllchhcdpfiodaaDoorW.PrintWords Go.Proofs.YtllchhcdpfiodaaDoorW.PrintLast Go.Proofs.YtllchhcdpfiodaaDoorW.PrintMore
attribute [local go_sem] max2_int min2_int max_two min_two max_three min_three max_four min_four   -- for this text's walks alone
set_option linter.unusedVariables false
set_option linter.unusedSimpArgs false



def errW : Option Int → Value
  | none => .nilIface
  | some c => .iface 0 (.int .i64 c)
theorem errW_none : errW none = .nilIface := rfl
theorem errW_some (c : Int) : errW (some c) = .iface 0 (.int .i64 c) := rfl

theorem info2 : (Tryd.prog.info? 2).map (fun i => (i.zero, i.size, i.bytes)) = some (some (.int .i64 0), 1, 8) := by kernel_rfl
theorem info22 : (Tryd.prog.info? 22).map (fun i => (i.zero, i.size, i.bytes)) = some (some (.slice none 0 0), 1, 24) := by kernel_rfl
-- the values' own types
def rd_L1 (xs : List (List Int)) (i : Int) : (List Int) := xs.getD i.toNat ([] : List Int)
theorem at_L1 {w : World} {A : Option Addr} {n : Nat} {xs : List (List Int)} (h : Kd.C (Kd.slice 2 (Kd.int .i64)) w A n xs) (i : Int) (h0 : 0 ≤ i) (h1 : i < n) : ∃ ad A0 c0, A = some ad ∧ w.cell? (ad.add i.toNat) = some (.slice A0 (rd_L1 xs i).length c0) ∧ (rd_L1 xs i).length ≤ c0 ∧ (Kd.int .i64).C w A0 (rd_L1 xs i).length (rd_L1 xs i) := by
  obtain ⟨ad, c, e, _, hK, hc0⟩ := Kd.C_get h ([] : List Int) i h0 h1
  have hc : ∀ j u, c[j]? = some u → w.cell? (ad.add (i.toNat * 1 + j)) = some u := hc0
  obtain ⟨A0, c0, rfl, l0, g0⟩ := hK
  exact ⟨ad, A0, c0, e, by have hq := hc 0 _ rfl; rwa [Nat.mul_one, Nat.add_zero] at hq, l0, g0⟩

theorem zb : type_of% @World.block_lt_of_cell? := @World.block_lt_of_cell?
theorem zd : type_of% @pw_below_drewN := @pw_below_drewN
theorem ze : type_of% @below_alloc := @below_alloc
theorem zf : type_of% @below_drew1 := @below_drew1
theorem zm : type_of% @Aside0.mk := @Aside0.mk
theorem zk : type_of% @below_set := @below_set
theorem zo : type_of% @Kd.R_alloc := @Kd.R_alloc
theorem zp : type_of% @Kd.R_drewN := @Kd.R_drewN
theorem zq : type_of% @Kd.R_drew := @Kd.R_drew
theorem zy : type_of% @Kd.V_mono := @Kd.V_mono
theorem zA : type_of% @Kd.V_alloc := @Kd.V_alloc
theorem zB : type_of% @Kd.V_drewN := @Kd.V_drewN
theorem zC : type_of% @Kd.V_drew := @Kd.V_drew
theorem zE : type_of% @below_size := @below_size
theorem zG : type_of% @Kd.R_mono := @Kd.R_mono
theorem zJ : type_of% @below_step := @below_step
end Go.Proofs.YtllchhcdpfiodaaDoor.Prt
