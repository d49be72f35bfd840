-- Written for this claim by a program of this session (wip/tools/myprint.py) over the kit's printer; Lean checks it.
import Derived.Test.YtgjdgpkjdffhkaaProg
import Derived.Below
import Derived.Deep.Draws
import Derived.Deep.AppendLies
import Derived.Maps.AppendAt
import Derived.OwnWalk
import Derived.Laws.BytesArg
import Derived.Laws.MakeOwn
import Derived.Laws.OwnMore
import Derived.Deep.OwnRows
import Derived.Tactics
import Derived.Lib.ConvBytes
import Derived.Laws.Slices
import Derived.WalkKit
import Derived.KernelRfl
import Derived.RowKit3
import Derived.Deep.LoopGhost
import Derived.Deep.QuietTactic
import Derived.BigQuiet
import Derived.WideLaws
import Derived.Deep.DeepCutAuto
import Derived.Deep.CutBlock
import Derived.Deep.RegionHeld3
import Derived.Laws.Rows
import Derived.Lib.AppendStr
import Derived.ArgAppend
import Derived.Laws.IdiomCopy
import Derived.OrdersHeld
import Derived.Laws.BitsLemmas
import Derived.RowKit
import Derived.WalkMore
import Derived.Test.YtgjdgpkjdffhkaaZCombOrdersWWords
import Derived.Test.YtgjdgpkjdffhkaaZCombOrdersWLast
import Derived.Test.YtgjdgpkjdffhkaaZCombOrdersWTab
import Derived.Test.YtgjdgpkjdffhkaaZCombOrdersWFour
import Derived.Test.YtgjdgpkjdffhkaaZCombOrdersWQPut
import Derived.Test.YtgjdgpkjdffhkaaZCombOrdersWApart
import Derived.Test.YtgjdgpkjdffhkaaZCombOrdersWArr
import Derived.Test.YtgjdgpkjdffhkaaZCombOrdersWZeros
import Derived.Test.YtgjdgpkjdffhkaaZCombOrdersWFoot
import Derived.Test.YtgjdgpkjdffhkaaZCombOrdersWKept
import Derived.Test.YtgjdgpkjdffhkaaZCombOrdersWShare
import Derived.Test.YtgjdgpkjdffhkaaZCombOrdersWN
import Derived.Test.YtgjdgpkjdffhkaaZCombOrdersWFootNe
import Derived.Test.YtgjdgpkjdffhkaaZCombOrdersWAt
import Derived.Test.YtgjdgpkjdffhkaaZCombOrdersWEqStruct
import Derived.Test.YtgjdgpkjdffhkaaZCombOrdersWRepsOne
import Derived.Test.YtgjdgpkjdffhkaaZCombOrdersWInv
import Derived.Test.YtgjdgpkjdffhkaaZCombOrdersWInvWords
import Derived.Test.YtgjdgpkjdffhkaaZCombOrdersWGuard
import Derived.Test.YtgjdgpkjdffhkaaZCombOrdersWNEv
import Derived.Test.YtgjdgpkjdffhkaaZCombOrdersWMore
namespace Go.Proofs.Ytgjdgpkjdffhkaa.Prt
open Go.RowKit Go.Proofs.YtgjdgpkjdffhkaaW.PrintWords Go.Proofs.YtgjdgpkjdffhkaaW.PrintLast Go.Proofs.YtgjdgpkjdffhkaaW.PrintMore
attribute [local go_sem] max2_int min2_int max_two min_two max_three min_three max_four min_four   -- for this text's walks alone
set_option linter.unusedVariables false
set_option linter.unusedSimpArgs false



def errW : Option Int → Value
  | none => .nilIface
  | some c => .iface 0 (.int .i64 c)
theorem errW_none : errW none = .nilIface := rfl
theorem errW_some (c : Int) : errW (some c) = .iface 0 (.int .i64 c) := rfl

theorem info3 : (Try.prog.info? 3).map (fun i => (i.zero, i.size, i.bytes)) = some (some (.int .i64 0), 1, 8) := by kernel_rfl
theorem info22 : (Try.prog.info? 22).map (fun i => (i.zero, i.size, i.bytes)) = some (some (.int .u64 0), 1, 8) := by kernel_rfl
-- the values' own types

theorem zb : type_of% @World.block_lt_of_cell? := @World.block_lt_of_cell?
theorem zd : type_of% @pw_below_drewN := @pw_below_drewN
theorem ze : type_of% @below_alloc := @below_alloc
theorem zf : type_of% @below_drew1 := @below_drew1
theorem zm : type_of% @Aside0.mk := @Aside0.mk
theorem zi : type_of% @blk_alloc := @blk_alloc
theorem zj : type_of% @blk_drew := @blk_drew
theorem zk : type_of% @below_set := @below_set
theorem zo : type_of% @Kd.R_alloc := @Kd.R_alloc
theorem zp : type_of% @Kd.R_drewN := @Kd.R_drewN
theorem zq : type_of% @Kd.R_drew := @Kd.R_drew
theorem zs : type_of% @blk_cell := @blk_cell
theorem zv : type_of% @blk_far := @blk_far
theorem zx : type_of% @blk_frozen := @blk_frozen
theorem zE : type_of% @below_size := @below_size
theorem zG : type_of% @Kd.R_mono := @Kd.R_mono
theorem zJ : type_of% @below_step := @below_step
end Go.Proofs.Ytgjdgpkjdffhkaa.Prt
