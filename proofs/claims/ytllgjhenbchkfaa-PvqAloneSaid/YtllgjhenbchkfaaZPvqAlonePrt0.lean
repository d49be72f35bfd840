-- Written for this claim by a program of this session (wip/tools/myprint.py) over the kit's printer; Lean checks it.
import Derived.Test.YtllgjhenbchkfaaProg
import Derived.Below
import Derived.Deep.Draws
import Derived.Deep.AppendLies
import Derived.Maps.AppendAt
import Derived.OwnWalk
import Derived.Laws.BytesArg
import Derived.Laws.MakeOwn
import Derived.Laws.OwnMore
import Derived.Deep.OwnRows
import Derived.Tactics
import Derived.Lib.ConvBytes
import Derived.Laws.Slices
import Derived.WalkKit
import Derived.KernelRfl
import Derived.RowKit3
import Derived.Deep.LoopGhost
import Derived.Deep.QuietTactic
import Derived.BigQuiet
import Derived.WideLaws
import Derived.Deep.DeepCutAuto
import Derived.Deep.CutBlock
import Derived.Deep.RegionHeld3
import Derived.Laws.Rows
import Derived.Lib.AppendStr
import Derived.ArgAppend
import Derived.Laws.IdiomCopy
import Derived.OrdersHeld
import Derived.Laws.BitsLemmas
import Derived.RowKit
import Derived.WalkMore
import Derived.Test.YtllgjhenbchkfaaZPvqAloneWWords
import Derived.Test.YtllgjhenbchkfaaZPvqAloneWLast
import Derived.Test.YtllgjhenbchkfaaZPvqAloneWTab
import Derived.Test.YtllgjhenbchkfaaZPvqAloneWFour
import Derived.Test.YtllgjhenbchkfaaZPvqAloneWQPut
import Derived.Test.YtllgjhenbchkfaaZPvqAloneWApart
import Derived.Test.YtllgjhenbchkfaaZPvqAloneWArr
import Derived.Test.YtllgjhenbchkfaaZPvqAloneWZeros
import Derived.Test.YtllgjhenbchkfaaZPvqAloneWFoot
import Derived.Test.YtllgjhenbchkfaaZPvqAloneWKept
import Derived.Test.YtllgjhenbchkfaaZPvqAloneWShare
import Derived.Test.YtllgjhenbchkfaaZPvqAloneWN
import Derived.Test.YtllgjhenbchkfaaZPvqAloneWFootNe
import Derived.Test.YtllgjhenbchkfaaZPvqAloneWAt
import Derived.Test.YtllgjhenbchkfaaZPvqAloneWEqStruct
import Derived.Test.YtllgjhenbchkfaaZPvqAloneWRepsOne
import Derived.Test.YtllgjhenbchkfaaZPvqAloneWInv
import Derived.Test.YtllgjhenbchkfaaZPvqAloneWInvWords
import Derived.Test.YtllgjhenbchkfaaZPvqAloneWGuard
import Derived.Test.YtllgjhenbchkfaaZPvqAloneWNEv
import Derived.Test.YtllgjhenbchkfaaZPvqAloneWMore
namespace Go.Proofs.Ytllgjhenbchkfaa.Prt
open Go.RowKit Go.Proofs.YtllgjhenbchkfaaW.PrintWords Go.Proofs.YtllgjhenbchkfaaW.PrintLast Go.Proofs.YtllgjhenbchkfaaW.PrintMore
attribute [local go_sem] max2_int min2_int max_two min_two max_three min_three max_four min_four   -- for this text's walks alone
set_option linter.unusedVariables false
set_option linter.unusedSimpArgs false



def errW : Option Int → Value
  | none => .nilIface
  | some c => .iface 0 (.int .i64 c)
theorem errW_none : errW none = .nilIface := rfl
theorem errW_some (c : Int) : errW (some c) = .iface 0 (.int .i64 c) := rfl

theorem info2 : (Try.prog.info? 2).map (fun i => (i.zero, i.size, i.bytes)) = some (some (.int .i64 0), 1, 8) := by kernel_rfl
theorem info3 : (Try.prog.info? 3).map (fun i => (i.zero, i.size, i.bytes)) = some (some (.int .i64 0), 1, 8) := by kernel_rfl
theorem info47 : (Try.prog.info? 47).map (fun i => (i.zero, i.size, i.bytes)) = some (some (.agg #[(.int .i64 0), (.int .i64 0)]), 2, 16) := by kernel_rfl
-- the values' own types
/-! #### struct type 47 -/
structure S47 where
  f0 : Int
  f1 : Int
def z47 : S47 := ⟨(0 : Int), (0 : Int)⟩
def k47 : Kd S47 := Kd.iso (Kd.pair (Kd.int .i64) (Kd.int .i64)) (fun x : S47 => (x.f0, x.f1))
theorem k47_open {w : World} {x : S47} {cs : List Value} (h : k47.K w x cs) : cs = [.int .i64 x.f0, .int .i64 x.f1] := by
  obtain ⟨_, _, rfl, rfl, rfl⟩ := h
  exact rfl
theorem k47_openM {w : World} {base : Nat} {ok : Nat → Prop} {x : S47} {cs : List Value} (h : k47.M w base ok x cs) : cs = [.int .i64 x.f0, .int .i64 x.f1] := by
  obtain ⟨_, _, rfl, rfl, rfl⟩ := h
  exact rfl
theorem k47_mk (w : World) (x : S47)  : k47.K w x [.int .i64 x.f0, .int .i64 x.f1] := ⟨[.int .i64 x.f0], [.int .i64 x.f1], rfl, rfl, rfl⟩
theorem k47_mkM (w : World) (base : Nat) (ok : Nat → Prop) (x : S47)  : k47.M w base ok x [.int .i64 x.f0, .int .i64 x.f1] := ⟨[.int .i64 x.f0], [.int .i64 x.f1], rfl, rfl, rfl⟩
def rd_T47 (xs : List S47) (i : Int) : S47 := xs.getD i.toNat z47
theorem at_T47 {w : World} {A : Option Addr} {n : Nat} {xs : List S47} (h : Kd.C k47 w A n xs) (i : Int) (h0 : 0 ≤ i) (h1 : i < n) : ∃ ad , A = some ad ∧ w.cell? (ad.add (i.toNat * 2)) = some (.int .i64 (rd_T47 xs i).f0) ∧ w.cell? ⟨(ad.add (i.toNat * 2)).block, (ad.add (i.toNat * 2)).off + 1, none⟩ = some (.int .i64 (rd_T47 xs i).f1) := by
  obtain ⟨ad, c, e, _, hK, hc0⟩ := Kd.C_get h z47 i h0 h1
  have hc : ∀ j u, c[j]? = some u → w.cell? (ad.add (i.toNat * 2 + j)) = some u := hc0
  obtain rfl := k47_open hK
  exact ⟨ad, e, hc 0 _ rfl, by rw [← add_field _ _ 1 (by omega)]; exact hc 1 _ rfl⟩

theorem zb : type_of% @World.block_lt_of_cell? := @World.block_lt_of_cell?
theorem zn : type_of% @Nat.ne_of_lt := @Nat.ne_of_lt
theorem zg : type_of% @Nat.ne_of_gt := @Nat.ne_of_gt
theorem zd : type_of% @pw_below_drewN := @pw_below_drewN
theorem ze : type_of% @below_alloc := @below_alloc
theorem zf : type_of% @below_drew1 := @below_drew1
theorem zm : type_of% @Aside0.mk := @Aside0.mk
theorem zh : type_of% @blk_drewN := @blk_drewN
theorem zi : type_of% @blk_alloc := @blk_alloc
theorem zj : type_of% @blk_drew := @blk_drew
theorem zk : type_of% @below_set := @below_set
theorem zo : type_of% @Kd.R_alloc := @Kd.R_alloc
theorem zp : type_of% @Kd.R_drewN := @Kd.R_drewN
theorem zq : type_of% @Kd.R_drew := @Kd.R_drew
theorem zs : type_of% @blk_cell := @blk_cell
theorem zu : type_of% @Kd.R_ne := @Kd.R_ne
theorem zv : type_of% @blk_far := @blk_far
theorem zw : type_of% @blk_put := @blk_put
theorem zx : type_of% @blk_frozen := @blk_frozen
theorem zD : type_of% @blk_lt := @blk_lt
theorem zE : type_of% @below_size := @below_size
theorem zF : type_of% @blk_below := @blk_below
theorem zG : type_of% @Kd.R_mono := @Kd.R_mono
theorem zH : type_of% @Kd.R_far := @Kd.R_far
theorem zJ : type_of% @below_step := @below_step
end Go.Proofs.Ytllgjhenbchkfaa.Prt
