-- Functions of the program and of the document as plain Lean, each with the proof that the code comes to it. Written by a program of this session (wip/tools/myprint.py, pack.py) over the kit's printer; Lean checks it.
import Derived.Test.YtbaaedpjaanjnaaZAllocSpendsPrt0
import Derived.Test.YtbaaedpjaanjnaaZAllocSpendsM1
import Derived.Test.YtbaaedpjaanjnaaZAllocSpendsM2
namespace Go.Proofs.Ytbaaedpjaanjnaa.Prt
open Go.RowKit Go.Proofs.YtbaaedpjaanjnaaW.PrintWords Go.Proofs.YtbaaedpjaanjnaaW.PrintLast Go.Proofs.YtbaaedpjaanjnaaW.PrintMore
attribute [local go_sem] max2_int min2_int max_two min_two max_three min_three max_four min_four   -- for this text's walks alone
set_option linter.unusedVariables false
set_option linter.unusedSimpArgs false

/-! ### psalterylaw12_AllocSpends: function 6 -/
mutual
def psalterylaw12_AllocSpends.l0 : Nat→Int→Int→List (List Int)→List (List Int)→Int→Option (Bool)
 | 0,_,_,_,_,_=>none
 | k+1,x0,x1,x2,x7,x9=>if x9 < (x7.length : Int) then (if 0≤x9 then (if ((rd_L1 x7 x9).length : Int)=5 then (psalterylaw12_AllocSpends.l1 k x0 x1 x2 x7 x9 0) else (none)) else (none)) else ((psalterylaw12_knows.f k).bind fun t294=>(some t294))
def psalterylaw12_AllocSpends.l1 : Nat→Int→Int→List (List Int)→List (List Int)→Int→Int→Option (Bool)
 | 0,_,_,_,_,_,_=>none
 | k+1,x0,x1,x2,x7,x9,x10=>if x10 < 5 then (if 0≤x9 then (if x9 < (x7.length : Int) then (if 0≤x10 then (if x10 < ((rd_L1 x7 x9).length : Int) then (if (rd (rd_L1 x7 x9) x10) < 0 then (none) else (if (rd (rd_L1 x7 x9) x10) > 12 then (none) else (if x9 < (x2.length : Int) then (if x10 < ((rd_L1 x2 x9).length : Int) then (if (rd (rd_L1 x2 x9) x10)=0 then (if (rd (rd_L1 x7 x9) x10)=0 then ((psalteryref10_Width.f k x10).bind fun t304=>(if t304=1 then (if (rd (rd_L1 x7 x9) x10) > 1 then (none) else ((alloc_Room.f x0 x1).bind fun t309=>((psalteryref12_May.f k (rd_L1 x2 x9) (rd_L1 x7 x9) x10 t309).bind fun t310=>(if t310=true then (none) else (psalterylaw12_AllocSpends.l1 k x0 x1 x2 x7 x9 (wrap64 (x10+1))))))) else ((alloc_Room.f x0 x1).bind fun t313=>((psalteryref12_May.f k (rd_L1 x2 x9) (rd_L1 x7 x9) x10 t313).bind fun t314=>(if t314=true then (none) else (psalterylaw12_AllocSpends.l1 k x0 x1 x2 x7 x9 (wrap64 (x10+1)))))))) else (none)) else ((psalteryref10_Width.f k x10).bind fun t315=>(if t315=1 then (if (rd (rd_L1 x7 x9) x10) > 1 then (none) else ((alloc_Room.f x0 x1).bind fun t320=>((psalteryref12_May.f k (rd_L1 x2 x9) (rd_L1 x7 x9) x10 t320).bind fun t321=>(if t321=true then (none) else (psalterylaw12_AllocSpends.l1 k x0 x1 x2 x7 x9 (wrap64 (x10+1))))))) else ((alloc_Room.f x0 x1).bind fun t324=>((psalteryref12_May.f k (rd_L1 x2 x9) (rd_L1 x7 x9) x10 t324).bind fun t325=>(if t325=true then (none) else (psalterylaw12_AllocSpends.l1 k x0 x1 x2 x7 x9 (wrap64 (x10+1))))))))) else (none)) else (none)))) else (none)) else (none)) else (none)) else (none)) else (psalterylaw12_AllocSpends.l0 k x0 x1 x2 x7 (wrap64 (x9+1)))
end
def psalterylaw12_AllocSpends.f (k : Nat) (a0 : Int) (a1 : Int) (l2 : List (List Int)) : Option (Bool):=(psalterylaw12_great.f k l2).bind fun t287=>(if t287=true then ((psalterylaw12_knows.f k).bind fun t288=>(some t288)) else ((alloc_Pulses.f k a0 a1 l2).bind fun bt289=>(if bt289.2=0 then (psalterylaw12_AllocSpends.l0 k a0 a1 l2 bt289.1 0) else (if (bt289.1.length : Int)=0 then ((psalterylaw12_knows.f k).bind fun t293=>(some t293)) else (none)))))
theorem psalterylaw12_AllocSpends.mono_l : ∀ k,(∀ y0 y1 y2 y3 y4,LeO (psalterylaw12_AllocSpends.l0 k y0 y1 y2 y3 y4) (psalterylaw12_AllocSpends.l0 (k+1) y0 y1 y2 y3 y4))∧(∀ y0 y1 y2 y3 y4 y5,LeO (psalterylaw12_AllocSpends.l1 k y0 y1 y2 y3 y4 y5) (psalterylaw12_AllocSpends.l1 (k+1) y0 y1 y2 y3 y4 y5))
 | 0=>⟨fun _ _ _ _ _ r h=>by simp [psalterylaw12_AllocSpends.l0] at h,fun _ _ _ _ _ _ r h=>by simp [psalterylaw12_AllocSpends.l1] at h⟩
 | k+1=>by
  obtain ⟨ih0,ih1⟩:=psalterylaw12_AllocSpends.mono_l k
  refine ⟨?_, ?_⟩
  ·
   intro y0 y1 y2 y3 y4
   unfold psalterylaw12_AllocSpends.l0
   repeat' first
   | (with_reducible exact ih0 _ _ _ _ _)
   | (with_reducible exact ih1 _ _ _ _ _ _)
   | (with_reducible exact alloc_Pulses.mono _ _ _ _)
   | (with_reducible exact psalterylaw12_great.mono _ _)
   | (with_reducible exact psalterylaw12_knows.mono _)
   | (with_reducible exact psalteryref10_Width.mono _ _)
   | (with_reducible exact psalteryref12_May.mono _ _ _ _ _)
   | (with_reducible exact LeO.refl _)
   | (with_reducible exact LeO.none _)
   | (with_reducible refine LeO.ite ?_ ?_)
   | (with_reducible refine LeO.bind ?_ (fun _ => ?_))
   | exact ih0 _ _ _ _ _
   | exact ih1 _ _ _ _ _ _
   | exact alloc_Pulses.mono _ _ _ _
   | exact psalterylaw12_great.mono _ _
   | exact psalterylaw12_knows.mono _
   | exact psalteryref10_Width.mono _ _
   | exact psalteryref12_May.mono _ _ _ _ _
   | exact LeO.none _
   | refine LeO.ite ?_ ?_
   | refine LeO.bind ?_ (fun _ => ?_)
  ·
   intro y0 y1 y2 y3 y4 y5
   unfold psalterylaw12_AllocSpends.l1
   repeat' first
   | (with_reducible exact ih0 _ _ _ _ _)
   | (with_reducible exact ih1 _ _ _ _ _ _)
   | (with_reducible exact alloc_Pulses.mono _ _ _ _)
   | (with_reducible exact psalterylaw12_great.mono _ _)
   | (with_reducible exact psalterylaw12_knows.mono _)
   | (with_reducible exact psalteryref10_Width.mono _ _)
   | (with_reducible exact psalteryref12_May.mono _ _ _ _ _)
   | (with_reducible exact LeO.refl _)
   | (with_reducible exact LeO.none _)
   | (with_reducible refine LeO.ite ?_ ?_)
   | (with_reducible refine LeO.bind ?_ (fun _ => ?_))
   | exact ih0 _ _ _ _ _
   | exact ih1 _ _ _ _ _ _
   | exact alloc_Pulses.mono _ _ _ _
   | exact psalterylaw12_great.mono _ _
   | exact psalterylaw12_knows.mono _
   | exact psalteryref10_Width.mono _ _
   | exact psalteryref12_May.mono _ _ _ _ _
   | exact LeO.none _
   | refine LeO.ite ?_ ?_
   | refine LeO.bind ?_ (fun _ => ?_)
theorem psalterylaw12_AllocSpends.mono : ∀ a0 a1 a2 k,LeO (psalterylaw12_AllocSpends.f k a0 a1 a2) (psalterylaw12_AllocSpends.f (k+1) a0 a1 a2):=by
 intro a0 a1 a2 k
 obtain ⟨ih0,ih1⟩:=psalterylaw12_AllocSpends.mono_l k
 unfold psalterylaw12_AllocSpends.f
 repeat' first
   | (with_reducible exact ih0 _ _ _ _ _)
   | (with_reducible exact ih1 _ _ _ _ _ _)
   | (with_reducible exact alloc_Pulses.mono _ _ _ _)
   | (with_reducible exact psalterylaw12_great.mono _ _)
   | (with_reducible exact psalterylaw12_knows.mono _)
   | (with_reducible exact psalteryref10_Width.mono _ _)
   | (with_reducible exact psalteryref12_May.mono _ _ _ _ _)
   | (with_reducible exact LeO.refl _)
   | (with_reducible exact LeO.none _)
   | (with_reducible refine LeO.ite ?_ ?_)
   | (with_reducible refine LeO.bind ?_ (fun _ => ?_))
   | exact ih0 _ _ _ _ _
   | exact ih1 _ _ _ _ _ _
   | exact alloc_Pulses.mono _ _ _ _
   | exact psalterylaw12_great.mono _ _
   | exact psalterylaw12_knows.mono _
   | exact psalteryref10_Width.mono _ _
   | exact psalteryref12_May.mono _ _ _ _ _
   | exact LeO.none _
   | refine LeO.ite ?_ ?_
   | refine LeO.bind ?_ (fun _ => ?_)
def psalterylaw12_AllocSpends.T14 : Bool × List (List Nat × List Nat):=(true, [([], []),([], []),([0,1], [0,1]),([2], [2]),([], []),([3,4], [3,4]),([5], [5]),([6], [6]),([7], [7]),([8], [8]),([8], [8]),([9,10,8], [8,9,10]),([11,8], [8,11]),([8], [8]),([12,13,8], [8,12,13]),([14,8], [8,14]),([15,8], [8,15]),([8,16], [8,16]),([17,8], [17]),([18], [18]),([18], [18]),([19,20,18], [18,19,20]),([21,18], [18,21]),([18], [18]),([22,23,18], [18,22,23]),([24,18], [18,24]),([25,18], [18,25]),([26,18,18], [18,26]),([27], [27]),([27], [27]),([28,29,27], [27,28,29]),([30,27], [27,30]),([27], [27]),([31,32,27], [27,31,32]),([33,27], [27,33]),([34,27], [27,34]),([27,35,18], [18,27,35]),([18,36], [18,36]),([37,27], [37]),([38], [38]),([39,38,38], [38,39]),([40,38], [38,40]),([41,40,38], [38,41]),([42], [42]),([42], [42]),([43,44,42], [42,43,44]),([45,42], [42,45]),([42], [42]),([46,47,42], [42,46,47]),([48,42], [42,48]),([49,42], [42,49]),([42,50,38], [38,42,50]),([38,51], [38,51]),([52,42], [52]),([53], [53]),([53], [53]),([54,55,53], [53,54,55]),([56,53], [53,56]),([53], [53]),([53], [53]),([58,59,53], [53,58,59]),([60,53], [53,60]),([53], [53]),([53], [53]),([53], [53]),([63,64,53,53], [53,63,64]),([57,61,62,65,65,53], [53,57,61,62,65]),([53,66], [53,66])])
def psalterylaw12_AllocSpends.B14 : List Nat := [0,0,3,7,0,31,63,127,255,511,511,2047,4095,511,16383,32767,65535,131071,262143,524287,524287,2097151,4194303,524287,16777215,33554431,67108863,134217727,268435455,268435455,1073741823,2147483647,268435455,8589934591,17179869183,34359738367,68719476735,137438953471,274877906943,549755813887,1099511627775,2199023255551,4398046511103,8796093022207,8796093022207,35184372088831,70368744177663,8796093022207,281474976710655,562949953421311,1125899906842623,2251799813685247,4503599627370495,9007199254740991,18014398509481983,18014398509481983,72057594037927935,144115188075855871,18014398509481983,18014398509481983,882705526964617215,2035627031571464191,18014398509481983,18014398509481983,18014398509481983,27688130509073809407,73786976294838206463,147573952589676412927]
theorem psalterylaw12_AllocSpends.tab14 : rtab .any (opsOf Try.f6 14)=psalterylaw12_AllocSpends.T14:=by kernel_rfl
theorem psalterylaw12_AllocSpends.bits14 : waitsOk psalterylaw12_AllocSpends.T14.2 psalterylaw12_AllocSpends.B14=true:=by kernel_rfl
abbrev spz_m0 : Array Bool := #[false,false,false,false,false,false,false,false,false,false,false,false,false,false,false,false,false,false,false,false,false,false,false,false,false,false,false,false,false,false,false,false,false,false,false,false,false,false,false,false,false,false,false,false,false,false,false,false,false,false,false,false,false,false,false,false,false,false,false,false,false,false,false,false,false,false,false,false]
abbrev spz_m1 : Array Bool := #[true,false,false,false,false,false,false,false,false,false,false,false,false,false,false,false,false,false,false,false,false,false,false,false,false,false,false,false,false,false,false,false,false,false,false,false,false,false,false,false,false,false,false,false,false,false,false,false,false,false,false,false,false,false,false,false,false,false,false,false,false,false,false,false,false,false,false,false]
abbrev spz_m2 : Array Bool := #[true,true,false,false,false,false,false,false,false,false,false,false,false,false,false,false,false,false,false,false,false,false,false,false,false,false,false,false,false,false,false,false,false,false,false,false,false,false,false,false,false,false,false,false,false,false,false,false,false,false,false,false,false,false,false,false,false,false,false,false,false,false,false,false,false,false,false,false]
abbrev spz_m3 : Array Bool := #[true,true,true,false,false,false,false,false,false,false,false,false,false,false,false,false,false,false,false,false,false,false,false,false,false,false,false,false,false,false,false,false,false,false,false,false,false,false,false,false,false,false,false,false,false,false,false,false,false,false,false,false,false,false,false,false,false,false,false,false,false,false,false,false,false,false,false,false]
abbrev spz_m4 : Array Bool := #[true,true,true,false,true,false,false,false,false,false,false,false,false,false,false,false,false,false,false,false,false,false,false,false,false,false,false,false,false,false,false,false,false,false,false,false,false,false,false,false,false,false,false,false,false,false,false,false,false,false,false,false,false,false,false,false,false,false,false,false,false,false,false,false,false,false,false,false]
abbrev spz_m5 : Array Bool := #[true,true,true,true,true,false,false,false,false,false,false,false,false,false,false,false,false,false,false,false,false,false,false,false,false,false,false,false,false,false,false,false,false,false,false,false,false,false,false,false,false,false,false,false,false,false,false,false,false,false,false,false,false,false,false,false,false,false,false,false,false,false,false,false,false,false,false,false]
abbrev spz_m6 : Array Bool := #[true,true,true,true,true,true,false,false,false,false,false,false,false,false,false,false,false,false,false,false,false,false,false,false,false,false,false,false,false,false,false,false,false,false,false,false,false,false,false,false,false,false,false,false,false,false,false,false,false,false,false,false,false,false,false,false,false,false,false,false,false,false,false,false,false,false,false,false]
abbrev spz_m7 : Array Bool := #[true,true,true,true,true,true,true,false,false,false,false,false,false,false,false,false,false,false,false,false,false,false,false,false,false,false,false,false,false,false,false,false,false,false,false,false,false,false,false,false,false,false,false,false,false,false,false,false,false,false,false,false,false,false,false,false,false,false,false,false,false,false,false,false,false,false,false,false]
abbrev spz_m8 : Array Bool := #[true,true,true,true,true,true,true,true,false,false,false,false,false,false,false,false,false,false,false,false,false,false,false,false,false,false,false,false,false,false,false,false,false,false,false,false,false,false,false,false,false,false,false,false,false,false,false,false,false,false,false,false,false,false,false,false,false,false,false,false,false,false,false,false,false,false,false,false]
abbrev spz_m9 : Array Bool := #[true,true,true,true,true,true,true,true,true,false,false,false,false,false,false,false,false,false,false,false,false,false,false,false,false,false,false,false,false,false,false,false,false,false,false,false,false,false,false,false,false,false,false,false,false,false,false,false,false,false,false,false,false,false,false,false,false,false,false,false,false,false,false,false,false,false,false,false]
abbrev spz_m10 : Array Bool := #[true,true,true,true,true,true,true,true,true,true,false,false,false,false,false,false,false,false,false,false,false,false,false,false,false,false,false,false,false,false,false,false,false,false,false,false,false,false,false,false,false,false,false,false,false,false,false,false,false,false,false,false,false,false,false,false,false,false,false,false,false,false,false,false,false,false,false,false]
abbrev spz_m11 : Array Bool := #[true,true,true,true,true,true,true,true,true,true,true,false,false,false,false,false,false,false,false,false,false,false,false,false,false,false,false,false,false,false,false,false,false,false,false,false,false,false,false,false,false,false,false,false,false,false,false,false,false,false,false,false,false,false,false,false,false,false,false,false,false,false,false,false,false,false,false,false]
abbrev spz_m12 : Array Bool := #[true,true,true,true,true,true,true,true,true,true,true,true,false,false,false,false,false,false,false,false,false,false,false,false,false,false,false,false,false,false,false,false,false,false,false,false,false,false,false,false,false,false,false,false,false,false,false,false,false,false,false,false,false,false,false,false,false,false,false,false,false,false,false,false,false,false,false,false]
abbrev spz_m13 : Array Bool := #[true,true,true,true,true,true,true,true,true,true,true,true,false,true,false,false,false,false,false,false,false,false,false,false,false,false,false,false,false,false,false,false,false,false,false,false,false,false,false,false,false,false,false,false,false,false,false,false,false,false,false,false,false,false,false,false,false,false,false,false,false,false,false,false,false,false,false,false]
abbrev spz_m14 : Array Bool := #[true,true,true,true,true,true,true,true,true,true,true,true,true,true,false,false,false,false,false,false,false,false,false,false,false,false,false,false,false,false,false,false,false,false,false,false,false,false,false,false,false,false,false,false,false,false,false,false,false,false,false,false,false,false,false,false,false,false,false,false,false,false,false,false,false,false,false,false]
abbrev spz_m15 : Array Bool := #[true,true,true,true,true,true,true,true,true,true,true,true,true,true,true,false,false,false,false,false,false,false,false,false,false,false,false,false,false,false,false,false,false,false,false,false,false,false,false,false,false,false,false,false,false,false,false,false,false,false,false,false,false,false,false,false,false,false,false,false,false,false,false,false,false,false,false,false]
abbrev spz_m16 : Array Bool := #[true,true,true,true,true,true,true,true,true,true,true,true,true,true,true,true,false,false,false,false,false,false,false,false,false,false,false,false,false,false,false,false,false,false,false,false,false,false,false,false,false,false,false,false,false,false,false,false,false,false,false,false,false,false,false,false,false,false,false,false,false,false,false,false,false,false,false,false]
abbrev spz_m17 : Array Bool := #[true,true,true,true,true,true,true,true,true,true,true,true,true,true,true,true,true,false,false,false,false,false,false,false,false,false,false,false,false,false,false,false,false,false,false,false,false,false,false,false,false,false,false,false,false,false,false,false,false,false,false,false,false,false,false,false,false,false,false,false,false,false,false,false,false,false,false,false]
abbrev spz_m18 : Array Bool := #[true,true,true,true,true,true,true,true,true,true,true,true,true,true,true,true,true,true,false,false,false,false,false,false,false,false,false,false,false,false,false,false,false,false,false,false,false,false,false,false,false,false,false,false,false,false,false,false,false,false,false,false,false,false,false,false,false,false,false,false,false,false,false,false,false,false,false,false]
abbrev spz_m19 : Array Bool := #[true,true,true,true,true,true,true,true,true,true,true,true,true,true,true,true,true,true,true,false,false,false,false,false,false,false,false,false,false,false,false,false,false,false,false,false,false,false,false,false,false,false,false,false,false,false,false,false,false,false,false,false,false,false,false,false,false,false,false,false,false,false,false,false,false,false,false,false]
abbrev spz_m20 : Array Bool := #[true,true,true,true,true,true,true,true,true,true,true,true,true,true,true,true,true,true,true,true,false,false,false,false,false,false,false,false,false,false,false,false,false,false,false,false,false,false,false,false,false,false,false,false,false,false,false,false,false,false,false,false,false,false,false,false,false,false,false,false,false,false,false,false,false,false,false,false]
abbrev spz_m21 : Array Bool := #[true,true,true,true,true,true,true,true,true,true,true,true,true,true,true,true,true,true,true,true,true,false,false,false,false,false,false,false,false,false,false,false,false,false,false,false,false,false,false,false,false,false,false,false,false,false,false,false,false,false,false,false,false,false,false,false,false,false,false,false,false,false,false,false,false,false,false,false]
abbrev spz_m22 : Array Bool := #[true,true,true,true,true,true,true,true,true,true,true,true,true,true,true,true,true,true,true,true,true,true,false,false,false,false,false,false,false,false,false,false,false,false,false,false,false,false,false,false,false,false,false,false,false,false,false,false,false,false,false,false,false,false,false,false,false,false,false,false,false,false,false,false,false,false,false,false]
abbrev spz_m23 : Array Bool := #[true,true,true,true,true,true,true,true,true,true,true,true,true,true,true,true,true,true,true,true,true,true,false,true,false,false,false,false,false,false,false,false,false,false,false,false,false,false,false,false,false,false,false,false,false,false,false,false,false,false,false,false,false,false,false,false,false,false,false,false,false,false,false,false,false,false,false,false]
abbrev spz_m24 : Array Bool := #[true,true,true,true,true,true,true,true,true,true,true,true,true,true,true,true,true,true,true,true,true,true,true,true,false,false,false,false,false,false,false,false,false,false,false,false,false,false,false,false,false,false,false,false,false,false,false,false,false,false,false,false,false,false,false,false,false,false,false,false,false,false,false,false,false,false,false,false]
abbrev spz_m25 : Array Bool := #[true,true,true,true,true,true,true,true,true,true,true,true,true,true,true,true,true,true,true,true,true,true,true,true,true,false,false,false,false,false,false,false,false,false,false,false,false,false,false,false,false,false,false,false,false,false,false,false,false,false,false,false,false,false,false,false,false,false,false,false,false,false,false,false,false,false,false,false]
abbrev spz_m26 : Array Bool := #[true,true,true,true,true,true,true,true,true,true,true,true,true,true,true,true,true,true,true,true,true,true,true,true,true,true,false,false,false,false,false,false,false,false,false,false,false,false,false,false,false,false,false,false,false,false,false,false,false,false,false,false,false,false,false,false,false,false,false,false,false,false,false,false,false,false,false,false]
abbrev spz_m27 : Array Bool := #[true,true,true,true,true,true,true,true,true,true,true,true,true,true,true,true,true,true,true,true,true,true,true,true,true,true,true,false,false,false,false,false,false,false,false,false,false,false,false,false,false,false,false,false,false,false,false,false,false,false,false,false,false,false,false,false,false,false,false,false,false,false,false,false,false,false,false,false]
abbrev spz_m28 : Array Bool := #[true,true,true,true,true,true,true,true,true,true,true,true,true,true,true,true,true,true,true,true,true,true,true,true,true,true,true,true,false,false,false,false,false,false,false,false,false,false,false,false,false,false,false,false,false,false,false,false,false,false,false,false,false,false,false,false,false,false,false,false,false,false,false,false,false,false,false,false]
abbrev spz_m29 : Array Bool := #[true,true,true,true,true,true,true,true,true,true,true,true,true,true,true,true,true,true,true,true,true,true,true,true,true,true,true,true,true,false,false,false,false,false,false,false,false,false,false,false,false,false,false,false,false,false,false,false,false,false,false,false,false,false,false,false,false,false,false,false,false,false,false,false,false,false,false,false]
abbrev spz_m30 : Array Bool := #[true,true,true,true,true,true,true,true,true,true,true,true,true,true,true,true,true,true,true,true,true,true,true,true,true,true,true,true,true,true,false,false,false,false,false,false,false,false,false,false,false,false,false,false,false,false,false,false,false,false,false,false,false,false,false,false,false,false,false,false,false,false,false,false,false,false,false,false]
abbrev spz_m31 : Array Bool := #[true,true,true,true,true,true,true,true,true,true,true,true,true,true,true,true,true,true,true,true,true,true,true,true,true,true,true,true,true,true,true,false,false,false,false,false,false,false,false,false,false,false,false,false,false,false,false,false,false,false,false,false,false,false,false,false,false,false,false,false,false,false,false,false,false,false,false,false]
abbrev spz_m32 : Array Bool := #[true,true,true,true,true,true,true,true,true,true,true,true,true,true,true,true,true,true,true,true,true,true,true,true,true,true,true,true,true,true,true,false,true,false,false,false,false,false,false,false,false,false,false,false,false,false,false,false,false,false,false,false,false,false,false,false,false,false,false,false,false,false,false,false,false,false,false,false]
abbrev spz_m33 : Array Bool := #[true,true,true,true,true,true,true,true,true,true,true,true,true,true,true,true,true,true,true,true,true,true,true,true,true,true,true,true,true,true,true,true,true,false,false,false,false,false,false,false,false,false,false,false,false,false,false,false,false,false,false,false,false,false,false,false,false,false,false,false,false,false,false,false,false,false,false,false]
abbrev spz_m34 : Array Bool := #[true,true,true,true,true,true,true,true,true,true,true,true,true,true,true,true,true,true,true,true,true,true,true,true,true,true,true,true,true,true,true,true,true,true,false,false,false,false,false,false,false,false,false,false,false,false,false,false,false,false,false,false,false,false,false,false,false,false,false,false,false,false,false,false,false,false,false,false]
abbrev spz_m35 : Array Bool := #[true,true,true,true,true,true,true,true,true,true,true,true,true,true,true,true,true,true,true,true,true,true,true,true,true,true,true,true,true,true,true,true,true,true,true,false,false,false,false,false,false,false,false,false,false,false,false,false,false,false,false,false,false,false,false,false,false,false,false,false,false,false,false,false,false,false,false,false]
abbrev spz_m36 : Array Bool := #[true,true,true,true,true,true,true,true,true,true,true,true,true,true,true,true,true,true,true,true,true,true,true,true,true,true,true,true,true,true,true,true,true,true,true,true,false,false,false,false,false,false,false,false,false,false,false,false,false,false,false,false,false,false,false,false,false,false,false,false,false,false,false,false,false,false,false,false]
abbrev spz_m37 : Array Bool := #[true,true,true,true,true,true,true,true,true,true,true,true,true,true,true,true,true,true,true,true,true,true,true,true,true,true,true,true,true,true,true,true,true,true,true,true,true,false,false,false,false,false,false,false,false,false,false,false,false,false,false,false,false,false,false,false,false,false,false,false,false,false,false,false,false,false,false,false]
abbrev spz_m38 : Array Bool := #[true,true,true,true,true,true,true,true,true,true,true,true,true,true,true,true,true,true,true,true,true,true,true,true,true,true,true,true,true,true,true,true,true,true,true,true,true,true,false,false,false,false,false,false,false,false,false,false,false,false,false,false,false,false,false,false,false,false,false,false,false,false,false,false,false,false,false,false]
abbrev spz_m39 : Array Bool := #[true,true,true,true,true,true,true,true,true,true,true,true,true,true,true,true,true,true,true,true,true,true,true,true,true,true,true,true,true,true,true,true,true,true,true,true,true,true,true,false,false,false,false,false,false,false,false,false,false,false,false,false,false,false,false,false,false,false,false,false,false,false,false,false,false,false,false,false]
abbrev spz_m40 : Array Bool := #[true,true,true,true,true,true,true,true,true,true,true,true,true,true,true,true,true,true,true,true,true,true,true,true,true,true,true,true,true,true,true,true,true,true,true,true,true,true,true,true,false,false,false,false,false,false,false,false,false,false,false,false,false,false,false,false,false,false,false,false,false,false,false,false,false,false,false,false]
abbrev spz_m41 : Array Bool := #[true,true,true,true,true,true,true,true,true,true,true,true,true,true,true,true,true,true,true,true,true,true,true,true,true,true,true,true,true,true,true,true,true,true,true,true,true,true,true,true,true,false,false,false,false,false,false,false,false,false,false,false,false,false,false,false,false,false,false,false,false,false,false,false,false,false,false,false]
abbrev spz_m42 : Array Bool := #[true,true,true,true,true,true,true,true,true,true,true,true,true,true,true,true,true,true,true,true,true,true,true,true,true,true,true,true,true,true,true,true,true,true,true,true,true,true,true,true,true,true,false,false,false,false,false,false,false,false,false,false,false,false,false,false,false,false,false,false,false,false,false,false,false,false,false,false]
abbrev spz_m43 : Array Bool := #[true,true,true,true,true,true,true,true,true,true,true,true,true,true,true,true,true,true,true,true,true,true,true,true,true,true,true,true,true,true,true,true,true,true,true,true,true,true,true,true,true,true,true,false,false,false,false,false,false,false,false,false,false,false,false,false,false,false,false,false,false,false,false,false,false,false,false,false]
abbrev spz_m44 : Array Bool := #[true,true,true,true,true,true,true,true,true,true,true,true,true,true,true,true,true,true,true,true,true,true,true,true,true,true,true,true,true,true,true,true,true,true,true,true,true,true,true,true,true,true,true,true,false,false,false,false,false,false,false,false,false,false,false,false,false,false,false,false,false,false,false,false,false,false,false,false]
abbrev spz_m45 : Array Bool := #[true,true,true,true,true,true,true,true,true,true,true,true,true,true,true,true,true,true,true,true,true,true,true,true,true,true,true,true,true,true,true,true,true,true,true,true,true,true,true,true,true,true,true,true,true,false,false,false,false,false,false,false,false,false,false,false,false,false,false,false,false,false,false,false,false,false,false,false]
abbrev spz_m46 : Array Bool := #[true,true,true,true,true,true,true,true,true,true,true,true,true,true,true,true,true,true,true,true,true,true,true,true,true,true,true,true,true,true,true,true,true,true,true,true,true,true,true,true,true,true,true,true,true,true,false,false,false,false,false,false,false,false,false,false,false,false,false,false,false,false,false,false,false,false,false,false]
abbrev spz_m47 : Array Bool := #[true,true,true,true,true,true,true,true,true,true,true,true,true,true,true,true,true,true,true,true,true,true,true,true,true,true,true,true,true,true,true,true,true,true,true,true,true,true,true,true,true,true,true,true,true,true,false,true,false,false,false,false,false,false,false,false,false,false,false,false,false,false,false,false,false,false,false,false]
abbrev spz_m48 : Array Bool := #[true,true,true,true,true,true,true,true,true,true,true,true,true,true,true,true,true,true,true,true,true,true,true,true,true,true,true,true,true,true,true,true,true,true,true,true,true,true,true,true,true,true,true,true,true,true,true,true,false,false,false,false,false,false,false,false,false,false,false,false,false,false,false,false,false,false,false,false]
abbrev spz_m49 : Array Bool := #[true,true,true,true,true,true,true,true,true,true,true,true,true,true,true,true,true,true,true,true,true,true,true,true,true,true,true,true,true,true,true,true,true,true,true,true,true,true,true,true,true,true,true,true,true,true,true,true,true,false,false,false,false,false,false,false,false,false,false,false,false,false,false,false,false,false,false,false]
abbrev spz_m50 : Array Bool := #[true,true,true,true,true,true,true,true,true,true,true,true,true,true,true,true,true,true,true,true,true,true,true,true,true,true,true,true,true,true,true,true,true,true,true,true,true,true,true,true,true,true,true,true,true,true,true,true,true,true,false,false,false,false,false,false,false,false,false,false,false,false,false,false,false,false,false,false]
abbrev spz_m51 : Array Bool := #[true,true,true,true,true,true,true,true,true,true,true,true,true,true,true,true,true,true,true,true,true,true,true,true,true,true,true,true,true,true,true,true,true,true,true,true,true,true,true,true,true,true,true,true,true,true,true,true,true,true,true,false,false,false,false,false,false,false,false,false,false,false,false,false,false,false,false,false]
abbrev spz_m52 : Array Bool := #[true,true,true,true,true,true,true,true,true,true,true,true,true,true,true,true,true,true,true,true,true,true,true,true,true,true,true,true,true,true,true,true,true,true,true,true,true,true,true,true,true,true,true,true,true,true,true,true,true,true,true,true,false,false,false,false,false,false,false,false,false,false,false,false,false,false,false,false]
abbrev spz_m53 : Array Bool := #[true,true,true,true,true,true,true,true,true,true,true,true,true,true,true,true,true,true,true,true,true,true,true,true,true,true,true,true,true,true,true,true,true,true,true,true,true,true,true,true,true,true,true,true,true,true,true,true,true,true,true,true,true,false,false,false,false,false,false,false,false,false,false,false,false,false,false,false]
abbrev spz_m54 : Array Bool := #[true,true,true,true,true,true,true,true,true,true,true,true,true,true,true,true,true,true,true,true,true,true,true,true,true,true,true,true,true,true,true,true,true,true,true,true,true,true,true,true,true,true,true,true,true,true,true,true,true,true,true,true,true,true,false,false,false,false,false,false,false,false,false,false,false,false,false,false]
abbrev spz_m55 : Array Bool := #[true,true,true,true,true,true,true,true,true,true,true,true,true,true,true,true,true,true,true,true,true,true,true,true,true,true,true,true,true,true,true,true,true,true,true,true,true,true,true,true,true,true,true,true,true,true,true,true,true,true,true,true,true,true,true,false,false,false,false,false,false,false,false,false,false,false,false,false]
abbrev spz_m56 : Array Bool := #[true,true,true,true,true,true,true,true,true,true,true,true,true,true,true,true,true,true,true,true,true,true,true,true,true,true,true,true,true,true,true,true,true,true,true,true,true,true,true,true,true,true,true,true,true,true,true,true,true,true,true,true,true,true,true,true,false,false,false,false,false,false,false,false,false,false,false,false]
abbrev spz_m57 : Array Bool := #[true,true,true,true,true,true,true,true,true,true,true,true,true,true,true,true,true,true,true,true,true,true,true,true,true,true,true,true,true,true,true,true,true,true,true,true,true,true,true,true,true,true,true,true,true,true,true,true,true,true,true,true,true,true,true,true,true,false,false,false,false,false,false,false,false,false,false,false]
abbrev spz_m58 : Array Bool := #[true,true,true,true,true,true,true,true,true,true,true,true,true,true,true,true,true,true,true,true,true,true,true,true,true,true,true,true,true,true,true,true,true,true,true,true,true,true,true,true,true,true,true,true,true,true,true,true,true,true,true,true,true,true,true,true,true,false,true,false,false,false,false,false,false,false,false,false]
abbrev spz_m59 : Array Bool := #[true,true,true,true,true,true,true,true,true,true,true,true,true,true,true,true,true,true,true,true,true,true,true,true,true,true,true,true,true,true,true,true,true,true,true,true,true,true,true,true,true,true,true,true,true,true,true,true,true,true,true,true,true,true,true,true,true,false,true,true,false,false,false,false,false,false,false,false]
abbrev spz_m60 : Array Bool := #[true,true,true,true,true,true,true,true,true,true,true,true,true,true,true,true,true,true,true,true,true,true,true,true,true,true,true,true,true,true,true,true,true,true,true,true,true,true,true,true,true,true,true,true,true,true,true,true,true,true,true,true,true,true,true,true,true,false,true,true,true,false,false,false,false,false,false,false]
abbrev spz_m61 : Array Bool := #[true,true,true,true,true,true,true,true,true,true,true,true,true,true,true,true,true,true,true,true,true,true,true,true,true,true,true,true,true,true,true,true,true,true,true,true,true,true,true,true,true,true,true,true,true,true,true,true,true,true,true,true,true,true,true,true,true,false,true,true,true,false,true,false,false,false,false,false]
abbrev spz_m62 : Array Bool := #[true,true,true,true,true,true,true,true,true,true,true,true,true,true,true,true,true,true,true,true,true,true,true,true,true,true,true,true,true,true,true,true,true,true,true,true,true,true,true,true,true,true,true,true,true,true,true,true,true,true,true,true,true,true,true,true,true,false,true,true,true,false,true,true,false,false,false,false]
abbrev spz_m63 : Array Bool := #[true,true,true,true,true,true,true,true,true,true,true,true,true,true,true,true,true,true,true,true,true,true,true,true,true,true,true,true,true,true,true,true,true,true,true,true,true,true,true,true,true,true,true,true,true,true,true,true,true,true,true,true,true,true,true,true,true,false,true,true,true,false,true,true,true,false,false,false]
abbrev spz_m64 : Array Bool := #[true,true,true,true,true,true,true,true,true,true,true,true,true,true,true,true,true,true,true,true,true,true,true,true,true,true,true,true,true,true,true,true,true,true,true,true,true,true,true,true,true,true,true,true,true,true,true,true,true,true,true,true,true,true,true,true,true,true,true,true,true,false,true,true,true,false,false,false]
abbrev spz_m65 : Array Bool := #[true,true,true,true,true,true,true,true,true,true,true,true,true,true,true,true,true,true,true,true,true,true,true,true,true,true,true,true,true,true,true,true,true,true,true,true,true,true,true,true,true,true,true,true,true,true,true,true,true,true,true,true,true,true,true,true,true,true,true,true,true,true,true,true,true,false,false,false]
abbrev spz_m66 : Array Bool := #[true,true,true,true,true,true,true,true,true,true,true,true,true,true,true,true,true,true,true,true,true,true,true,true,true,true,true,true,true,true,true,true,true,true,true,true,true,true,true,true,true,true,true,true,true,true,true,true,true,true,true,true,true,true,true,true,true,true,true,true,true,true,true,true,true,true,false,false]
abbrev spz_m67 : Array Bool := #[true,true,true,true,true,true,true,true,true,true,true,true,true,true,true,true,true,true,true,true,true,true,true,true,true,true,true,true,true,true,true,true,true,true,true,true,true,true,true,true,true,true,true,true,true,true,true,true,true,true,true,true,true,true,true,true,true,true,true,true,true,true,true,true,true,true,true,false]
abbrev spz_m68 : Array Bool := #[true,true,true,true,true,true,true,true,true,true,true,true,true,true,true,true,true,true,true,true,true,true,true,true,true,true,true,true,true,true,true,true,true,true,true,true,true,true,true,true,true,true,true,true,true,true,true,true,true,true,true,true,true,true,true,true,true,true,true,true,true,true,true,true,true,true,true,true]
abbrev spz_m69 : Array Bool := #[true,true,true,true,true,true,true,true,true,true,true,true,true,true,true,true,true,true,true,true,true,true,true,true,true,true,true,true,true,true,true,true,true,true,true,true,true,true,true,true,true,true,true,true,true,true,true,false,false,false,false,false,false,false,false,false,false,false,false,false,false,false,false,false,false,false,false,false]
abbrev spz_m70 : Array Bool := #[true,true,true,true,true,true,true,true,true,true,true,true,true,true,true,true,true,true,true,true,true,true,true,true,true,true,true,true,true,true,true,true,false,false,false,false,false,false,false,false,false,false,false,false,false,false,false,false,false,false,false,false,false,false,false,false,false,false,false,false,false,false,false,false,false,false,false,false]
set_option maxHeartbeats 8000000 in
set_option maxRecDepth 100000 in
theorem psalterylaw12_AllocSpends.calls (k : Nat) (a0 : Int) (a1 : Int) (A2 : Option Addr) (c2 : Nat) (l2 : List (List Int)) (r : Bool) (w : World) (hr2 : Kd.C (Kd.slice 3 (Kd.int .i64)) w A2 l2.length l2) (hc2 : l2.length≤c2) (h : psalterylaw12_AllocSpends.f k a0 a1 l2=some r) :
  Calls Try.prog 6 #[.int .i64 a0, .int .i64 a1, .slice A2 l2.length c2] w fun e w' => e=.returned (.bool r)∧Below w.heap.size w w' := by
 have HR2:=zm hr2;have HC2:=zm hc2;clear hr2 hc2;have HB:=zm (Below.refl w.heap.size w)
 have H : ((psalterylaw12_great.f k l2).bind fun t287=>(if t287=true then ((psalterylaw12_knows.f k).bind fun t288=>(some t288)) else ((alloc_Pulses.f k a0 a1 l2).bind fun bt289=>(if bt289.2=0 then (psalterylaw12_AllocSpends.l0 k a0 a1 l2 bt289.1 0) else (if (bt289.1.length : Int)=0 then ((psalterylaw12_knows.f k).bind fun t293=>(some t293)) else (none))))))=some r:=h
 clear h
 replace H:=Option.bind_eq_some_iff.mp H
 obtain ⟨t287,A40,H⟩:=H
 replace H : (if t287=true then ((psalterylaw12_knows.f k).bind fun t288=>(some t288)) else ((alloc_Pulses.f k a0 a1 l2).bind fun bt289=>(if bt289.2=0 then (psalterylaw12_AllocSpends.l0 k a0 a1 l2 bt289.1 0) else (if (bt289.1.length : Int)=0 then ((psalterylaw12_knows.f k).bind fun t293=>(some t293)) else (none)))))=some r:=H
 have A4:=zm A40;clear A40
 by_cases c5 : t287=true
 ·
  subst c5
  have H1 : ((psalterylaw12_knows.f k).bind fun t288=>(some t288))=some r:=by rw [if_pos rfl] at H;exact H
  clear H;have H:=H1;clear H1
  replace H:=Option.bind_eq_some_iff.mp H
  obtain ⟨t288,A60,H⟩:=H
  replace H : (some t288)=some r:=H
  have A6:=zm A60;clear A60
  obtain rfl:=Option.some.inj H
  go_enter Try.func6,Try.ntmps6
  go_wp2_with (first|((with_reducible refine gate_callee (f:=14) rfl ?_);refine goesL_ (some 12) rfl rfl Try.func14 (by kernel_rfl) rfl #[.slice A2 l2.length c2] rfl (by (try simp only [List.map_toArray,List.map_cons,List.map_nil]);first|done|rfl|(simp only [List.length_drop,List.length_take];rfl)) ?_;(with_reducible refine (psalterylaw12_great.calls k _ _ l2 true _ ?side1 ?side2 A4.out).mono ?_);(case side1=>repeat (first|exact HR2.out|(with_reducible refine Kd.C_alloc ?_ _)|(with_reducible refine Kd.C_drewN ?_ _)|(with_reducible refine Kd.C_drew ?_)));(case side2=>exact HC2.out);rintro e w' ⟨rfl,⟨nd,rfl⟩⟩;refine ⟨_,rfl, ?_⟩)|((with_reducible refine gate_callee (f:=13) rfl ?_);refine goesL_ (some 13) rfl rfl Try.func13 (by kernel_rfl) rfl #[] rfl (by (try simp only [List.map_toArray,List.map_cons,List.map_nil]);first|done|rfl|(simp only [List.length_drop,List.length_take];rfl)) ?_;(with_reducible refine (psalterylaw12_knows.calls k  t288 _ A6.out).mono ?_);rintro e w7 ⟨rfl,hb⟩;refine ⟨_,rfl, ?_⟩;have n0_:=zm (zJ (by repeat (first|(with_reducible first|exact HB.out|apply ze|apply zd|apply zf)|exact HB.out)) hb);clear HB;have HB:=n0_;clear n0_;(try clear hb);(try clear hb2);(try clear hk);(try clear hi)))
  go_ret
  exact ⟨by first|rfl|(simp [errW_none,errW_some] <;> rfl)|(simp [*,errW_none,errW_some] <;> rfl),by repeat (first|(with_reducible first|exact HB.out|apply ze|apply zd|apply zf)|exact HB.out)⟩
 ·
  replace c5:=Bool.eq_false_iff.mpr c5
  subst c5
  have H1 : ((alloc_Pulses.f k a0 a1 l2).bind fun bt289=>(if bt289.2=0 then (psalterylaw12_AllocSpends.l0 k a0 a1 l2 bt289.1 0) else (if (bt289.1.length : Int)=0 then ((psalterylaw12_knows.f k).bind fun t293=>(some t293)) else (none))))=some r:=by rw [if_neg (show ¬ (false=true) by decide)] at H;exact H
  clear H;have H:=H1;clear H1
  replace H:=Option.bind_eq_some_iff.mp H
  obtain ⟨⟨t289,t290⟩,A80,H⟩:=H
  replace H : (if t290=0 then (psalterylaw12_AllocSpends.l0 k a0 a1 l2 t289 0) else (if (t289.length : Int)=0 then ((psalterylaw12_knows.f k).bind fun t293=>(some t293)) else (none)))=some r:=H
  have A8:=zm A80;clear A80
  by_cases c9 : t290=0
  ·
   rw [if_pos c9] at H
   have c9b0 : (t290 == 0)=true:=beq_iff_eq.mpr c9
   have c9b1 : (t290 != 0)=false:=bne_eq_false_iff_eq.mpr c9
   clear c9
   have H' := zm H
   clear H
   go_enter Try.func6,Try.ntmps6
   go_wp2_with (first|((with_reducible refine gate_callee (f:=14) rfl ?_);refine goesL_ (some 12) rfl rfl Try.func14 (by kernel_rfl) rfl #[.slice A2 l2.length c2] rfl (by (try simp only [List.map_toArray,List.map_cons,List.map_nil]);first|done|rfl|(simp only [List.length_drop,List.length_take];rfl)) ?_;(with_reducible refine (psalterylaw12_great.calls k _ _ l2 false _ ?side1 ?side2 A4.out).mono ?_);(case side1=>repeat (first|exact HR2.out|(with_reducible refine Kd.C_alloc ?_ _)|(with_reducible refine Kd.C_drewN ?_ _)|(with_reducible refine Kd.C_drew ?_)));(case side2=>exact HC2.out);rintro e w' ⟨rfl,⟨nd,rfl⟩⟩;refine ⟨_,rfl, ?_⟩)|((with_reducible refine gate_callee (f:=15) rfl ?_);refine goesL_ (some 18) rfl rfl Try.func15 (by kernel_rfl) rfl #[.int .i64 a0, .int .i64 a1, .slice A2 l2.length c2] rfl (by (try simp only [List.map_toArray,List.map_cons,List.map_nil]);first|done|rfl|(simp only [List.length_drop,List.length_take];rfl)) ?_;(with_reducible refine (alloc_Pulses.calls k a0 a1 _ _ l2 t289 t290 _ ?side1 ?side2 A8.out).mono ?_);(case side1=>repeat (first|exact HR2.out|(with_reducible refine Kd.C_alloc ?_ _)|(with_reducible refine Kd.C_drewN ?_ _)|(with_reducible refine Kd.C_drew ?_)));(case side2=>exact HC2.out);rintro e w10 ⟨v291,rfl,ho0,hb⟩;refine ⟨_,rfl, ?_⟩;have n0_:=zm (Kd.S_lower ho0 (zE (by repeat (first|(with_reducible first|exact HB.out|apply ze|apply zd|apply zf)|exact HB.out))));have n1_:=zm (zJ (by repeat (first|(with_reducible first|exact HB.out|apply ze|apply zd|apply zf)|exact HB.out)) hb);clear HB;have HO292:=n0_;have HB:=n1_;clear n0_ n1_;(try clear hb);(try clear hb2);(try clear hk);(try clear hi);(try clear ho0)))
   go_loopg [9] k (fun kq v9 w' => ∃ (x9_1 : Int),v9=.int .i64 x9_1∧Aside0 (psalterylaw12_AllocSpends.l0 kq a0 a1 l2 t289 x9_1=some r)∧Aside0 (kq≤k)∧Aside0 (Kd.S (Kd.slice 3 (Kd.int .i64)) 34 w' w.heap.size (fun _=>True) v291 t289)∧Aside0 (Below w.heap.size w w'))
   case atStart=>exact ⟨(0),(by first|rfl|(simp;done)|(simp [*];done)),H',⟨Nat.le_refl _⟩,⟨by (with_reducible repeat (first|apply Kd.S_alloc|apply Kd.S_drewN|apply Kd.S_drew));exact HO292.out⟩,⟨by repeat (first|(with_reducible first|exact HB.out|apply ze|apply zd|apply zf)|exact HB.out)⟩⟩
   case round =>
    clear H'
    try clear c1
    try clear c2
    try clear p2
    try clear c5
    try clear c6
    try clear c9
    try clear c9b0
    try clear c9b1
    obtain ⟨x9_1,rfl,HA,HK1,HO_7,HB⟩:=hrel
    cases gk with
    | zero=>exact absurd HA.out (by simp [psalterylaw12_AllocSpends.l0])
    | succ k1 =>
     have H:=HA.out;clear HA
     simp only [psalterylaw12_AllocSpends.l0] at H
     by_cases c11 : x9_1 < (t289.length : Int)
     ·
      rw [if_pos c11] at H
      have c11b0 : decide (x9_1 < (t289.length : Int))=true:=decide_eq_true c11
      clear c11
      by_cases c12 : 0≤x9_1
      ·
       rw [if_pos c12] at H
       have c12b0 : decide (0≤x9_1)=true:=decide_eq_true c12
       clear c12
       by_cases c13 : ((rd_L1 t289 x9_1).length : Int)=5
       ·
        rw [if_pos c13] at H
        have c13b0 : (((rd_L1 t289 x9_1).length : Int) == 5)=true:=beq_iff_eq.mpr c13
        have c13b1 : (((rd_L1 t289 x9_1).length : Int) != 5)=false:=bne_eq_false_iff_eq.mpr c13
        clear c13
        have H' := zm H
        clear H
        obtain ⟨Ao14,co14,eo14⟩:=Kd.S_slice HO_7.out
        subst eo14
        have p295 : 0≤(x9_1 : Int):=of_decide_eq_true (by first|(with_reducible assumption)|assumption)
        have q295 : x9_1 < (t289.length : Int):=of_decide_eq_true (by first|(with_reducible assumption)|assumption)
        obtain ⟨ad295,A295_0,c295_0,e295,hx295_0,hl295_0,hi295_0⟩:=at_L1 (Kd.S_reads' HO_7.out).2.2 x9_1 p295 q295
        cases e295
        obtain ⟨ce295,hce295,hMe295,hcc295⟩:=Kd.S_get HO_7.out [] x9_1 p295 (by first|exact q295|exact of_decide_eq_true (by first|(with_reducible assumption)|assumption)|(have e_:=(Kd.S_reads' HO_7.out).1;omega))
        obtain ⟨ve295_0,rfl,ge295_0⟩:=hMe295
        have hv295_0:=hcc295 0 _ rfl
        rw [Nat.add_zero,show ((Kd.slice 3 (Kd.int .i64))).sz=1 from rfl,Nat.mul_one] at hv295_0
        replace hv295_0:=Option.some.inj (hv295_0.symm.trans hx295_0)
        rw [hv295_0] at ge295_0
        have HL295_0:=zm (show Kd.R (Kd.int .i64) 3 _ _ _ _ (rd_L1 t289 x9_1) from ge295_0)
        clear hv295_0 ge295_0;clear hcc295 hce295;have HR295_0:=zm hi295_0;have HC295_0:=zm hl295_0;clear hi295_0 hl295_0
        replace p295:=eq_true p295
        replace q295:=eq_true q295
        go_wp2
        go_loopg [10] k1 (fun kq v10 w' => ∃ (x10_2 : Int),v10=.int .i64 x10_2∧Aside0 (psalterylaw12_AllocSpends.l1 kq a0 a1 l2 t289 x9_1 x10_2=some r)∧Aside0 (kq≤k1)∧Aside0 (Kd.S (Kd.slice 3 (Kd.int .i64)) 34 w' w.heap.size (fun _=>True) (.slice (some ad295) t289.length co14) t289)∧Aside0 (Kd.C (Kd.int .i64) w' A295_0 (rd_L1 t289 x9_1).length (rd_L1 t289 x9_1))∧Aside0 (Below w.heap.size w w'))
        case atStart=>exact ⟨(0),(by first|rfl|(simp;done)|(simp [*];done)),H',⟨Nat.le_refl _⟩,⟨by (with_reducible repeat (first|apply Kd.S_alloc|apply Kd.S_drewN|apply Kd.S_drew));exact HO_7.out⟩,⟨by repeat (first|(with_reducible exact HR295_0.out)|(with_reducible refine Kd.C_alloc ?_ _)|(with_reducible refine Kd.C_drewN ?_ _)|(with_reducible refine Kd.C_drew ?_)|exact HR295_0.out)⟩,⟨by repeat (first|(with_reducible first|exact HB.out|apply ze|apply zd|apply zf)|exact HB.out)⟩⟩
        case round =>
         clear H'
         try clear c1
         try clear c2
         try clear p2
         try clear q2
         try clear hx2
         try clear c5
         try clear c6
         try clear c9
         try clear c9b0
         try clear c9b1
         try clear c11
         try clear c11b0
         try clear c12
         try clear c12b0
         try clear c13
         try clear c13b0
         try clear c13b1
         try clear c14
         try clear hx295_0
         try clear p2
         try clear p295
         try clear q295
         obtain ⟨x10_2,rfl,HA,HK2,HO_7,HR295_0,HB⟩:=hrel
         cases gk with
         | zero=>exact absurd HA.out (by simp [psalterylaw12_AllocSpends.l1])
         | succ k2 =>
          have H:=HA.out;clear HA
          simp only [psalterylaw12_AllocSpends.l1] at H
          by_cases c15 : x10_2 < 5
          ·
           rw [if_pos c15] at H
           have c15b0 : decide (x10_2 < 5)=true:=decide_eq_true c15
           clear c15
           by_cases c16 : 0≤x9_1
           ·
            rw [if_pos c16] at H
            have c16b0 : decide (0≤x9_1)=true:=decide_eq_true c16
            clear c16
            by_cases c17 : x9_1 < (t289.length : Int)
            ·
             rw [if_pos c17] at H
             have c17b0 : decide (x9_1 < (t289.length : Int))=true:=decide_eq_true c17
             clear c17
             by_cases c18 : 0≤x10_2
             ·
              rw [if_pos c18] at H
              have c18b0 : decide (0≤x10_2)=true:=decide_eq_true c18
              clear c18
              by_cases c19 : x10_2 < ((rd_L1 t289 x9_1).length : Int)
              ·
               rw [if_pos c19] at H
               have c19b0 : decide (x10_2 < ((rd_L1 t289 x9_1).length : Int))=true:=decide_eq_true c19
               clear c19
               by_cases c20 : (rd (rd_L1 t289 x9_1) x10_2) < 0
               ·
                rw [if_pos c20] at H
                have c20b0 : decide ((rd (rd_L1 t289 x9_1) x10_2) < 0)=true:=decide_eq_true c20
                clear c20
                exact absurd H (by simp)
               ·
                rw [if_neg c20] at H
                have c20b0 : decide ((rd (rd_L1 t289 x9_1) x10_2) < 0)=false:=decide_eq_false c20
                clear c20
                by_cases c21 : (rd (rd_L1 t289 x9_1) x10_2) > 12
                ·
                 rw [if_pos c21] at H
                 have c21b0 : decide (12 < (rd (rd_L1 t289 x9_1) x10_2))=true:=decide_eq_true c21
                 clear c21
                 exact absurd H (by simp)
                ·
                 rw [if_neg c21] at H
                 have c21b0 : decide (12 < (rd (rd_L1 t289 x9_1) x10_2))=false:=decide_eq_false c21
                 clear c21
                 by_cases c22 : x9_1 < (l2.length : Int)
                 ·
                  rw [if_pos c22] at H
                  have c22b0 : decide (x9_1 < (l2.length : Int))=true:=decide_eq_true c22
                  clear c22
                  by_cases c23 : x10_2 < ((rd_L1 l2 x9_1).length : Int)
                  ·
                   rw [if_pos c23] at H
                   have c23b0 : decide (x10_2 < ((rd_L1 l2 x9_1).length : Int))=true:=decide_eq_true c23
                   clear c23
                   by_cases c24 : (rd (rd_L1 l2 x9_1) x10_2)=0
                   ·
                    rw [if_pos c24] at H
                    have c24b0 : ((rd (rd_L1 l2 x9_1) x10_2) == 0)=true:=beq_iff_eq.mpr c24
                    have c24b1 : ((rd (rd_L1 l2 x9_1) x10_2) != 0)=false:=bne_eq_false_iff_eq.mpr c24
                    clear c24
                    by_cases c25 : (rd (rd_L1 t289 x9_1) x10_2)=0
                    ·
                     rw [if_pos c25] at H
                     have c25b0 : ((rd (rd_L1 t289 x9_1) x10_2) == 0)=true:=beq_iff_eq.mpr c25
                     have c25b1 : ((rd (rd_L1 t289 x9_1) x10_2) != 0)=false:=bne_eq_false_iff_eq.mpr c25
                     clear c25
                     replace H:=Option.bind_eq_some_iff.mp H
                     obtain ⟨t304,A260,H⟩:=H
                     replace H : (if t304=1 then (if (rd (rd_L1 t289 x9_1) x10_2) > 1 then (none) else ((alloc_Room.f a0 a1).bind fun t309=>((psalteryref12_May.f k2 (rd_L1 l2 x9_1) (rd_L1 t289 x9_1) x10_2 t309).bind fun t310=>(if t310=true then (none) else (psalterylaw12_AllocSpends.l1 k2 a0 a1 l2 t289 x9_1 (wrap64 (x10_2+1))))))) else ((alloc_Room.f a0 a1).bind fun t313=>((psalteryref12_May.f k2 (rd_L1 l2 x9_1) (rd_L1 t289 x9_1) x10_2 t313).bind fun t314=>(if t314=true then (none) else (psalterylaw12_AllocSpends.l1 k2 a0 a1 l2 t289 x9_1 (wrap64 (x10_2+1)))))))=some r:=H
                     have A26:=zm A260;clear A260
                     by_cases c27 : t304=1
                     ·
                      rw [if_pos c27] at H
                      have c27b0 : (t304 == 1)=true:=beq_iff_eq.mpr c27
                      have c27b1 : (t304 != 1)=false:=bne_eq_false_iff_eq.mpr c27
                      clear c27
                      by_cases c28 : (rd (rd_L1 t289 x9_1) x10_2) > 1
                      ·
                       rw [if_pos c28] at H
                       have c28b0 : decide (1 < (rd (rd_L1 t289 x9_1) x10_2))=true:=decide_eq_true c28
                       clear c28
                       exact absurd H (by simp)
                      ·
                       rw [if_neg c28] at H
                       have c28b0 : decide (1 < (rd (rd_L1 t289 x9_1) x10_2))=false:=decide_eq_false c28
                       clear c28
                       replace H:=Option.bind_eq_some_iff.mp H
                       obtain ⟨t309,A290,H⟩:=H
                       replace H : ((psalteryref12_May.f k2 (rd_L1 l2 x9_1) (rd_L1 t289 x9_1) x10_2 t309).bind fun t310=>(if t310=true then (none) else (psalterylaw12_AllocSpends.l1 k2 a0 a1 l2 t289 x9_1 (wrap64 (x10_2+1)))))=some r:=H
                       have A29:=zm A290;clear A290
                       replace H:=Option.bind_eq_some_iff.mp H
                       obtain ⟨t310,A300,H⟩:=H
                       replace H : (if t310=true then (none) else (psalterylaw12_AllocSpends.l1 k2 a0 a1 l2 t289 x9_1 (wrap64 (x10_2+1))))=some r:=H
                       have A30:=zm A300;clear A300
                       by_cases c31 : t310=true
                       ·
                        subst c31
                        have H1 : (none)=some r:=by rw [if_pos rfl] at H;exact H
                        clear H;have H:=H1;clear H1
                        exact absurd H (by simp)
                       ·
                        replace c31:=Bool.eq_false_iff.mpr c31
                        subst c31
                        have H1 : (psalterylaw12_AllocSpends.l1 k2 a0 a1 l2 t289 x9_1 (wrap64 (x10_2+1)))=some r:=by rw [if_neg (show ¬ (false=true) by decide)] at H;exact H
                        clear H;have H:=H1;clear H1
                        have H' := zm H
                        clear H
                        try go_wp2
                        have n0_:=zm (Kd.S_drew HO_7.out);have n1_:=zm (Kd.C_drew HR295_0.out);have n2_:=zm (zf HB.out);clear HO_7;clear HR295_0;clear HB;have HO_7:=n0_;have HR295_0:=n1_;have HB:=n2_;clear n0_ n1_ n2_
                        have p296 : 0≤(x9_1 : Int):=of_decide_eq_true (by first|(with_reducible assumption)|assumption)
                        have q296 : x9_1 < (t289.length : Int):=of_decide_eq_true (by first|(with_reducible assumption)|assumption)
                        obtain ⟨ad296,A296_0,c296_0,e296,hx296_0,hl296_0,hi296_0⟩:=at_L1 (Kd.S_reads' HO_7.out).2.2 x9_1 p296 q296
                        obtain rfl : ad295=ad296:=(by injection e296)
                        obtain ⟨ce296,hce296,hMe296,hcc296⟩:=Kd.S_get HO_7.out [] x9_1 p296 (by first|exact q296|exact of_decide_eq_true (by first|(with_reducible assumption)|assumption)|(have e_:=(Kd.S_reads' HO_7.out).1;omega))
                        obtain ⟨ve296_0,rfl,ge296_0⟩:=hMe296
                        have hv296_0:=hcc296 0 _ rfl
                        rw [Nat.add_zero,show ((Kd.slice 3 (Kd.int .i64))).sz=1 from rfl,Nat.mul_one] at hv296_0
                        replace hv296_0:=Option.some.inj (hv296_0.symm.trans hx296_0)
                        rw [hv296_0] at ge296_0
                        have HL296_0:=zm (show Kd.R (Kd.int .i64) 3 _ _ _ _ (rd_L1 t289 x9_1) from ge296_0)
                        clear hv296_0 ge296_0;clear hcc296 hce296;have HR296_0:=zm hi296_0;have HC296_0:=zm hl296_0;clear hi296_0 hl296_0
                        replace p296:=eq_true p296
                        replace q296:=eq_true q296
                        have p297 : 0≤(x10_2 : Int):=of_decide_eq_true (by first|(with_reducible assumption)|assumption)
                        have q297 : x10_2 < ((rd_L1 t289 x9_1).length : Int):=of_decide_eq_true (by first|(with_reducible assumption)|assumption)
                        obtain ⟨ad297,e297,hx297_0⟩:=Kd.at_int (by repeat (first|(with_reducible exact HR296_0.out)|(with_reducible refine Kd.C_alloc ?_ _)|(with_reducible refine Kd.C_drewN ?_ _)|(with_reducible refine Kd.C_drew ?_)|exact HR296_0.out)) x10_2 p297 q297
                        cases e297
                        replace p297:=eq_true p297
                        replace q297:=eq_true q297
                        have p298 : 0≤(x9_1 : Int):=of_decide_eq_true (by first|(with_reducible assumption)|assumption)
                        have q298 : x9_1 < (t289.length : Int):=of_decide_eq_true (by first|(with_reducible assumption)|assumption)
                        obtain ⟨ad298,A298_0,c298_0,e298,hx298_0,hl298_0,hi298_0⟩:=at_L1 (Kd.S_reads' HO_7.out).2.2 x9_1 p298 q298
                        obtain rfl : ad295=ad298:=(by injection e298)
                        obtain ⟨ce298,hce298,hMe298,hcc298⟩:=Kd.S_get HO_7.out [] x9_1 p298 (by first|exact q298|exact of_decide_eq_true (by first|(with_reducible assumption)|assumption)|(have e_:=(Kd.S_reads' HO_7.out).1;omega))
                        obtain ⟨ve298_0,rfl,ge298_0⟩:=hMe298
                        have hv298_0:=hcc298 0 _ rfl
                        rw [Nat.add_zero,show ((Kd.slice 3 (Kd.int .i64))).sz=1 from rfl,Nat.mul_one] at hv298_0
                        replace hv298_0:=Option.some.inj (hv298_0.symm.trans hx298_0)
                        rw [hv298_0] at ge298_0
                        have HL298_0:=zm (show Kd.R (Kd.int .i64) 3 _ _ _ _ (rd_L1 t289 x9_1) from ge298_0)
                        clear hv298_0 ge298_0;clear hcc298 hce298;have HR298_0:=zm hi298_0;have HC298_0:=zm hl298_0;clear hi298_0 hl298_0
                        replace p298:=eq_true p298
                        replace q298:=eq_true q298
                        have ea_:=Option.some.inj (hx296_0.symm.trans hx298_0)
                        injection ea_ with ea_ en_ ec_
                        subst ea_;subst ec_;clear en_
                        have p299 : 0≤(x10_2 : Int):=of_decide_eq_true (by first|(with_reducible assumption)|assumption)
                        have q299 : x10_2 < ((rd_L1 t289 x9_1).length : Int):=of_decide_eq_true (by first|(with_reducible assumption)|assumption)
                        obtain ⟨ad299,e299,hx299_0⟩:=Kd.at_int (by repeat (first|(with_reducible exact HR298_0.out)|(with_reducible refine Kd.C_alloc ?_ _)|(with_reducible refine Kd.C_drewN ?_ _)|(with_reducible refine Kd.C_drew ?_)|exact HR298_0.out)) x10_2 p299 q299
                        cases e299
                        replace p299:=eq_true p299
                        replace q299:=eq_true q299
                        have p300 : 0≤(x9_1 : Int):=of_decide_eq_true (by first|(with_reducible assumption)|assumption)
                        have q300 : x9_1 < (l2.length : Int):=of_decide_eq_true (by first|(with_reducible assumption)|assumption)
                        obtain ⟨ad300,A300_0,c300_0,e300,hx300_0,hl300_0,hi300_0⟩:=at_L1 HR2.out x9_1 p300 q300
                        have hw300_0:=hx300_0
                        cases e300
                        replace hx300_0:=(HB.out.cell (zb w _ hx300_0)).trans hx300_0
                        have HR300_0:=zm hi300_0;have HC300_0:=zm hl300_0;clear hi300_0 hl300_0
                        replace p300:=eq_true p300
                        replace q300:=eq_true q300
                        have p301 : 0≤(x10_2 : Int):=of_decide_eq_true (by first|(with_reducible assumption)|assumption)
                        have q301 : x10_2 < ((rd_L1 l2 x9_1).length : Int):=of_decide_eq_true (by first|(with_reducible assumption)|assumption)
                        obtain ⟨ad301,e301,hx301_0⟩:=Kd.at_int HR300_0.out x10_2 p301 q301
                        have hw301_0:=hx301_0
                        cases e301
                        replace hx301_0:=(HB.out.cell (zb w _ hx301_0)).trans hx301_0
                        replace p301:=eq_true p301
                        replace q301:=eq_true q301
                        have p302 : 0≤(x9_1 : Int):=of_decide_eq_true (by first|(with_reducible assumption)|assumption)
                        have q302 : x9_1 < (t289.length : Int):=of_decide_eq_true (by first|(with_reducible assumption)|assumption)
                        obtain ⟨ad302,A302_0,c302_0,e302,hx302_0,hl302_0,hi302_0⟩:=at_L1 (Kd.S_reads' HO_7.out).2.2 x9_1 p302 q302
                        obtain rfl : ad295=ad302:=(by injection e302)
                        obtain ⟨ce302,hce302,hMe302,hcc302⟩:=Kd.S_get HO_7.out [] x9_1 p302 (by first|exact q302|exact of_decide_eq_true (by first|(with_reducible assumption)|assumption)|(have e_:=(Kd.S_reads' HO_7.out).1;omega))
                        obtain ⟨ve302_0,rfl,ge302_0⟩:=hMe302
                        have hv302_0:=hcc302 0 _ rfl
                        rw [Nat.add_zero,show ((Kd.slice 3 (Kd.int .i64))).sz=1 from rfl,Nat.mul_one] at hv302_0
                        replace hv302_0:=Option.some.inj (hv302_0.symm.trans hx302_0)
                        rw [hv302_0] at ge302_0
                        have HL302_0:=zm (show Kd.R (Kd.int .i64) 3 _ _ _ _ (rd_L1 t289 x9_1) from ge302_0)
                        clear hv302_0 ge302_0;clear hcc302 hce302;have HR302_0:=zm hi302_0;have HC302_0:=zm hl302_0;clear hi302_0 hl302_0
                        replace p302:=eq_true p302
                        replace q302:=eq_true q302
                        have ea_:=Option.some.inj (hx296_0.symm.trans hx302_0)
                        injection ea_ with ea_ en_ ec_
                        subst ea_;subst ec_;clear en_
                        have p303 : 0≤(x10_2 : Int):=of_decide_eq_true (by first|(with_reducible assumption)|assumption)
                        have q303 : x10_2 < ((rd_L1 t289 x9_1).length : Int):=of_decide_eq_true (by first|(with_reducible assumption)|assumption)
                        obtain ⟨ad303,e303,hx303_0⟩:=Kd.at_int (by repeat (first|(with_reducible exact HR302_0.out)|(with_reducible refine Kd.C_alloc ?_ _)|(with_reducible refine Kd.C_drewN ?_ _)|(with_reducible refine Kd.C_drew ?_)|exact HR302_0.out)) x10_2 p303 q303
                        cases e303
                        replace p303:=eq_true p303
                        replace q303:=eq_true q303
                        have p305 : 0≤(x9_1 : Int):=of_decide_eq_true (by first|(with_reducible assumption)|assumption)
                        have q305 : x9_1 < (t289.length : Int):=of_decide_eq_true (by first|(with_reducible assumption)|assumption)
                        obtain ⟨ad305,A305_0,c305_0,e305,hx305_0,hl305_0,hi305_0⟩:=at_L1 (Kd.S_reads' HO_7.out).2.2 x9_1 p305 q305
                        obtain rfl : ad295=ad305:=(by injection e305)
                        obtain ⟨ce305,hce305,hMe305,hcc305⟩:=Kd.S_get HO_7.out [] x9_1 p305 (by first|exact q305|exact of_decide_eq_true (by first|(with_reducible assumption)|assumption)|(have e_:=(Kd.S_reads' HO_7.out).1;omega))
                        obtain ⟨ve305_0,rfl,ge305_0⟩:=hMe305
                        have hv305_0:=hcc305 0 _ rfl
                        rw [Nat.add_zero,show ((Kd.slice 3 (Kd.int .i64))).sz=1 from rfl,Nat.mul_one] at hv305_0
                        replace hv305_0:=Option.some.inj (hv305_0.symm.trans hx305_0)
                        rw [hv305_0] at ge305_0
                        have HL305_0:=zm (show Kd.R (Kd.int .i64) 3 _ _ _ _ (rd_L1 t289 x9_1) from ge305_0)
                        clear hv305_0 ge305_0;clear hcc305 hce305;have HR305_0:=zm hi305_0;have HC305_0:=zm hl305_0;clear hi305_0 hl305_0
                        replace p305:=eq_true p305
                        replace q305:=eq_true q305
                        have ea_:=Option.some.inj (hx296_0.symm.trans hx305_0)
                        injection ea_ with ea_ en_ ec_
                        subst ea_;subst ec_;clear en_
                        have p307 : 0≤(x9_1 : Int):=of_decide_eq_true (by first|(with_reducible assumption)|assumption)
                        have q307 : x9_1 < (l2.length : Int):=of_decide_eq_true (by first|(with_reducible assumption)|assumption)
                        obtain ⟨ad307,A307_0,c307_0,e307,hx307_0,hl307_0,hi307_0⟩:=at_L1 HR2.out x9_1 p307 q307
                        have hw307_0:=hx307_0
                        obtain rfl : ad300=ad307:=(by injection e307)
                        replace hx307_0:=(HB.out.cell (zb w _ hx307_0)).trans hx307_0
                        have HR307_0:=zm hi307_0;have HC307_0:=zm hl307_0;clear hi307_0 hl307_0
                        replace p307:=eq_true p307
                        replace q307:=eq_true q307
                        have ea_:=Option.some.inj (hx300_0.symm.trans hx307_0)
                        injection ea_ with ea_ en_ ec_
                        subst ea_;subst ec_;clear en_
                        have p308 : 0≤(x9_1 : Int):=of_decide_eq_true (by first|(with_reducible assumption)|assumption)
                        have q308 : x9_1 < (t289.length : Int):=of_decide_eq_true (by first|(with_reducible assumption)|assumption)
                        obtain ⟨ad308,A308_0,c308_0,e308,hx308_0,hl308_0,hi308_0⟩:=at_L1 (Kd.S_reads' HO_7.out).2.2 x9_1 p308 q308
                        obtain rfl : ad295=ad308:=(by injection e308)
                        obtain ⟨ce308,hce308,hMe308,hcc308⟩:=Kd.S_get HO_7.out [] x9_1 p308 (by first|exact q308|exact of_decide_eq_true (by first|(with_reducible assumption)|assumption)|(have e_:=(Kd.S_reads' HO_7.out).1;omega))
                        obtain ⟨ve308_0,rfl,ge308_0⟩:=hMe308
                        have hv308_0:=hcc308 0 _ rfl
                        rw [Nat.add_zero,show ((Kd.slice 3 (Kd.int .i64))).sz=1 from rfl,Nat.mul_one] at hv308_0
                        replace hv308_0:=Option.some.inj (hv308_0.symm.trans hx308_0)
                        rw [hv308_0] at ge308_0
                        have HL308_0:=zm (show Kd.R (Kd.int .i64) 3 _ _ _ _ (rd_L1 t289 x9_1) from ge308_0)
                        clear hv308_0 ge308_0;clear hcc308 hce308;have HR308_0:=zm hi308_0;have HC308_0:=zm hl308_0;clear hi308_0 hl308_0
                        replace p308:=eq_true p308
                        replace q308:=eq_true q308
                        have ea_:=Option.some.inj (hx296_0.symm.trans hx308_0)
                        injection ea_ with ea_ en_ ec_
                        subst ea_;subst ec_;clear en_
                        refine start_ (n:=68) (S:=fun w' => w'.cell? (ad295.add (x9_1).toNat)=some (.slice (some ad297) (rd_L1 t289 x9_1).length c296_0)∧w'.cell? (ad297.add (x10_2).toNat)=some (.int .i64 (rd (rd_L1 t289 x9_1) x10_2))∧w'.cell? (ad295.add (x9_1).toNat)=some (.slice (some ad297) (rd_L1 t289 x9_1).length c296_0)∧w'.cell? (ad297.add (x10_2).toNat)=some (.int .i64 (rd (rd_L1 t289 x9_1) x10_2))∧w'.cell? (ad300.add (x9_1).toNat)=some (.slice (some ad301) (rd_L1 l2 x9_1).length c300_0)∧w'.cell? (ad301.add (x10_2).toNat)=some (.int .i64 (rd (rd_L1 l2 x9_1) x10_2))∧w'.cell? (ad295.add (x9_1).toNat)=some (.slice (some ad297) (rd_L1 t289 x9_1).length c296_0)∧w'.cell? (ad297.add (x10_2).toNat)=some (.int .i64 (rd (rd_L1 t289 x9_1) x10_2))∧w'.cell? (ad295.add (x9_1).toNat)=some (.slice (some ad297) (rd_L1 t289 x9_1).length c296_0)∧w'.cell? (ad297.add (x10_2).toNat)=some (.int .i64 (rd (rd_L1 t289 x9_1) x10_2))∧w'.cell? (ad300.add (x9_1).toNat)=some (.slice (some ad301) (rd_L1 l2 x9_1).length c300_0)∧w'.cell? (ad295.add (x9_1).toNat)=some (.slice (some ad297) (rd_L1 t289 x9_1).length c296_0)) (ds := []) spz_m0 (by kernel_rfl) rfl rfl ⟨hx296_0,hx297_0,hx298_0,hx299_0,((HB.out.cell (zb w _ hw300_0)).trans hw300_0),((HB.out.cell (zb w _ hw301_0)).trans hw301_0),hx302_0,hx303_0,hx305_0,hx297_0,((HB.out.cell (zb w _ hw307_0)).trans hw307_0),hx308_0⟩ (fun hHeld => ?_);refine with_tabW psalterylaw12_AllocSpends.tab14 psalterylaw12_AllocSpends.bits14 (fun HT_ HW_ => ?_)
                        generalize wr.drew=w32 at HO_7 HR295_0 HB HL296_0 HL298_0 HL302_0 HL305_0 HL308_0 HR296_0 HR298_0 HR300_0 HR302_0 HR305_0 HR307_0 HR308_0 hx296_0 hx297_0 hx298_0 hx299_0 hx300_0 hx301_0 hx302_0 hx303_0 hx305_0 hx307_0 hx308_0 hHeld ⊢
                        refine pure_ (i:=0) (N:=some 45) (v := ?_) (a' := ?_) spz_m1 rfl rfl (any_of HT_.out (by kernel_rfl)) (fun _ _ _ h=>h) (Or.inl ⟨by rfl, ?_⟩) ?_ ?_
                        rotate_left
                        ·
                         intro w'
                         go_simp
                         with_reducible rfl
                        rotate_left
                        ·
                         simp only [Act.put,List.setIfInBounds_toArray,List.set_cons_zero,List.set_cons_succ,i64_w,i32_w]
                         rfl
                        refine pure_ (i:=1) (N:=some 46) (v := ?_) (a' := ?_) spz_m2 rfl rfl (any_of HT_.out (by kernel_rfl)) (fun _ _ _ h=>h) (Or.inl ⟨by rfl, ?_⟩) ?_ ?_
                        rotate_left
                        ·
                         intro w'
                         go_simp
                         with_reducible rfl
                        rotate_left
                        ·
                         simp only [Act.put,List.setIfInBounds_toArray,List.set_cons_zero,List.set_cons_succ,i64_w,i32_w]
                         rfl
                        refine pure_ (i:=2) (N:=some 47) (v := ?_) (a' := ?_) spz_m3 rfl rfl (any_of HT_.out (by kernel_rfl)) (fun _ _ _ h=>h) (Or.inl ⟨by rfl, ?_⟩) ?_ ?_
                        rotate_left
                        ·
                         intro w'
                         go_simp
                         with_reducible rfl
                        rotate_left
                        ·
                         simp only [Act.put,List.setIfInBounds_toArray,List.set_cons_zero,List.set_cons_succ,i64_w,i32_w]
                         rfl
                        refine pure_ (i:=4) (N:=some 49) (v := ?_) (a' := ?_) spz_m4 rfl rfl (any_of HT_.out (by kernel_rfl)) (fun _ _ _ h=>h) (Or.inl ⟨by rfl, ?_⟩) ?_ ?_
                        rotate_left
                        ·
                         intro w'
                         go_simp
                         with_reducible rfl
                        rotate_left
                        ·
                         simp only [Act.put,List.setIfInBounds_toArray,List.set_cons_zero,List.set_cons_succ,i64_w,i32_w]
                         rfl
                        refine take_ (i:=3) (N:=some 48) (v := ?_) (a' := ?_) spz_m5 rfl rfl (take_ofW HT_.out HW_.out (by kernel_rfl)) (fun _ _ _ h=>h) (Or.inl ⟨by rfl, ?_⟩) hHeld ?_ ?_
                        rotate_left
                        ·
                         rintro w' ⟨s0,s1,s2,s3,s4,s5,s6,s7,s8,s9,s10,s11⟩
                         go_simp
                         with_reducible rfl
                        rotate_left
                        ·
                         simp only [Act.put,List.setIfInBounds_toArray,List.set_cons_zero,List.set_cons_succ,i64_w,i32_w]
                         rfl
                        refine pure_ (i:=5) (N:=some 50) (v := ?_) (a' := ?_) spz_m6 rfl rfl (any_of HT_.out (by kernel_rfl)) (fun _ _ _ h=>h) (Or.inl ⟨by rfl, ?_⟩) ?_ ?_
                        rotate_left
                        ·
                         intro w'
                         go_simp
                         with_reducible rfl
                        rotate_left
                        ·
                         simp only [Act.put,List.setIfInBounds_toArray,List.set_cons_zero,List.set_cons_succ,i64_w,i32_w]
                         rfl
                        refine take_ (i:=6) (N:=some 51) (v := ?_) (a' := ?_) spz_m7 rfl rfl (take_ofW HT_.out HW_.out (by kernel_rfl)) (fun _ _ _ h=>h) (Or.inl ⟨by rfl, ?_⟩) hHeld ?_ ?_
                        rotate_left
                        ·
                         rintro w' ⟨s0,s1,s2,s3,s4,s5,s6,s7,s8,s9,s10,s11⟩
                         go_simp
                         with_reducible rfl
                        rotate_left
                        ·
                         simp only [Act.put,List.setIfInBounds_toArray,List.set_cons_zero,List.set_cons_succ,i64_w,i32_w]
                         rfl
                        refine pure_ (i:=7) (N:=some 52) (v := ?_) (a' := ?_) spz_m8 rfl rfl (any_of HT_.out (by kernel_rfl)) (fun _ _ _ h=>h) (Or.inl ⟨by rfl, ?_⟩) ?_ ?_
                        rotate_left
                        ·
                         intro w'
                         go_simp
                         with_reducible rfl
                        rotate_left
                        ·
                         simp only [Act.put,List.setIfInBounds_toArray,List.set_cons_zero,List.set_cons_succ,i64_w,i32_w]
                         rfl
                        refine pure_ (i:=8) (N:=some 53) (v := ?_) (a' := ?_) spz_m9 rfl rfl (any_of HT_.out (by kernel_rfl)) (fun _ _ _ h=>h) (Or.inl ⟨by rfl, ?_⟩) ?_ ?_
                        rotate_left
                        ·
                         intro w'
                         go_simp
                         with_reducible rfl
                        rotate_left
                        ·
                         simp only [Act.put,List.setIfInBounds_toArray,List.set_cons_zero,List.set_cons_succ,i64_w,i32_w]
                         rfl
                        refine pure_ (i:=9) (N:=some 54) (v := ?_) (a' := ?_) spz_m10 rfl rfl (any_of HT_.out (by kernel_rfl)) (fun _ _ _ h=>h) (Or.inl ⟨by rfl, ?_⟩) ?_ ?_
                        rotate_left
                        ·
                         intro w'
                         go_simp
                         with_reducible rfl
                        rotate_left
                        ·
                         simp only [Act.put,List.setIfInBounds_toArray,List.set_cons_zero,List.set_cons_succ,i64_w,i32_w]
                         rfl
                        refine pure_ (i:=10) (N:=some 55) (v := ?_) (a' := ?_) spz_m11 rfl rfl (any_of HT_.out (by kernel_rfl)) (fun _ _ _ h=>h) (Or.inl ⟨by rfl, ?_⟩) ?_ ?_
                        rotate_left
                        ·
                         intro w'
                         go_simp
                         with_reducible rfl
                        rotate_left
                        ·
                         simp only [Act.put,List.setIfInBounds_toArray,List.set_cons_zero,List.set_cons_succ,i64_w,i32_w]
                         rfl
                        refine pure_ (i:=11) (N:=some 56) (v := ?_) (a' := ?_) spz_m12 rfl rfl (any_of HT_.out (by kernel_rfl)) (fun _ _ _ h=>h) (Or.inl ⟨by rfl, ?_⟩) ?_ ?_
                        rotate_left
                        ·
                         intro w'
                         go_simp
                         with_reducible rfl
                        rotate_left
                        ·
                         simp only [Act.put,List.setIfInBounds_toArray,List.set_cons_zero,List.set_cons_succ,i64_w,i32_w]
                         rfl
                        refine pure_ (i:=13) (N:=some 58) (v := ?_) (a' := ?_) spz_m13 rfl rfl (any_of HT_.out (by kernel_rfl)) (fun _ _ _ h=>h) (Or.inl ⟨by rfl, ?_⟩) ?_ ?_
                        rotate_left
                        ·
                         intro w'
                         go_simp
                         with_reducible rfl
                        rotate_left
                        ·
                         simp only [Act.put,List.setIfInBounds_toArray,List.set_cons_zero,List.set_cons_succ,i64_w,i32_w]
                         rfl
                        refine take_ (i:=12) (N:=some 57) (v := ?_) (a' := ?_) spz_m14 rfl rfl (take_ofW HT_.out HW_.out (by kernel_rfl)) (fun _ _ _ h=>h) (Or.inl ⟨by rfl, ?_⟩) hHeld ?_ ?_
                        rotate_left
                        ·
                         rintro w' ⟨s0,s1,s2,s3,s4,s5,s6,s7,s8,s9,s10,s11⟩
                         go_simp
                         with_reducible rfl
                        rotate_left
                        ·
                         simp only [Act.put,List.setIfInBounds_toArray,List.set_cons_zero,List.set_cons_succ,i64_w,i32_w]
                         rfl
                        refine pure_ (i:=14) (N:=some 59) (v := ?_) (a' := ?_) spz_m15 rfl rfl (any_of HT_.out (by kernel_rfl)) (fun _ _ _ h=>h) (Or.inl ⟨by rfl, ?_⟩) ?_ ?_
                        rotate_left
                        ·
                         intro w'
                         go_simp
                         with_reducible rfl
                        rotate_left
                        ·
                         simp only [Act.put,List.setIfInBounds_toArray,List.set_cons_zero,List.set_cons_succ,i64_w,i32_w]
                         rfl
                        refine take_ (i:=15) (N:=some 60) (v := ?_) (a' := ?_) spz_m16 rfl rfl (take_ofW HT_.out HW_.out (by kernel_rfl)) (fun _ _ _ h=>h) (Or.inl ⟨by rfl, ?_⟩) hHeld ?_ ?_
                        rotate_left
                        ·
                         rintro w' ⟨s0,s1,s2,s3,s4,s5,s6,s7,s8,s9,s10,s11⟩
                         go_simp
                         with_reducible rfl
                        rotate_left
                        ·
                         simp only [Act.put,List.setIfInBounds_toArray,List.set_cons_zero,List.set_cons_succ,i64_w,i32_w]
                         rfl
                        refine pure_ (i:=16) (N:=some 61) (v := ?_) (a' := ?_) spz_m17 rfl rfl (any_of HT_.out (by kernel_rfl)) (fun _ _ _ h=>h) (Or.inl ⟨by rfl, ?_⟩) ?_ ?_
                        rotate_left
                        ·
                         intro w'
                         go_simp
                         with_reducible rfl
                        rotate_left
                        ·
                         simp only [Act.put,List.setIfInBounds_toArray,List.set_cons_zero,List.set_cons_succ,i64_w,i32_w]
                         rfl
                        refine pure_ (i:=17) (N:=some 62) (v := ?_) (a' := ?_) spz_m18 rfl rfl (any_of HT_.out (by kernel_rfl)) (fun _ _ _ h=>h) (Or.inl ⟨by rfl, ?_⟩) ?_ ?_
                        rotate_left
                        ·
                         intro w'
                         go_simp
                         with_reducible rfl
                        rotate_left
                        ·
                         simp only [Act.put,List.setIfInBounds_toArray,List.set_cons_zero,List.set_cons_succ,i64_w,i32_w]
                         rfl
                        refine pure_ (i:=18) (N:=some 63) (v := ?_) (a' := ?_) spz_m19 rfl rfl (any_of HT_.out (by kernel_rfl)) (fun _ _ _ h=>h) (Or.inl ⟨by rfl, ?_⟩) ?_ ?_
                        rotate_left
                        ·
                         intro w'
                         go_simp
                         with_reducible rfl
                        rotate_left
                        ·
                         simp only [Act.put,List.setIfInBounds_toArray,List.set_cons_zero,List.set_cons_succ,i64_w,i32_w]
                         rfl
                        refine pure_ (i:=19) (N:=some 64) (v := ?_) (a' := ?_) spz_m20 rfl rfl (any_of HT_.out (by kernel_rfl)) (fun _ _ _ h=>h) (Or.inl ⟨by rfl, ?_⟩) ?_ ?_
                        rotate_left
                        ·
                         intro w'
                         go_simp
                         with_reducible rfl
                        rotate_left
                        ·
                         simp only [Act.put,List.setIfInBounds_toArray,List.set_cons_zero,List.set_cons_succ,i64_w,i32_w]
                         rfl
                        refine pure_ (i:=20) (N:=some 65) (v := ?_) (a' := ?_) spz_m21 rfl rfl (any_of HT_.out (by kernel_rfl)) (fun _ _ _ h=>h) (Or.inl ⟨by rfl, ?_⟩) ?_ ?_
                        rotate_left
                        ·
                         intro w'
                         go_simp
                         with_reducible rfl
                        rotate_left
                        ·
                         simp only [Act.put,List.setIfInBounds_toArray,List.set_cons_zero,List.set_cons_succ,i64_w,i32_w]
                         rfl
                        refine pure_ (i:=21) (N:=some 66) (v := ?_) (a' := ?_) spz_m22 rfl rfl (any_of HT_.out (by kernel_rfl)) (fun _ _ _ h=>h) (Or.inl ⟨by rfl, ?_⟩) ?_ ?_
                        rotate_left
                        ·
                         intro w'
                         go_simp
                         with_reducible rfl
                        rotate_left
                        ·
                         simp only [Act.put,List.setIfInBounds_toArray,List.set_cons_zero,List.set_cons_succ,i64_w,i32_w]
                         rfl
                        refine pure_ (i:=23) (N:=some 68) (v := ?_) (a' := ?_) spz_m23 rfl rfl (any_of HT_.out (by kernel_rfl)) (fun _ _ _ h=>h) (Or.inl ⟨by rfl, ?_⟩) ?_ ?_
                        rotate_left
                        ·
                         intro w'
                         go_simp
                         with_reducible rfl
                        rotate_left
                        ·
                         simp only [Act.put,List.setIfInBounds_toArray,List.set_cons_zero,List.set_cons_succ,i64_w,i32_w]
                         rfl
                        refine take_ (i:=22) (N:=some 67) (v := ?_) (a' := ?_) spz_m24 rfl rfl (take_ofW HT_.out HW_.out (by kernel_rfl)) (fun _ _ _ h=>h) (Or.inl ⟨by rfl, ?_⟩) hHeld ?_ ?_
                        rotate_left
                        ·
                         rintro w' ⟨s0,s1,s2,s3,s4,s5,s6,s7,s8,s9,s10,s11⟩
                         go_simp
                         with_reducible rfl
                        rotate_left
                        ·
                         simp only [Act.put,List.setIfInBounds_toArray,List.set_cons_zero,List.set_cons_succ,i64_w,i32_w]
                         rfl
                        refine pure_ (i:=24) (N:=some 69) (v := ?_) (a' := ?_) spz_m25 rfl rfl (any_of HT_.out (by kernel_rfl)) (fun _ _ _ h=>h) (Or.inl ⟨by rfl, ?_⟩) ?_ ?_
                        rotate_left
                        ·
                         intro w'
                         go_simp
                         with_reducible rfl
                        rotate_left
                        ·
                         simp only [Act.put,List.setIfInBounds_toArray,List.set_cons_zero,List.set_cons_succ,i64_w,i32_w]
                         rfl
                        refine take_ (i:=25) (N:=some 70) (v := ?_) (a' := ?_) spz_m26 rfl rfl (take_ofW HT_.out HW_.out (by kernel_rfl)) (fun _ _ _ h=>h) (Or.inl ⟨by rfl, ?_⟩) hHeld ?_ ?_
                        rotate_left
                        ·
                         rintro w' ⟨s0,s1,s2,s3,s4,s5,s6,s7,s8,s9,s10,s11⟩
                         go_simp
                         with_reducible rfl
                        rotate_left
                        ·
                         simp only [Act.put,List.setIfInBounds_toArray,List.set_cons_zero,List.set_cons_succ,i64_w,i32_w]
                         rfl
                        refine pure_ (i:=26) (N:=some 71) (v := ?_) (a' := ?_) spz_m27 rfl rfl (any_of HT_.out (by kernel_rfl)) (fun _ _ _ h=>h) (Or.inl ⟨by rfl, ?_⟩) ?_ ?_
                        rotate_left
                        ·
                         intro w'
                         go_simp
                         with_reducible rfl
                        rotate_left
                        ·
                         simp only [Act.put,List.setIfInBounds_toArray,List.set_cons_zero,List.set_cons_succ,i64_w,i32_w]
                         rfl
                        refine pure_ (i:=27) (N:=some 72) (v := ?_) (a' := ?_) spz_m28 rfl rfl (any_of HT_.out (by kernel_rfl)) (fun _ _ _ h=>h) (Or.inl ⟨by rfl, ?_⟩) ?_ ?_
                        rotate_left
                        ·
                         intro w'
                         go_simp
                         with_reducible rfl
                        rotate_left
                        ·
                         simp only [Act.put,List.setIfInBounds_toArray,List.set_cons_zero,List.set_cons_succ,i64_w,i32_w]
                         rfl
                        refine pure_ (i:=28) (N:=some 73) (v := ?_) (a' := ?_) spz_m29 rfl rfl (any_of HT_.out (by kernel_rfl)) (fun _ _ _ h=>h) (Or.inl ⟨by rfl, ?_⟩) ?_ ?_
                        rotate_left
                        ·
                         intro w'
                         go_simp
                         with_reducible rfl
                        rotate_left
                        ·
                         simp only [Act.put,List.setIfInBounds_toArray,List.set_cons_zero,List.set_cons_succ,i64_w,i32_w]
                         rfl
                        refine pure_ (i:=29) (N:=some 74) (v := ?_) (a' := ?_) spz_m30 rfl rfl (any_of HT_.out (by kernel_rfl)) (fun _ _ _ h=>h) (Or.inl ⟨by rfl, ?_⟩) ?_ ?_
                        rotate_left
                        ·
                         intro w'
                         go_simp
                         with_reducible rfl
                        rotate_left
                        ·
                         simp only [Act.put,List.setIfInBounds_toArray,List.set_cons_zero,List.set_cons_succ,i64_w,i32_w]
                         rfl
                        refine pure_ (i:=30) (N:=some 75) (v := ?_) (a' := ?_) spz_m31 rfl rfl (any_of HT_.out (by kernel_rfl)) (fun _ _ _ h=>h) (Or.inl ⟨by rfl, ?_⟩) ?_ ?_
                        rotate_left
                        ·
                         intro w'
                         go_simp
                         with_reducible rfl
                        rotate_left
                        ·
                         simp only [Act.put,List.setIfInBounds_toArray,List.set_cons_zero,List.set_cons_succ,i64_w,i32_w]
                         rfl
                        refine pure_ (i:=32) (N:=some 77) (v := ?_) (a' := ?_) spz_m32 rfl rfl (any_of HT_.out (by kernel_rfl)) (fun _ _ _ h=>h) (Or.inl ⟨by rfl, ?_⟩) ?_ ?_
                        rotate_left
                        ·
                         intro w'
                         go_simp
                         with_reducible rfl
                        rotate_left
                        ·
                         simp only [Act.put,List.setIfInBounds_toArray,List.set_cons_zero,List.set_cons_succ,i64_w,i32_w]
                         rfl
                        refine take_ (i:=31) (N:=some 76) (v := ?_) (a' := ?_) spz_m33 rfl rfl (take_ofW HT_.out HW_.out (by kernel_rfl)) (fun _ _ _ h=>h) (Or.inl ⟨by rfl, ?_⟩) hHeld ?_ ?_
                        rotate_left
                        ·
                         rintro w' ⟨s0,s1,s2,s3,s4,s5,s6,s7,s8,s9,s10,s11⟩
                         go_simp
                         with_reducible rfl
                        rotate_left
                        ·
                         simp only [Act.put,List.setIfInBounds_toArray,List.set_cons_zero,List.set_cons_succ,i64_w,i32_w]
                         rfl
                        refine pure_ (i:=33) (N:=some 78) (v := ?_) (a' := ?_) spz_m34 rfl rfl (any_of HT_.out (by kernel_rfl)) (fun _ _ _ h=>h) (Or.inl ⟨by rfl, ?_⟩) ?_ ?_
                        rotate_left
                        ·
                         intro w'
                         go_simp
                         with_reducible rfl
                        rotate_left
                        ·
                         simp only [Act.put,List.setIfInBounds_toArray,List.set_cons_zero,List.set_cons_succ,i64_w,i32_w]
                         rfl
                        refine take_ (i:=34) (N:=some 79) (v := ?_) (a' := ?_) spz_m35 rfl rfl (take_ofW HT_.out HW_.out (by kernel_rfl)) (fun _ _ _ h=>h) (Or.inl ⟨by rfl, ?_⟩) hHeld ?_ ?_
                        rotate_left
                        ·
                         rintro w' ⟨s0,s1,s2,s3,s4,s5,s6,s7,s8,s9,s10,s11⟩
                         go_simp
                         with_reducible rfl
                        rotate_left
                        ·
                         simp only [Act.put,List.setIfInBounds_toArray,List.set_cons_zero,List.set_cons_succ,i64_w,i32_w]
                         rfl
                        refine pure_ (i:=35) (N:=some 80) (v := ?_) (a' := ?_) spz_m36 rfl rfl (any_of HT_.out (by kernel_rfl)) (fun _ _ _ h=>h) (Or.inl ⟨by rfl, ?_⟩) ?_ ?_
                        rotate_left
                        ·
                         intro w'
                         go_simp
                         with_reducible rfl
                        rotate_left
                        ·
                         simp only [Act.put,List.setIfInBounds_toArray,List.set_cons_zero,List.set_cons_succ,i64_w,i32_w]
                         rfl
                        refine pure_ (i:=36) (N:=some 81) (v := ?_) (a' := ?_) spz_m37 rfl rfl (any_of HT_.out (by kernel_rfl)) (fun _ _ _ h=>h) (Or.inl ⟨by rfl, ?_⟩) ?_ ?_
                        rotate_left
                        ·
                         intro w'
                         go_simp
                         with_reducible rfl
                        rotate_left
                        ·
                         simp only [Act.put,List.setIfInBounds_toArray,List.set_cons_zero,List.set_cons_succ,i64_w,i32_w]
                         rfl
                        refine pure_ (i:=37) (N:=some 82) (v := ?_) (a' := ?_) spz_m38 rfl rfl (any_of HT_.out (by kernel_rfl)) (fun _ _ _ h=>h) (Or.inl ⟨by rfl, ?_⟩) ?_ ?_
                        rotate_left
                        ·
                         intro w'
                         go_simp
                         with_reducible rfl
                        rotate_left
                        ·
                         simp only [Act.put,List.setIfInBounds_toArray,List.set_cons_zero,List.set_cons_succ,i64_w,i32_w]
                         rfl
                        refine pure_ (i:=38) (N:=some 83) (v := ?_) (a' := ?_) spz_m39 rfl rfl (any_of HT_.out (by kernel_rfl)) (fun _ _ _ h=>h) (Or.inl ⟨by rfl, ?_⟩) ?_ ?_
                        rotate_left
                        ·
                         intro w'
                         go_simp
                         with_reducible rfl
                        rotate_left
                        ·
                         simp only [Act.put,List.setIfInBounds_toArray,List.set_cons_zero,List.set_cons_succ,i64_w,i32_w]
                         rfl
                        refine pure_ (i:=39) (N:=some 84) (v := ?_) (a' := ?_) spz_m40 rfl rfl (any_of HT_.out (by kernel_rfl)) (fun _ _ _ h=>h) (Or.inl ⟨by rfl, ?_⟩) ?_ ?_
                        rotate_left
                        ·
                         intro w'
                         go_simp
                         with_reducible rfl
                        rotate_left
                        ·
                         simp only [Act.put,List.setIfInBounds_toArray,List.set_cons_zero,List.set_cons_succ,i64_w,i32_w]
                         rfl
                        refine one_ (i:=40) (N:=some 85) spz_m41 rfl rfl (one_of HT_.out (by kernel_rfl)) (by decide) (fun K hK => ?_)
                        refine goes_ Try.func20 (by kernel_rfl) rfl #[.int .i64 x10_2] (by rfl) rfl rfl (by (try simp only [List.map_toArray,List.map_cons,List.map_nil]);first|done|rfl|(simp only [List.length_drop,List.length_take];rfl)) ?_
                        with_reducible refine (psalteryref10_Width.calls k2 x10_2 t304 _ A26.out).mono ?_
                        rintro e w' ⟨rfl,⟨nd,rfl⟩⟩
                        refine ⟨_,rfl, ?_⟩
                        have p306 : 0≤(x10_2 : Int):=of_decide_eq_true (by first|(with_reducible assumption)|assumption)
                        have q306 : x10_2 < ((rd_L1 t289 x9_1).length : Int):=of_decide_eq_true (by first|(with_reducible assumption)|assumption)
                        obtain ⟨ad306,e306,hx306_0⟩:=Kd.at_int (by repeat (first|(with_reducible exact HR305_0.out)|(with_reducible refine Kd.C_alloc ?_ _)|(with_reducible refine Kd.C_drewN ?_ _)|(with_reducible refine Kd.C_drew ?_)|exact HR305_0.out)) x10_2 p306 q306
                        cases e306
                        replace p306:=eq_true p306
                        replace q306:=eq_true q306
                        refine hK.out _ _ ⟨hHeld.1,hHeld.2.1,hHeld.2.2.1,hHeld.2.2.2.1,((HB.out.cell (zb w _ hw300_0)).trans hw300_0),((HB.out.cell (zb w _ hw301_0)).trans hw301_0),hHeld.2.2.2.2.2.2.1,hHeld.2.2.2.2.2.2.2.1,hHeld.2.2.2.2.2.2.2.2.1,hHeld.2.2.2.2.2.2.2.2.2.1,((HB.out.cell (zb w _ hw307_0)).trans hw307_0),hHeld.2.2.2.2.2.2.2.2.2.2.2⟩ (fun hHeld => ?_)
                        clear hK K
                        refine norm_ (a' := ?_) ?_ ?_
                        rotate_left
                        ·
                         show Act.put _ (some 85) _=_
                         simp only [Act.put,List.setIfInBounds_toArray,List.set_cons_zero,List.set_cons_succ,i64_w,i32_w]
                         rfl
                        refine pure_ (i:=41) (N:=some 86) (v := ?_) (a' := ?_) spz_m42 rfl rfl (any_of HT_.out (by kernel_rfl)) (fun _ _ _ h=>h) (Or.inl ⟨by rfl, ?_⟩) ?_ ?_
                        rotate_left
                        ·
                         intro w'
                         go_simp
                         with_reducible rfl
                        rotate_left
                        ·
                         simp only [Act.put,List.setIfInBounds_toArray,List.set_cons_zero,List.set_cons_succ,i64_w,i32_w]
                         rfl
                        refine pure_ (i:=42) (N:=some 87) (v := ?_) (a' := ?_) spz_m43 rfl rfl (any_of HT_.out (by kernel_rfl)) (fun _ _ _ h=>h) (Or.inl ⟨by rfl, ?_⟩) ?_ ?_
                        rotate_left
                        ·
                         intro w'
                         go_simp
                         with_reducible rfl
                        rotate_left
                        ·
                         simp only [Act.put,List.setIfInBounds_toArray,List.set_cons_zero,List.set_cons_succ,i64_w,i32_w]
                         rfl
                        refine pure_ (i:=43) (N:=some 88) (v := ?_) (a' := ?_) spz_m44 rfl rfl (any_of HT_.out (by kernel_rfl)) (fun _ _ _ h=>h) (Or.inl ⟨by rfl, ?_⟩) ?_ ?_
                        rotate_left
                        ·
                         intro w'
                         go_simp
                         with_reducible rfl
                        rotate_left
                        ·
                         simp only [Act.put,List.setIfInBounds_toArray,List.set_cons_zero,List.set_cons_succ,i64_w,i32_w]
                         rfl
                        refine pure_ (i:=44) (N:=some 89) (v := ?_) (a' := ?_) spz_m45 rfl rfl (any_of HT_.out (by kernel_rfl)) (fun _ _ _ h=>h) (Or.inl ⟨by rfl, ?_⟩) ?_ ?_
                        rotate_left
                        ·
                         intro w'
                         go_simp
                         with_reducible rfl
                        rotate_left
                        ·
                         simp only [Act.put,List.setIfInBounds_toArray,List.set_cons_zero,List.set_cons_succ,i64_w,i32_w]
                         rfl
                        refine pure_ (i:=45) (N:=some 90) (v := ?_) (a' := ?_) spz_m46 rfl rfl (any_of HT_.out (by kernel_rfl)) (fun _ _ _ h=>h) (Or.inl ⟨by rfl, ?_⟩) ?_ ?_
                        rotate_left
                        ·
                         intro w'
                         go_simp
                         with_reducible rfl
                        rotate_left
                        ·
                         simp only [Act.put,List.setIfInBounds_toArray,List.set_cons_zero,List.set_cons_succ,i64_w,i32_w]
                         rfl
                        refine pure_ (i:=47) (N:=some 92) (v := ?_) (a' := ?_) spz_m47 rfl rfl (any_of HT_.out (by kernel_rfl)) (fun _ _ _ h=>h) (Or.inl ⟨by rfl, ?_⟩) ?_ ?_
                        rotate_left
                        ·
                         intro w'
                         go_simp
                         with_reducible rfl
                        rotate_left
                        ·
                         simp only [Act.put,List.setIfInBounds_toArray,List.set_cons_zero,List.set_cons_succ,i64_w,i32_w]
                         rfl
                        refine take_ (i:=46) (N:=some 91) (v := ?_) (a' := ?_) spz_m48 rfl rfl (take_ofW HT_.out HW_.out (by kernel_rfl)) (fun _ _ _ h=>h) (Or.inl ⟨by rfl, ?_⟩) hHeld ?_ ?_
                        rotate_left
                        ·
                         rintro w' ⟨s0,s1,s2,s3,s4,s5,s6,s7,s8,s9,s10,s11⟩
                         go_simp
                         with_reducible rfl
                        rotate_left
                        ·
                         simp only [Act.put,List.setIfInBounds_toArray,List.set_cons_zero,List.set_cons_succ,i64_w,i32_w]
                         rfl
                        refine pure_ (i:=48) (N:=some 93) (v := ?_) (a' := ?_) spz_m49 rfl rfl (any_of HT_.out (by kernel_rfl)) (fun _ _ _ h=>h) (Or.inl ⟨by rfl, ?_⟩) ?_ ?_
                        rotate_left
                        ·
                         intro w'
                         go_simp
                         with_reducible rfl
                        rotate_left
                        ·
                         simp only [Act.put,List.setIfInBounds_toArray,List.set_cons_zero,List.set_cons_succ,i64_w,i32_w]
                         rfl
                        refine take_ (i:=49) (N:=some 94) (v := ?_) (a' := ?_) spz_m50 rfl rfl (take_ofW HT_.out HW_.out (by kernel_rfl)) (fun _ _ _ h=>h) (Or.inl ⟨by rfl, ?_⟩) hHeld ?_ ?_
                        rotate_left
                        ·
                         rintro w' ⟨s0,s1,s2,s3,s4,s5,s6,s7,s8,s9,s10,s11⟩
                         go_simp
                         with_reducible rfl
                        rotate_left
                        ·
                         simp only [Act.put,List.setIfInBounds_toArray,List.set_cons_zero,List.set_cons_succ,i64_w,i32_w]
                         rfl
                        refine pure_ (i:=50) (N:=some 95) (v := ?_) (a' := ?_) spz_m51 rfl rfl (any_of HT_.out (by kernel_rfl)) (fun _ _ _ h=>h) (Or.inl ⟨by rfl, ?_⟩) ?_ ?_
                        rotate_left
                        ·
                         intro w'
                         go_simp
                         with_reducible rfl
                        rotate_left
                        ·
                         simp only [Act.put,List.setIfInBounds_toArray,List.set_cons_zero,List.set_cons_succ,i64_w,i32_w]
                         rfl
                        refine pure_ (i:=51) (N:=some 96) (v := ?_) (a' := ?_) spz_m52 rfl rfl (any_of HT_.out (by kernel_rfl)) (fun _ _ _ h=>h) (Or.inl ⟨by rfl, ?_⟩) ?_ ?_
                        rotate_left
                        ·
                         intro w'
                         go_simp
                         with_reducible rfl
                        rotate_left
                        ·
                         simp only [Act.put,List.setIfInBounds_toArray,List.set_cons_zero,List.set_cons_succ,i64_w,i32_w]
                         rfl
                        refine pure_ (i:=52) (N:=some 97) (v := ?_) (a' := ?_) spz_m53 rfl rfl (any_of HT_.out (by kernel_rfl)) (fun _ _ _ h=>h) (Or.inl ⟨by rfl, ?_⟩) ?_ ?_
                        rotate_left
                        ·
                         intro w'
                         go_simp
                         with_reducible rfl
                        rotate_left
                        ·
                         simp only [Act.put,List.setIfInBounds_toArray,List.set_cons_zero,List.set_cons_succ,i64_w,i32_w]
                         rfl
                        refine pure_ (i:=53) (N:=some 98) (v := ?_) (a' := ?_) spz_m54 rfl rfl (any_of HT_.out (by kernel_rfl)) (fun _ _ _ h=>h) (Or.inl ⟨by rfl, ?_⟩) ?_ ?_
                        rotate_left
                        ·
                         intro w'
                         go_simp
                         with_reducible rfl
                        rotate_left
                        ·
                         simp only [Act.put,List.setIfInBounds_toArray,List.set_cons_zero,List.set_cons_succ,i64_w,i32_w]
                         rfl
                        refine pure_ (i:=54) (N:=some 99) (v := ?_) (a' := ?_) spz_m55 rfl rfl (any_of HT_.out (by kernel_rfl)) (fun _ _ _ h=>h) (Or.inl ⟨by rfl, ?_⟩) ?_ ?_
                        rotate_left
                        ·
                         intro w'
                         go_simp
                         with_reducible rfl
                        rotate_left
                        ·
                         simp only [Act.put,List.setIfInBounds_toArray,List.set_cons_zero,List.set_cons_succ,i64_w,i32_w]
                         rfl
                        refine pure_ (i:=55) (N:=some 100) (v := ?_) (a' := ?_) spz_m56 rfl rfl (any_of HT_.out (by kernel_rfl)) (fun _ _ _ h=>h) (Or.inl ⟨by rfl, ?_⟩) ?_ ?_
                        rotate_left
                        ·
                         intro w'
                         go_simp
                         with_reducible rfl
                        rotate_left
                        ·
                         simp only [Act.put,List.setIfInBounds_toArray,List.set_cons_zero,List.set_cons_succ,i64_w,i32_w]
                         rfl
                        refine pure_ (i:=56) (N:=some 101) (v := ?_) (a' := ?_) spz_m57 rfl rfl (any_of HT_.out (by kernel_rfl)) (fun _ _ _ h=>h) (Or.inl ⟨by rfl, ?_⟩) ?_ ?_
                        rotate_left
                        ·
                         intro w'
                         go_simp
                         with_reducible rfl
                        rotate_left
                        ·
                         simp only [Act.put,List.setIfInBounds_toArray,List.set_cons_zero,List.set_cons_succ,i64_w,i32_w]
                         rfl
                        refine pure_ (i:=58) (N:=some 103) (v := ?_) (a' := ?_) spz_m58 rfl rfl (any_of HT_.out (by kernel_rfl)) (fun _ _ _ h=>h) (Or.inl ⟨by rfl, ?_⟩) ?_ ?_
                        rotate_left
                        ·
                         intro w'
                         go_simp
                         with_reducible rfl
                        rotate_left
                        ·
                         simp only [Act.put,List.setIfInBounds_toArray,List.set_cons_zero,List.set_cons_succ,i64_w,i32_w]
                         rfl
                        refine pure_ (i:=59) (N:=some 104) (v := ?_) (a' := ?_) spz_m59 rfl rfl (any_of HT_.out (by kernel_rfl)) (fun _ _ _ h=>h) (Or.inl ⟨by rfl, ?_⟩) ?_ ?_
                        rotate_left
                        ·
                         intro w'
                         go_simp
                         with_reducible rfl
                        rotate_left
                        ·
                         simp only [Act.put,List.setIfInBounds_toArray,List.set_cons_zero,List.set_cons_succ,i64_w,i32_w]
                         rfl
                        refine pure_ (i:=60) (N:=some 105) (v := ?_) (a' := ?_) spz_m60 rfl rfl (any_of HT_.out (by kernel_rfl)) (fun _ _ _ h=>h) (Or.inl ⟨by rfl, ?_⟩) ?_ ?_
                        rotate_left
                        ·
                         intro w'
                         go_simp
                         with_reducible rfl
                        rotate_left
                        ·
                         simp only [Act.put,List.setIfInBounds_toArray,List.set_cons_zero,List.set_cons_succ,i64_w,i32_w]
                         rfl
                        refine pure_ (i:=62) (N:=some 107) (v := ?_) (a' := ?_) spz_m61 rfl rfl (any_of HT_.out (by kernel_rfl)) (fun _ _ _ h=>h) (Or.inl ⟨by rfl, ?_⟩) ?_ ?_
                        rotate_left
                        ·
                         intro w'
                         go_simp
                         with_reducible rfl
                        rotate_left
                        ·
                         simp only [Act.put,List.setIfInBounds_toArray,List.set_cons_zero,List.set_cons_succ,i64_w,i32_w]
                         rfl
                        refine pure_ (i:=63) (N:=some 108) (v := ?_) (a' := ?_) spz_m62 rfl rfl (any_of HT_.out (by kernel_rfl)) (fun _ _ _ h=>h) (Or.inl ⟨by rfl, ?_⟩) ?_ ?_
                        rotate_left
                        ·
                         intro w'
                         go_simp
                         with_reducible rfl
                        rotate_left
                        ·
                         simp only [Act.put,List.setIfInBounds_toArray,List.set_cons_zero,List.set_cons_succ,i64_w,i32_w]
                         rfl
                        refine pure_ (i:=64) (N:=some 109) (v := ?_) (a' := ?_) spz_m63 rfl rfl (any_of HT_.out (by kernel_rfl)) (fun _ _ _ h=>h) (Or.inl ⟨by rfl, ?_⟩) ?_ ?_
                        rotate_left
                        ·
                         intro w'
                         go_simp
                         with_reducible rfl
                        rotate_left
                        ·
                         simp only [Act.put,List.setIfInBounds_toArray,List.set_cons_zero,List.set_cons_succ,i64_w,i32_w]
                         rfl
                        refine take_ (i:=57) (N:=some 102) (v := ?_) (a' := ?_) spz_m64 rfl rfl (take_ofW HT_.out HW_.out (by kernel_rfl)) (fun _ _ _ h=>h) (Or.inl ⟨by rfl, ?_⟩) hHeld ?_ ?_
                        rotate_left
                        ·
                         rintro w' ⟨s0,s1,s2,s3,s4,s5,s6,s7,s8,s9,s10,s11⟩
                         go_simp
                         with_reducible rfl
                        rotate_left
                        ·
                         simp only [Act.put,List.setIfInBounds_toArray,List.set_cons_zero,List.set_cons_succ,i64_w,i32_w]
                         rfl
                        refine take_ (i:=61) (N:=some 106) (v := ?_) (a' := ?_) spz_m65 rfl rfl (take_ofW HT_.out HW_.out (by kernel_rfl)) (fun _ _ _ h=>h) (Or.inl ⟨by rfl, ?_⟩) hHeld ?_ ?_
                        rotate_left
                        ·
                         rintro w' ⟨s0,s1,s2,s3,s4,s5,s6,s7,s8,s9,s10,s11⟩
                         go_simp
                         with_reducible rfl
                        rotate_left
                        ·
                         simp only [Act.put,List.setIfInBounds_toArray,List.set_cons_zero,List.set_cons_succ,i64_w,i32_w]
                         rfl
                        refine one_ (i:=65) (N:=some 110) spz_m66 rfl rfl (one_of HT_.out (by kernel_rfl)) (by decide) (fun K hK => ?_)
                        refine goes_ Try.func11 (by kernel_rfl) rfl #[.int .i64 a0, .int .i64 a1] (by rfl) rfl rfl (by (try simp only [List.map_toArray,List.map_cons,List.map_nil]);first|done|rfl|(simp only [List.length_drop,List.length_take];rfl)) ?_
                        with_reducible refine (alloc_Room.calls a0 a1 t309 _ A29.out).mono ?_
                        rintro e w' ⟨rfl,⟨nd,rfl⟩⟩
                        refine ⟨_,rfl, ?_⟩
                        refine hK.out _ _ ⟨hHeld.1,hHeld.2.1,hHeld.2.2.1,hHeld.2.2.2.1,((HB.out.cell (zb w _ hw300_0)).trans hw300_0),((HB.out.cell (zb w _ hw301_0)).trans hw301_0),hHeld.2.2.2.2.2.2.1,hHeld.2.2.2.2.2.2.2.1,hHeld.2.2.2.2.2.2.2.2.1,hHeld.2.2.2.2.2.2.2.2.2.1,((HB.out.cell (zb w _ hw307_0)).trans hw307_0),hHeld.2.2.2.2.2.2.2.2.2.2.2⟩ (fun hHeld => ?_)
                        clear hK K
                        refine norm_ (a' := ?_) ?_ ?_
                        rotate_left
                        ·
                         show Act.put _ (some 110) _=_
                         simp only [Act.put,List.setIfInBounds_toArray,List.set_cons_zero,List.set_cons_succ,i64_w,i32_w]
                         rfl
                        refine one_ (i:=66) (N:=some 111) spz_m67 rfl rfl (one_of HT_.out (by kernel_rfl)) (by decide) (fun K hK => ?_)
                        refine goes_ Try.func21 (by kernel_rfl) rfl #[.slice (some ad301) (rd_L1 l2 x9_1).length c300_0, .slice (some ad297) (rd_L1 t289 x9_1).length c296_0, .int .i64 x10_2, .int .i64 t309] (by rfl) rfl rfl (by (try simp only [List.map_toArray,List.map_cons,List.map_nil]);first|done|rfl|(simp only [List.length_drop,List.length_take];rfl)) ?_
                        with_reducible refine (psalteryref12_May.calls k2 _ _ (rd_L1 l2 x9_1) _ _ (rd_L1 t289 x9_1) x10_2 t309 false _ ?side1 ?side2 ?side3 ?side4 A30.out).mono ?_
                        (case side1=>repeat (first|exact (Kd.C_below HR307_0.out (by repeat (first|(with_reducible first|exact HB.out|apply ze|apply zd|apply zf)|exact HB.out)))|(with_reducible refine Kd.C_alloc ?_ _)|(with_reducible refine Kd.C_drewN ?_ _)|(with_reducible refine Kd.C_drew ?_)))
                        (case side2=>exact HC307_0.out)
                        (case side3=>repeat (first|exact (by repeat (first|(with_reducible exact HR308_0.out)|(with_reducible refine Kd.C_alloc ?_ _)|(with_reducible refine Kd.C_drewN ?_ _)|(with_reducible refine Kd.C_drew ?_)|exact HR308_0.out))|(with_reducible refine Kd.C_alloc ?_ _)|(with_reducible refine Kd.C_drewN ?_ _)|(with_reducible refine Kd.C_drew ?_)))
                        (case side4=>exact HC308_0.out)
                        rintro e w33 ⟨rfl,hb⟩
                        have HS0_:=(hb.cell (zb _ _ (hHeld.1))).trans (hHeld.1)
                        have HS1_:=(hb.cell (zb _ _ (hHeld.2.1))).trans (hHeld.2.1)
                        have HS2_:=(hb.cell (zb _ _ (hHeld.2.2.1))).trans (hHeld.2.2.1)
                        have HS3_:=(hb.cell (zb _ _ (hHeld.2.2.2.1))).trans (hHeld.2.2.2.1)
                        have HS6_:=(hb.cell (zb _ _ (hHeld.2.2.2.2.2.2.1))).trans (hHeld.2.2.2.2.2.2.1)
                        have HS7_:=(hb.cell (zb _ _ (hHeld.2.2.2.2.2.2.2.1))).trans (hHeld.2.2.2.2.2.2.2.1)
                        have HS8_:=(hb.cell (zb _ _ (hHeld.2.2.2.2.2.2.2.2.1))).trans (hHeld.2.2.2.2.2.2.2.2.1)
                        have HS9_:=(hb.cell (zb _ _ (hHeld.2.2.2.2.2.2.2.2.2.1))).trans (hHeld.2.2.2.2.2.2.2.2.2.1)
                        have HS11_:=(hb.cell (zb _ _ (hHeld.2.2.2.2.2.2.2.2.2.2.2))).trans (hHeld.2.2.2.2.2.2.2.2.2.2.2)
                        refine ⟨_,rfl, ?_⟩
                        have n0_:=zm (Kd.S_below (by (with_reducible repeat (first|apply Kd.S_alloc|apply Kd.S_drewN|apply Kd.S_drew));exact HO_7.out) hb)
                        have n1_:=zm (Kd.R_below (by (with_reducible repeat (first|apply zo|apply zp|apply zq));exact HL296_0.out) hb)
                        have n2_:=zm (Kd.R_below (by (with_reducible repeat (first|apply zo|apply zp|apply zq));exact HL298_0.out) hb)
                        have n3_:=zm (Kd.R_below (by (with_reducible repeat (first|apply zo|apply zp|apply zq));exact HL302_0.out) hb)
                        have n4_:=zm (Kd.R_below (by (with_reducible repeat (first|apply zo|apply zp|apply zq));exact HL305_0.out) hb)
                        have n5_:=zm (Kd.R_below (by (with_reducible repeat (first|apply zo|apply zp|apply zq));exact HL308_0.out) hb)
                        have n6_:=zm (Kd.C_below (Kd.C_drewN (Kd.C_drewN HR295_0.out _) _) hb)
                        have n7_:=zm (Kd.C_below (Kd.C_drewN (Kd.C_drewN HR296_0.out _) _) hb)
                        have n8_:=zm (Kd.C_below (Kd.C_drewN (Kd.C_drewN HR298_0.out _) _) hb)
                        have n9_:=zm (Kd.C_below (Kd.C_drewN (Kd.C_drewN HR302_0.out _) _) hb)
                        have n10_:=zm (Kd.C_below (Kd.C_drewN (Kd.C_drewN HR305_0.out _) _) hb)
                        have n11_:=zm (Kd.C_below (Kd.C_drewN (Kd.C_drewN HR308_0.out _) _) hb)
                        have n12_:=zm (zJ (by repeat (first|(with_reducible first|exact HB.out|apply ze|apply zd|apply zf)|exact HB.out)) hb)
                        clear HO_7;clear HL296_0;clear HL298_0;clear HL302_0;clear HL305_0;clear HL308_0;clear HR295_0;clear HR296_0;clear HR298_0;clear HR302_0;clear HR305_0;clear HR308_0;clear HB;have HO_7:=n0_;have HL296_0:=n1_;have HL298_0:=n2_;have HL302_0:=n3_;have HL305_0:=n4_;have HL308_0:=n5_;have HR295_0:=n6_;have HR296_0:=n7_;have HR298_0:=n8_;have HR302_0:=n9_;have HR305_0:=n10_;have HR308_0:=n11_;have HB:=n12_;clear n0_ n1_ n2_ n3_ n4_ n5_ n6_ n7_ n8_ n9_ n10_ n11_ n12_
                        (try clear hb)
                        (try clear hb2)
                        (try clear hk)
                        (try clear hi)
                        refine hK.out _ _ ⟨HS0_,HS1_,HS2_,HS3_,((HB.out.cell (zb w _ hw300_0)).trans hw300_0),((HB.out.cell (zb w _ hw301_0)).trans hw301_0),HS6_,HS7_,HS8_,HS9_,((HB.out.cell (zb w _ hw307_0)).trans hw307_0),HS11_⟩ (fun hHeld => ?_)
                        clear hK K
                        refine norm_ (a' := ?_) ?_ ?_
                        rotate_left
                        ·
                         show Act.put _ (some 111) _=_
                         simp only [Act.put,List.setIfInBounds_toArray,List.set_cons_zero,List.set_cons_succ,i64_w,i32_w]
                         rfl
                        refine pure_ (i:=67) (N:=some 112) (v := ?_) (a' := ?_) spz_m68 rfl rfl (any_of HT_.out (by kernel_rfl)) (fun _ _ _ h=>h) (Or.inl ⟨by rfl, ?_⟩) ?_ ?_
                        rotate_left
                        ·
                         intro w'
                         go_simp
                         with_reducible rfl
                        rotate_left
                        ·
                         simp only [Act.put,List.setIfInBounds_toArray,List.set_cons_zero,List.set_cons_succ,i64_w,i32_w]
                         rfl
                        refine done_ (done_of HT_.out (by kernel_rfl)) ?_
                        try go_wp2
                        go_roundg k2
                        case measure=>have:=HK1.out;have:=HK2.out;omega
                        case rel=>exact ⟨(wrap64 (x10_2+1)),(by first|rfl|(simp;done)|(simp [*];done)),H',⟨by have:=HK1.out;have:=HK2.out;omega⟩,⟨by (with_reducible repeat (first|apply Kd.S_alloc|apply Kd.S_drewN|apply Kd.S_drew));exact HO_7.out⟩,⟨by repeat (first|(with_reducible exact HR295_0.out)|(with_reducible refine Kd.C_alloc ?_ _)|(with_reducible refine Kd.C_drewN ?_ _)|(with_reducible refine Kd.C_drew ?_)|exact HR295_0.out)⟩,⟨by repeat (first|(with_reducible first|exact HB.out|apply ze|apply zd|apply zf)|exact HB.out)⟩⟩
                     ·
                      rw [if_neg c27] at H
                      have c27b0 : (t304 == 1)=false:=beq_eq_false_iff_ne.mpr c27
                      have c27b1 : (t304 != 1)=true:=bne_iff_ne.mpr c27
                      replace H:=Option.bind_eq_some_iff.mp H
                      obtain ⟨t313,A340,H⟩:=H
                      replace H : ((psalteryref12_May.f k2 (rd_L1 l2 x9_1) (rd_L1 t289 x9_1) x10_2 t313).bind fun t314=>(if t314=true then (none) else (psalterylaw12_AllocSpends.l1 k2 a0 a1 l2 t289 x9_1 (wrap64 (x10_2+1)))))=some r:=H
                      have A34:=zm A340;clear A340
                      replace H:=Option.bind_eq_some_iff.mp H
                      obtain ⟨t314,A350,H⟩:=H
                      replace H : (if t314=true then (none) else (psalterylaw12_AllocSpends.l1 k2 a0 a1 l2 t289 x9_1 (wrap64 (x10_2+1))))=some r:=H
                      have A35:=zm A350;clear A350
                      by_cases c36 : t314=true
                      ·
                       subst c36
                       have H1 : (none)=some r:=by rw [if_pos rfl] at H;exact H
                       clear H;have H:=H1;clear H1
                       exact absurd H (by simp)
                      ·
                       replace c36:=Bool.eq_false_iff.mpr c36
                       subst c36
                       have H1 : (psalterylaw12_AllocSpends.l1 k2 a0 a1 l2 t289 x9_1 (wrap64 (x10_2+1)))=some r:=by rw [if_neg (show ¬ (false=true) by decide)] at H;exact H
                       clear H;have H:=H1;clear H1
                       have H' := zm H
                       clear H
                       try go_wp2
                       have n0_:=zm (Kd.S_drew HO_7.out);have n1_:=zm (Kd.C_drew HR295_0.out);have n2_:=zm (zf HB.out);clear HO_7;clear HR295_0;clear HB;have HO_7:=n0_;have HR295_0:=n1_;have HB:=n2_;clear n0_ n1_ n2_
                       have p296 : 0≤(x9_1 : Int):=of_decide_eq_true (by first|(with_reducible assumption)|assumption)
                       have q296 : x9_1 < (t289.length : Int):=of_decide_eq_true (by first|(with_reducible assumption)|assumption)
                       obtain ⟨ad296,A296_0,c296_0,e296,hx296_0,hl296_0,hi296_0⟩:=at_L1 (Kd.S_reads' HO_7.out).2.2 x9_1 p296 q296
                       obtain rfl : ad295=ad296:=(by injection e296)
                       obtain ⟨ce296,hce296,hMe296,hcc296⟩:=Kd.S_get HO_7.out [] x9_1 p296 (by first|exact q296|exact of_decide_eq_true (by first|(with_reducible assumption)|assumption)|(have e_:=(Kd.S_reads' HO_7.out).1;omega))
                       obtain ⟨ve296_0,rfl,ge296_0⟩:=hMe296
                       have hv296_0:=hcc296 0 _ rfl
                       rw [Nat.add_zero,show ((Kd.slice 3 (Kd.int .i64))).sz=1 from rfl,Nat.mul_one] at hv296_0
                       replace hv296_0:=Option.some.inj (hv296_0.symm.trans hx296_0)
                       rw [hv296_0] at ge296_0
                       have HL296_0:=zm (show Kd.R (Kd.int .i64) 3 _ _ _ _ (rd_L1 t289 x9_1) from ge296_0)
                       clear hv296_0 ge296_0;clear hcc296 hce296;have HR296_0:=zm hi296_0;have HC296_0:=zm hl296_0;clear hi296_0 hl296_0
                       replace p296:=eq_true p296
                       replace q296:=eq_true q296
                       have p297 : 0≤(x10_2 : Int):=of_decide_eq_true (by first|(with_reducible assumption)|assumption)
                       have q297 : x10_2 < ((rd_L1 t289 x9_1).length : Int):=of_decide_eq_true (by first|(with_reducible assumption)|assumption)
                       obtain ⟨ad297,e297,hx297_0⟩:=Kd.at_int (by repeat (first|(with_reducible exact HR296_0.out)|(with_reducible refine Kd.C_alloc ?_ _)|(with_reducible refine Kd.C_drewN ?_ _)|(with_reducible refine Kd.C_drew ?_)|exact HR296_0.out)) x10_2 p297 q297
                       cases e297
                       replace p297:=eq_true p297
                       replace q297:=eq_true q297
                       have p298 : 0≤(x9_1 : Int):=of_decide_eq_true (by first|(with_reducible assumption)|assumption)
                       have q298 : x9_1 < (t289.length : Int):=of_decide_eq_true (by first|(with_reducible assumption)|assumption)
                       obtain ⟨ad298,A298_0,c298_0,e298,hx298_0,hl298_0,hi298_0⟩:=at_L1 (Kd.S_reads' HO_7.out).2.2 x9_1 p298 q298
                       obtain rfl : ad295=ad298:=(by injection e298)
                       obtain ⟨ce298,hce298,hMe298,hcc298⟩:=Kd.S_get HO_7.out [] x9_1 p298 (by first|exact q298|exact of_decide_eq_true (by first|(with_reducible assumption)|assumption)|(have e_:=(Kd.S_reads' HO_7.out).1;omega))
                       obtain ⟨ve298_0,rfl,ge298_0⟩:=hMe298
                       have hv298_0:=hcc298 0 _ rfl
                       rw [Nat.add_zero,show ((Kd.slice 3 (Kd.int .i64))).sz=1 from rfl,Nat.mul_one] at hv298_0
                       replace hv298_0:=Option.some.inj (hv298_0.symm.trans hx298_0)
                       rw [hv298_0] at ge298_0
                       have HL298_0:=zm (show Kd.R (Kd.int .i64) 3 _ _ _ _ (rd_L1 t289 x9_1) from ge298_0)
                       clear hv298_0 ge298_0;clear hcc298 hce298;have HR298_0:=zm hi298_0;have HC298_0:=zm hl298_0;clear hi298_0 hl298_0
                       replace p298:=eq_true p298
                       replace q298:=eq_true q298
                       have ea_:=Option.some.inj (hx296_0.symm.trans hx298_0)
                       injection ea_ with ea_ en_ ec_
                       subst ea_;subst ec_;clear en_
                       have p299 : 0≤(x10_2 : Int):=of_decide_eq_true (by first|(with_reducible assumption)|assumption)
                       have q299 : x10_2 < ((rd_L1 t289 x9_1).length : Int):=of_decide_eq_true (by first|(with_reducible assumption)|assumption)
                       obtain ⟨ad299,e299,hx299_0⟩:=Kd.at_int (by repeat (first|(with_reducible exact HR298_0.out)|(with_reducible refine Kd.C_alloc ?_ _)|(with_reducible refine Kd.C_drewN ?_ _)|(with_reducible refine Kd.C_drew ?_)|exact HR298_0.out)) x10_2 p299 q299
                       cases e299
                       replace p299:=eq_true p299
                       replace q299:=eq_true q299
                       have p300 : 0≤(x9_1 : Int):=of_decide_eq_true (by first|(with_reducible assumption)|assumption)
                       have q300 : x9_1 < (l2.length : Int):=of_decide_eq_true (by first|(with_reducible assumption)|assumption)
                       obtain ⟨ad300,A300_0,c300_0,e300,hx300_0,hl300_0,hi300_0⟩:=at_L1 HR2.out x9_1 p300 q300
                       have hw300_0:=hx300_0
                       cases e300
                       replace hx300_0:=(HB.out.cell (zb w _ hx300_0)).trans hx300_0
                       have HR300_0:=zm hi300_0;have HC300_0:=zm hl300_0;clear hi300_0 hl300_0
                       replace p300:=eq_true p300
                       replace q300:=eq_true q300
                       have p301 : 0≤(x10_2 : Int):=of_decide_eq_true (by first|(with_reducible assumption)|assumption)
                       have q301 : x10_2 < ((rd_L1 l2 x9_1).length : Int):=of_decide_eq_true (by first|(with_reducible assumption)|assumption)
                       obtain ⟨ad301,e301,hx301_0⟩:=Kd.at_int HR300_0.out x10_2 p301 q301
                       have hw301_0:=hx301_0
                       cases e301
                       replace hx301_0:=(HB.out.cell (zb w _ hx301_0)).trans hx301_0
                       replace p301:=eq_true p301
                       replace q301:=eq_true q301
                       have p302 : 0≤(x9_1 : Int):=of_decide_eq_true (by first|(with_reducible assumption)|assumption)
                       have q302 : x9_1 < (t289.length : Int):=of_decide_eq_true (by first|(with_reducible assumption)|assumption)
                       obtain ⟨ad302,A302_0,c302_0,e302,hx302_0,hl302_0,hi302_0⟩:=at_L1 (Kd.S_reads' HO_7.out).2.2 x9_1 p302 q302
                       obtain rfl : ad295=ad302:=(by injection e302)
                       obtain ⟨ce302,hce302,hMe302,hcc302⟩:=Kd.S_get HO_7.out [] x9_1 p302 (by first|exact q302|exact of_decide_eq_true (by first|(with_reducible assumption)|assumption)|(have e_:=(Kd.S_reads' HO_7.out).1;omega))
                       obtain ⟨ve302_0,rfl,ge302_0⟩:=hMe302
                       have hv302_0:=hcc302 0 _ rfl
                       rw [Nat.add_zero,show ((Kd.slice 3 (Kd.int .i64))).sz=1 from rfl,Nat.mul_one] at hv302_0
                       replace hv302_0:=Option.some.inj (hv302_0.symm.trans hx302_0)
                       rw [hv302_0] at ge302_0
                       have HL302_0:=zm (show Kd.R (Kd.int .i64) 3 _ _ _ _ (rd_L1 t289 x9_1) from ge302_0)
                       clear hv302_0 ge302_0;clear hcc302 hce302;have HR302_0:=zm hi302_0;have HC302_0:=zm hl302_0;clear hi302_0 hl302_0
                       replace p302:=eq_true p302
                       replace q302:=eq_true q302
                       have ea_:=Option.some.inj (hx296_0.symm.trans hx302_0)
                       injection ea_ with ea_ en_ ec_
                       subst ea_;subst ec_;clear en_
                       have p303 : 0≤(x10_2 : Int):=of_decide_eq_true (by first|(with_reducible assumption)|assumption)
                       have q303 : x10_2 < ((rd_L1 t289 x9_1).length : Int):=of_decide_eq_true (by first|(with_reducible assumption)|assumption)
                       obtain ⟨ad303,e303,hx303_0⟩:=Kd.at_int (by repeat (first|(with_reducible exact HR302_0.out)|(with_reducible refine Kd.C_alloc ?_ _)|(with_reducible refine Kd.C_drewN ?_ _)|(with_reducible refine Kd.C_drew ?_)|exact HR302_0.out)) x10_2 p303 q303
                       cases e303
                       replace p303:=eq_true p303
                       replace q303:=eq_true q303
                       have p311 : 0≤(x9_1 : Int):=of_decide_eq_true (by first|(with_reducible assumption)|assumption)
                       have q311 : x9_1 < (l2.length : Int):=of_decide_eq_true (by first|(with_reducible assumption)|assumption)
                       obtain ⟨ad311,A311_0,c311_0,e311,hx311_0,hl311_0,hi311_0⟩:=at_L1 HR2.out x9_1 p311 q311
                       have hw311_0:=hx311_0
                       obtain rfl : ad300=ad311:=(by injection e311)
                       replace hx311_0:=(HB.out.cell (zb w _ hx311_0)).trans hx311_0
                       have HR311_0:=zm hi311_0;have HC311_0:=zm hl311_0;clear hi311_0 hl311_0
                       replace p311:=eq_true p311
                       replace q311:=eq_true q311
                       have ea_:=Option.some.inj (hx300_0.symm.trans hx311_0)
                       injection ea_ with ea_ en_ ec_
                       subst ea_;subst ec_;clear en_
                       have p312 : 0≤(x9_1 : Int):=of_decide_eq_true (by first|(with_reducible assumption)|assumption)
                       have q312 : x9_1 < (t289.length : Int):=of_decide_eq_true (by first|(with_reducible assumption)|assumption)
                       obtain ⟨ad312,A312_0,c312_0,e312,hx312_0,hl312_0,hi312_0⟩:=at_L1 (Kd.S_reads' HO_7.out).2.2 x9_1 p312 q312
                       obtain rfl : ad295=ad312:=(by injection e312)
                       obtain ⟨ce312,hce312,hMe312,hcc312⟩:=Kd.S_get HO_7.out [] x9_1 p312 (by first|exact q312|exact of_decide_eq_true (by first|(with_reducible assumption)|assumption)|(have e_:=(Kd.S_reads' HO_7.out).1;omega))
                       obtain ⟨ve312_0,rfl,ge312_0⟩:=hMe312
                       have hv312_0:=hcc312 0 _ rfl
                       rw [Nat.add_zero,show ((Kd.slice 3 (Kd.int .i64))).sz=1 from rfl,Nat.mul_one] at hv312_0
                       replace hv312_0:=Option.some.inj (hv312_0.symm.trans hx312_0)
                       rw [hv312_0] at ge312_0
                       have HL312_0:=zm (show Kd.R (Kd.int .i64) 3 _ _ _ _ (rd_L1 t289 x9_1) from ge312_0)
                       clear hv312_0 ge312_0;clear hcc312 hce312;have HR312_0:=zm hi312_0;have HC312_0:=zm hl312_0;clear hi312_0 hl312_0
                       replace p312:=eq_true p312
                       replace q312:=eq_true q312
                       have ea_:=Option.some.inj (hx296_0.symm.trans hx312_0)
                       injection ea_ with ea_ en_ ec_
                       subst ea_;subst ec_;clear en_
                       refine start_ (n:=68) (S:=fun w' => w'.cell? (ad295.add (x9_1).toNat)=some (.slice (some ad297) (rd_L1 t289 x9_1).length c296_0)∧w'.cell? (ad297.add (x10_2).toNat)=some (.int .i64 (rd (rd_L1 t289 x9_1) x10_2))∧w'.cell? (ad295.add (x9_1).toNat)=some (.slice (some ad297) (rd_L1 t289 x9_1).length c296_0)∧w'.cell? (ad297.add (x10_2).toNat)=some (.int .i64 (rd (rd_L1 t289 x9_1) x10_2))∧w'.cell? (ad300.add (x9_1).toNat)=some (.slice (some ad301) (rd_L1 l2 x9_1).length c300_0)∧w'.cell? (ad301.add (x10_2).toNat)=some (.int .i64 (rd (rd_L1 l2 x9_1) x10_2))∧w'.cell? (ad295.add (x9_1).toNat)=some (.slice (some ad297) (rd_L1 t289 x9_1).length c296_0)∧w'.cell? (ad297.add (x10_2).toNat)=some (.int .i64 (rd (rd_L1 t289 x9_1) x10_2))∧w'.cell? (ad300.add (x9_1).toNat)=some (.slice (some ad301) (rd_L1 l2 x9_1).length c300_0)∧w'.cell? (ad295.add (x9_1).toNat)=some (.slice (some ad297) (rd_L1 t289 x9_1).length c296_0)) (ds := []) spz_m0 (by kernel_rfl) rfl rfl ⟨hx296_0,hx297_0,hx298_0,hx299_0,((HB.out.cell (zb w _ hw300_0)).trans hw300_0),((HB.out.cell (zb w _ hw301_0)).trans hw301_0),hx302_0,hx303_0,((HB.out.cell (zb w _ hw311_0)).trans hw311_0),hx312_0⟩ (fun hHeld => ?_);refine with_tabW psalterylaw12_AllocSpends.tab14 psalterylaw12_AllocSpends.bits14 (fun HT_ HW_ => ?_)
                       generalize wr.drew=w37 at HO_7 HR295_0 HB HL296_0 HL298_0 HL302_0 HL312_0 HR296_0 HR298_0 HR300_0 HR302_0 HR311_0 HR312_0 hx296_0 hx297_0 hx298_0 hx299_0 hx300_0 hx301_0 hx302_0 hx303_0 hx311_0 hx312_0 hHeld ⊢
                       refine pure_ (i:=0) (N:=some 45) (v := ?_) (a' := ?_) spz_m1 rfl rfl (any_of HT_.out (by kernel_rfl)) (fun _ _ _ h=>h) (Or.inl ⟨by rfl, ?_⟩) ?_ ?_
                       rotate_left
                       ·
                        intro w'
                        go_simp
                        with_reducible rfl
                       rotate_left
                       ·
                        simp only [Act.put,List.setIfInBounds_toArray,List.set_cons_zero,List.set_cons_succ,i64_w,i32_w]
                        rfl
                       refine pure_ (i:=1) (N:=some 46) (v := ?_) (a' := ?_) spz_m2 rfl rfl (any_of HT_.out (by kernel_rfl)) (fun _ _ _ h=>h) (Or.inl ⟨by rfl, ?_⟩) ?_ ?_
                       rotate_left
                       ·
                        intro w'
                        go_simp
                        with_reducible rfl
                       rotate_left
                       ·
                        simp only [Act.put,List.setIfInBounds_toArray,List.set_cons_zero,List.set_cons_succ,i64_w,i32_w]
                        rfl
                       refine pure_ (i:=2) (N:=some 47) (v := ?_) (a' := ?_) spz_m3 rfl rfl (any_of HT_.out (by kernel_rfl)) (fun _ _ _ h=>h) (Or.inl ⟨by rfl, ?_⟩) ?_ ?_
                       rotate_left
                       ·
                        intro w'
                        go_simp
                        with_reducible rfl
                       rotate_left
                       ·
                        simp only [Act.put,List.setIfInBounds_toArray,List.set_cons_zero,List.set_cons_succ,i64_w,i32_w]
                        rfl
                       refine pure_ (i:=4) (N:=some 49) (v := ?_) (a' := ?_) spz_m4 rfl rfl (any_of HT_.out (by kernel_rfl)) (fun _ _ _ h=>h) (Or.inl ⟨by rfl, ?_⟩) ?_ ?_
                       rotate_left
                       ·
                        intro w'
                        go_simp
                        with_reducible rfl
                       rotate_left
                       ·
                        simp only [Act.put,List.setIfInBounds_toArray,List.set_cons_zero,List.set_cons_succ,i64_w,i32_w]
                        rfl
                       refine take_ (i:=3) (N:=some 48) (v := ?_) (a' := ?_) spz_m5 rfl rfl (take_ofW HT_.out HW_.out (by kernel_rfl)) (fun _ _ _ h=>h) (Or.inl ⟨by rfl, ?_⟩) hHeld ?_ ?_
                       rotate_left
                       ·
                        rintro w' ⟨s0,s1,s2,s3,s4,s5,s6,s7,s8,s9⟩
                        go_simp
                        with_reducible rfl
                       rotate_left
                       ·
                        simp only [Act.put,List.setIfInBounds_toArray,List.set_cons_zero,List.set_cons_succ,i64_w,i32_w]
                        rfl
                       refine pure_ (i:=5) (N:=some 50) (v := ?_) (a' := ?_) spz_m6 rfl rfl (any_of HT_.out (by kernel_rfl)) (fun _ _ _ h=>h) (Or.inl ⟨by rfl, ?_⟩) ?_ ?_
                       rotate_left
                       ·
                        intro w'
                        go_simp
                        with_reducible rfl
                       rotate_left
                       ·
                        simp only [Act.put,List.setIfInBounds_toArray,List.set_cons_zero,List.set_cons_succ,i64_w,i32_w]
                        rfl
                       refine take_ (i:=6) (N:=some 51) (v := ?_) (a' := ?_) spz_m7 rfl rfl (take_ofW HT_.out HW_.out (by kernel_rfl)) (fun _ _ _ h=>h) (Or.inl ⟨by rfl, ?_⟩) hHeld ?_ ?_
                       rotate_left
                       ·
                        rintro w' ⟨s0,s1,s2,s3,s4,s5,s6,s7,s8,s9⟩
                        go_simp
                        with_reducible rfl
                       rotate_left
                       ·
                        simp only [Act.put,List.setIfInBounds_toArray,List.set_cons_zero,List.set_cons_succ,i64_w,i32_w]
                        rfl
                       refine pure_ (i:=7) (N:=some 52) (v := ?_) (a' := ?_) spz_m8 rfl rfl (any_of HT_.out (by kernel_rfl)) (fun _ _ _ h=>h) (Or.inl ⟨by rfl, ?_⟩) ?_ ?_
                       rotate_left
                       ·
                        intro w'
                        go_simp
                        with_reducible rfl
                       rotate_left
                       ·
                        simp only [Act.put,List.setIfInBounds_toArray,List.set_cons_zero,List.set_cons_succ,i64_w,i32_w]
                        rfl
                       refine pure_ (i:=8) (N:=some 53) (v := ?_) (a' := ?_) spz_m9 rfl rfl (any_of HT_.out (by kernel_rfl)) (fun _ _ _ h=>h) (Or.inl ⟨by rfl, ?_⟩) ?_ ?_
                       rotate_left
                       ·
                        intro w'
                        go_simp
                        with_reducible rfl
                       rotate_left
                       ·
                        simp only [Act.put,List.setIfInBounds_toArray,List.set_cons_zero,List.set_cons_succ,i64_w,i32_w]
                        rfl
                       refine pure_ (i:=9) (N:=some 54) (v := ?_) (a' := ?_) spz_m10 rfl rfl (any_of HT_.out (by kernel_rfl)) (fun _ _ _ h=>h) (Or.inl ⟨by rfl, ?_⟩) ?_ ?_
                       rotate_left
                       ·
                        intro w'
                        go_simp
                        with_reducible rfl
                       rotate_left
                       ·
                        simp only [Act.put,List.setIfInBounds_toArray,List.set_cons_zero,List.set_cons_succ,i64_w,i32_w]
                        rfl
                       refine pure_ (i:=10) (N:=some 55) (v := ?_) (a' := ?_) spz_m11 rfl rfl (any_of HT_.out (by kernel_rfl)) (fun _ _ _ h=>h) (Or.inl ⟨by rfl, ?_⟩) ?_ ?_
                       rotate_left
                       ·
                        intro w'
                        go_simp
                        with_reducible rfl
                       rotate_left
                       ·
                        simp only [Act.put,List.setIfInBounds_toArray,List.set_cons_zero,List.set_cons_succ,i64_w,i32_w]
                        rfl
                       refine pure_ (i:=11) (N:=some 56) (v := ?_) (a' := ?_) spz_m12 rfl rfl (any_of HT_.out (by kernel_rfl)) (fun _ _ _ h=>h) (Or.inl ⟨by rfl, ?_⟩) ?_ ?_
                       rotate_left
                       ·
                        intro w'
                        go_simp
                        with_reducible rfl
                       rotate_left
                       ·
                        simp only [Act.put,List.setIfInBounds_toArray,List.set_cons_zero,List.set_cons_succ,i64_w,i32_w]
                        rfl
                       refine pure_ (i:=13) (N:=some 58) (v := ?_) (a' := ?_) spz_m13 rfl rfl (any_of HT_.out (by kernel_rfl)) (fun _ _ _ h=>h) (Or.inl ⟨by rfl, ?_⟩) ?_ ?_
                       rotate_left
                       ·
                        intro w'
                        go_simp
                        with_reducible rfl
                       rotate_left
                       ·
                        simp only [Act.put,List.setIfInBounds_toArray,List.set_cons_zero,List.set_cons_succ,i64_w,i32_w]
                        rfl
                       refine take_ (i:=12) (N:=some 57) (v := ?_) (a' := ?_) spz_m14 rfl rfl (take_ofW HT_.out HW_.out (by kernel_rfl)) (fun _ _ _ h=>h) (Or.inl ⟨by rfl, ?_⟩) hHeld ?_ ?_
                       rotate_left
                       ·
                        rintro w' ⟨s0,s1,s2,s3,s4,s5,s6,s7,s8,s9⟩
                        go_simp
                        with_reducible rfl
                       rotate_left
                       ·
                        simp only [Act.put,List.setIfInBounds_toArray,List.set_cons_zero,List.set_cons_succ,i64_w,i32_w]
                        rfl
                       refine pure_ (i:=14) (N:=some 59) (v := ?_) (a' := ?_) spz_m15 rfl rfl (any_of HT_.out (by kernel_rfl)) (fun _ _ _ h=>h) (Or.inl ⟨by rfl, ?_⟩) ?_ ?_
                       rotate_left
                       ·
                        intro w'
                        go_simp
                        with_reducible rfl
                       rotate_left
                       ·
                        simp only [Act.put,List.setIfInBounds_toArray,List.set_cons_zero,List.set_cons_succ,i64_w,i32_w]
                        rfl
                       refine take_ (i:=15) (N:=some 60) (v := ?_) (a' := ?_) spz_m16 rfl rfl (take_ofW HT_.out HW_.out (by kernel_rfl)) (fun _ _ _ h=>h) (Or.inl ⟨by rfl, ?_⟩) hHeld ?_ ?_
                       rotate_left
                       ·
                        rintro w' ⟨s0,s1,s2,s3,s4,s5,s6,s7,s8,s9⟩
                        go_simp
                        with_reducible rfl
                       rotate_left
                       ·
                        simp only [Act.put,List.setIfInBounds_toArray,List.set_cons_zero,List.set_cons_succ,i64_w,i32_w]
                        rfl
                       refine pure_ (i:=16) (N:=some 61) (v := ?_) (a' := ?_) spz_m17 rfl rfl (any_of HT_.out (by kernel_rfl)) (fun _ _ _ h=>h) (Or.inl ⟨by rfl, ?_⟩) ?_ ?_
                       rotate_left
                       ·
                        intro w'
                        go_simp
                        with_reducible rfl
                       rotate_left
                       ·
                        simp only [Act.put,List.setIfInBounds_toArray,List.set_cons_zero,List.set_cons_succ,i64_w,i32_w]
                        rfl
                       refine pure_ (i:=17) (N:=some 62) (v := ?_) (a' := ?_) spz_m18 rfl rfl (any_of HT_.out (by kernel_rfl)) (fun _ _ _ h=>h) (Or.inl ⟨by rfl, ?_⟩) ?_ ?_
                       rotate_left
                       ·
                        intro w'
                        go_simp
                        with_reducible rfl
                       rotate_left
                       ·
                        simp only [Act.put,List.setIfInBounds_toArray,List.set_cons_zero,List.set_cons_succ,i64_w,i32_w]
                        rfl
                       refine pure_ (i:=18) (N:=some 63) (v := ?_) (a' := ?_) spz_m19 rfl rfl (any_of HT_.out (by kernel_rfl)) (fun _ _ _ h=>h) (Or.inl ⟨by rfl, ?_⟩) ?_ ?_
                       rotate_left
                       ·
                        intro w'
                        go_simp
                        with_reducible rfl
                       rotate_left
                       ·
                        simp only [Act.put,List.setIfInBounds_toArray,List.set_cons_zero,List.set_cons_succ,i64_w,i32_w]
                        rfl
                       refine pure_ (i:=19) (N:=some 64) (v := ?_) (a' := ?_) spz_m20 rfl rfl (any_of HT_.out (by kernel_rfl)) (fun _ _ _ h=>h) (Or.inl ⟨by rfl, ?_⟩) ?_ ?_
                       rotate_left
                       ·
                        intro w'
                        go_simp
                        with_reducible rfl
                       rotate_left
                       ·
                        simp only [Act.put,List.setIfInBounds_toArray,List.set_cons_zero,List.set_cons_succ,i64_w,i32_w]
                        rfl
                       refine pure_ (i:=20) (N:=some 65) (v := ?_) (a' := ?_) spz_m21 rfl rfl (any_of HT_.out (by kernel_rfl)) (fun _ _ _ h=>h) (Or.inl ⟨by rfl, ?_⟩) ?_ ?_
                       rotate_left
                       ·
                        intro w'
                        go_simp
                        with_reducible rfl
                       rotate_left
                       ·
                        simp only [Act.put,List.setIfInBounds_toArray,List.set_cons_zero,List.set_cons_succ,i64_w,i32_w]
                        rfl
                       refine pure_ (i:=21) (N:=some 66) (v := ?_) (a' := ?_) spz_m22 rfl rfl (any_of HT_.out (by kernel_rfl)) (fun _ _ _ h=>h) (Or.inl ⟨by rfl, ?_⟩) ?_ ?_
                       rotate_left
                       ·
                        intro w'
                        go_simp
                        with_reducible rfl
                       rotate_left
                       ·
                        simp only [Act.put,List.setIfInBounds_toArray,List.set_cons_zero,List.set_cons_succ,i64_w,i32_w]
                        rfl
                       refine pure_ (i:=23) (N:=some 68) (v := ?_) (a' := ?_) spz_m23 rfl rfl (any_of HT_.out (by kernel_rfl)) (fun _ _ _ h=>h) (Or.inl ⟨by rfl, ?_⟩) ?_ ?_
                       rotate_left
                       ·
                        intro w'
                        go_simp
                        with_reducible rfl
                       rotate_left
                       ·
                        simp only [Act.put,List.setIfInBounds_toArray,List.set_cons_zero,List.set_cons_succ,i64_w,i32_w]
                        rfl
                       refine take_ (i:=22) (N:=some 67) (v := ?_) (a' := ?_) spz_m24 rfl rfl (take_ofW HT_.out HW_.out (by kernel_rfl)) (fun _ _ _ h=>h) (Or.inl ⟨by rfl, ?_⟩) hHeld ?_ ?_
                       rotate_left
                       ·
                        rintro w' ⟨s0,s1,s2,s3,s4,s5,s6,s7,s8,s9⟩
                        go_simp
                        with_reducible rfl
                       rotate_left
                       ·
                        simp only [Act.put,List.setIfInBounds_toArray,List.set_cons_zero,List.set_cons_succ,i64_w,i32_w]
                        rfl
                       refine pure_ (i:=24) (N:=some 69) (v := ?_) (a' := ?_) spz_m25 rfl rfl (any_of HT_.out (by kernel_rfl)) (fun _ _ _ h=>h) (Or.inl ⟨by rfl, ?_⟩) ?_ ?_
                       rotate_left
                       ·
                        intro w'
                        go_simp
                        with_reducible rfl
                       rotate_left
                       ·
                        simp only [Act.put,List.setIfInBounds_toArray,List.set_cons_zero,List.set_cons_succ,i64_w,i32_w]
                        rfl
                       refine take_ (i:=25) (N:=some 70) (v := ?_) (a' := ?_) spz_m26 rfl rfl (take_ofW HT_.out HW_.out (by kernel_rfl)) (fun _ _ _ h=>h) (Or.inl ⟨by rfl, ?_⟩) hHeld ?_ ?_
                       rotate_left
                       ·
                        rintro w' ⟨s0,s1,s2,s3,s4,s5,s6,s7,s8,s9⟩
                        go_simp
                        with_reducible rfl
                       rotate_left
                       ·
                        simp only [Act.put,List.setIfInBounds_toArray,List.set_cons_zero,List.set_cons_succ,i64_w,i32_w]
                        rfl
                       refine pure_ (i:=26) (N:=some 71) (v := ?_) (a' := ?_) spz_m27 rfl rfl (any_of HT_.out (by kernel_rfl)) (fun _ _ _ h=>h) (Or.inl ⟨by rfl, ?_⟩) ?_ ?_
                       rotate_left
                       ·
                        intro w'
                        go_simp
                        with_reducible rfl
                       rotate_left
                       ·
                        simp only [Act.put,List.setIfInBounds_toArray,List.set_cons_zero,List.set_cons_succ,i64_w,i32_w]
                        rfl
                       refine pure_ (i:=27) (N:=some 72) (v := ?_) (a' := ?_) spz_m28 rfl rfl (any_of HT_.out (by kernel_rfl)) (fun _ _ _ h=>h) (Or.inl ⟨by rfl, ?_⟩) ?_ ?_
                       rotate_left
                       ·
                        intro w'
                        go_simp
                        with_reducible rfl
                       rotate_left
                       ·
                        simp only [Act.put,List.setIfInBounds_toArray,List.set_cons_zero,List.set_cons_succ,i64_w,i32_w]
                        rfl
                       refine pure_ (i:=28) (N:=some 73) (v := ?_) (a' := ?_) spz_m29 rfl rfl (any_of HT_.out (by kernel_rfl)) (fun _ _ _ h=>h) (Or.inl ⟨by rfl, ?_⟩) ?_ ?_
                       rotate_left
                       ·
                        intro w'
                        go_simp
                        with_reducible rfl
                       rotate_left
                       ·
                        simp only [Act.put,List.setIfInBounds_toArray,List.set_cons_zero,List.set_cons_succ,i64_w,i32_w]
                        rfl
                       refine pure_ (i:=29) (N:=some 74) (v := ?_) (a' := ?_) spz_m30 rfl rfl (any_of HT_.out (by kernel_rfl)) (fun _ _ _ h=>h) (Or.inl ⟨by rfl, ?_⟩) ?_ ?_
                       rotate_left
                       ·
                        intro w'
                        go_simp
                        with_reducible rfl
                       rotate_left
                       ·
                        simp only [Act.put,List.setIfInBounds_toArray,List.set_cons_zero,List.set_cons_succ,i64_w,i32_w]
                        rfl
                       refine pure_ (i:=30) (N:=some 75) (v := ?_) (a' := ?_) spz_m31 rfl rfl (any_of HT_.out (by kernel_rfl)) (fun _ _ _ h=>h) (Or.inl ⟨by rfl, ?_⟩) ?_ ?_
                       rotate_left
                       ·
                        intro w'
                        go_simp
                        with_reducible rfl
                       rotate_left
                       ·
                        simp only [Act.put,List.setIfInBounds_toArray,List.set_cons_zero,List.set_cons_succ,i64_w,i32_w]
                        rfl
                       refine pure_ (i:=32) (N:=some 77) (v := ?_) (a' := ?_) spz_m32 rfl rfl (any_of HT_.out (by kernel_rfl)) (fun _ _ _ h=>h) (Or.inl ⟨by rfl, ?_⟩) ?_ ?_
                       rotate_left
                       ·
                        intro w'
                        go_simp
                        with_reducible rfl
                       rotate_left
                       ·
                        simp only [Act.put,List.setIfInBounds_toArray,List.set_cons_zero,List.set_cons_succ,i64_w,i32_w]
                        rfl
                       refine take_ (i:=31) (N:=some 76) (v := ?_) (a' := ?_) spz_m33 rfl rfl (take_ofW HT_.out HW_.out (by kernel_rfl)) (fun _ _ _ h=>h) (Or.inl ⟨by rfl, ?_⟩) hHeld ?_ ?_
                       rotate_left
                       ·
                        rintro w' ⟨s0,s1,s2,s3,s4,s5,s6,s7,s8,s9⟩
                        go_simp
                        with_reducible rfl
                       rotate_left
                       ·
                        simp only [Act.put,List.setIfInBounds_toArray,List.set_cons_zero,List.set_cons_succ,i64_w,i32_w]
                        rfl
                       refine pure_ (i:=33) (N:=some 78) (v := ?_) (a' := ?_) spz_m34 rfl rfl (any_of HT_.out (by kernel_rfl)) (fun _ _ _ h=>h) (Or.inl ⟨by rfl, ?_⟩) ?_ ?_
                       rotate_left
                       ·
                        intro w'
                        go_simp
                        with_reducible rfl
                       rotate_left
                       ·
                        simp only [Act.put,List.setIfInBounds_toArray,List.set_cons_zero,List.set_cons_succ,i64_w,i32_w]
                        rfl
                       refine take_ (i:=34) (N:=some 79) (v := ?_) (a' := ?_) spz_m35 rfl rfl (take_ofW HT_.out HW_.out (by kernel_rfl)) (fun _ _ _ h=>h) (Or.inl ⟨by rfl, ?_⟩) hHeld ?_ ?_
                       rotate_left
                       ·
                        rintro w' ⟨s0,s1,s2,s3,s4,s5,s6,s7,s8,s9⟩
                        go_simp
                        with_reducible rfl
                       rotate_left
                       ·
                        simp only [Act.put,List.setIfInBounds_toArray,List.set_cons_zero,List.set_cons_succ,i64_w,i32_w]
                        rfl
                       refine pure_ (i:=35) (N:=some 80) (v := ?_) (a' := ?_) spz_m36 rfl rfl (any_of HT_.out (by kernel_rfl)) (fun _ _ _ h=>h) (Or.inl ⟨by rfl, ?_⟩) ?_ ?_
                       rotate_left
                       ·
                        intro w'
                        go_simp
                        with_reducible rfl
                       rotate_left
                       ·
                        simp only [Act.put,List.setIfInBounds_toArray,List.set_cons_zero,List.set_cons_succ,i64_w,i32_w]
                        rfl
                       refine pure_ (i:=36) (N:=some 81) (v := ?_) (a' := ?_) spz_m37 rfl rfl (any_of HT_.out (by kernel_rfl)) (fun _ _ _ h=>h) (Or.inl ⟨by rfl, ?_⟩) ?_ ?_
                       rotate_left
                       ·
                        intro w'
                        go_simp
                        with_reducible rfl
                       rotate_left
                       ·
                        simp only [Act.put,List.setIfInBounds_toArray,List.set_cons_zero,List.set_cons_succ,i64_w,i32_w]
                        rfl
                       refine pure_ (i:=37) (N:=some 82) (v := ?_) (a' := ?_) spz_m38 rfl rfl (any_of HT_.out (by kernel_rfl)) (fun _ _ _ h=>h) (Or.inl ⟨by rfl, ?_⟩) ?_ ?_
                       rotate_left
                       ·
                        intro w'
                        go_simp
                        with_reducible rfl
                       rotate_left
                       ·
                        simp only [Act.put,List.setIfInBounds_toArray,List.set_cons_zero,List.set_cons_succ,i64_w,i32_w]
                        rfl
                       refine pure_ (i:=38) (N:=some 83) (v := ?_) (a' := ?_) spz_m39 rfl rfl (any_of HT_.out (by kernel_rfl)) (fun _ _ _ h=>h) (Or.inl ⟨by rfl, ?_⟩) ?_ ?_
                       rotate_left
                       ·
                        intro w'
                        go_simp
                        with_reducible rfl
                       rotate_left
                       ·
                        simp only [Act.put,List.setIfInBounds_toArray,List.set_cons_zero,List.set_cons_succ,i64_w,i32_w]
                        rfl
                       refine pure_ (i:=39) (N:=some 84) (v := ?_) (a' := ?_) spz_m40 rfl rfl (any_of HT_.out (by kernel_rfl)) (fun _ _ _ h=>h) (Or.inl ⟨by rfl, ?_⟩) ?_ ?_
                       rotate_left
                       ·
                        intro w'
                        go_simp
                        with_reducible rfl
                       rotate_left
                       ·
                        simp only [Act.put,List.setIfInBounds_toArray,List.set_cons_zero,List.set_cons_succ,i64_w,i32_w]
                        rfl
                       refine one_ (i:=40) (N:=some 85) spz_m41 rfl rfl (one_of HT_.out (by kernel_rfl)) (by decide) (fun K hK => ?_)
                       refine goes_ Try.func20 (by kernel_rfl) rfl #[.int .i64 x10_2] (by rfl) rfl rfl (by (try simp only [List.map_toArray,List.map_cons,List.map_nil]);first|done|rfl|(simp only [List.length_drop,List.length_take];rfl)) ?_
                       with_reducible refine (psalteryref10_Width.calls k2 x10_2 t304 _ A26.out).mono ?_
                       rintro e w' ⟨rfl,⟨nd,rfl⟩⟩
                       refine ⟨_,rfl, ?_⟩
                       refine hK.out _ _ ⟨hHeld.1,hHeld.2.1,hHeld.2.2.1,hHeld.2.2.2.1,((HB.out.cell (zb w _ hw300_0)).trans hw300_0),((HB.out.cell (zb w _ hw301_0)).trans hw301_0),hHeld.2.2.2.2.2.2.1,hHeld.2.2.2.2.2.2.2.1,((HB.out.cell (zb w _ hw311_0)).trans hw311_0),hHeld.2.2.2.2.2.2.2.2.2⟩ (fun hHeld => ?_)
                       clear hK K
                       refine norm_ (a' := ?_) ?_ ?_
                       rotate_left
                       ·
                        show Act.put _ (some 85) _=_
                        simp only [Act.put,List.setIfInBounds_toArray,List.set_cons_zero,List.set_cons_succ,i64_w,i32_w]
                        rfl
                       refine pure_ (i:=41) (N:=some 86) (v := ?_) (a' := ?_) spz_m42 rfl rfl (any_of HT_.out (by kernel_rfl)) (fun _ _ _ h=>h) (Or.inl ⟨by rfl, ?_⟩) ?_ ?_
                       rotate_left
                       ·
                        intro w'
                        go_simp
                        with_reducible rfl
                       rotate_left
                       ·
                        simp only [Act.put,List.setIfInBounds_toArray,List.set_cons_zero,List.set_cons_succ,i64_w,i32_w]
                        rfl
                       refine pure_ (i:=42) (N:=some 87) (v := ?_) (a' := ?_) spz_m43 rfl rfl (any_of HT_.out (by kernel_rfl)) (fun _ _ _ h=>h) (Or.inl ⟨by rfl, ?_⟩) ?_ ?_
                       rotate_left
                       ·
                        intro w'
                        go_simp
                        with_reducible rfl
                       rotate_left
                       ·
                        simp only [Act.put,List.setIfInBounds_toArray,List.set_cons_zero,List.set_cons_succ,i64_w,i32_w]
                        rfl
                       refine pure_ (i:=43) (N:=some 88) (v:=undef) (a' := ?_) spz_m44 rfl rfl (any_of HT_.out (by kernel_rfl)) (fun _ _ _ h=>h) (Or.inr ⟨by rfl,rfl⟩) ?_ ?_
                       rotate_left
                       ·
                        simp only [Act.put,List.setIfInBounds_toArray,List.set_cons_zero,List.set_cons_succ,i64_w,i32_w]
                        rfl
                       refine pure_ (i:=44) (N:=some 89) (v:=undef) (a' := ?_) spz_m45 rfl rfl (any_of HT_.out (by kernel_rfl)) (fun _ _ _ h=>h) (Or.inr ⟨by rfl,rfl⟩) ?_ ?_
                       rotate_left
                       ·
                        simp only [Act.put,List.setIfInBounds_toArray,List.set_cons_zero,List.set_cons_succ,i64_w,i32_w]
                        rfl
                       refine pure_ (i:=45) (N:=some 90) (v:=undef) (a' := ?_) spz_m46 rfl rfl (any_of HT_.out (by kernel_rfl)) (fun _ _ _ h=>h) (Or.inr ⟨by rfl,rfl⟩) ?_ ?_
                       rotate_left
                       ·
                        simp only [Act.put,List.setIfInBounds_toArray,List.set_cons_zero,List.set_cons_succ,i64_w,i32_w]
                        rfl
                       refine pure_ (i:=46) (N:=some 91) (v:=undef) (a' := ?_) spz_m69 rfl rfl (any_of HT_.out (by kernel_rfl)) (fun _ _ _ h=>h) (Or.inr ⟨by rfl,rfl⟩) ?_ ?_
                       rotate_left
                       ·
                        simp only [Act.put,List.setIfInBounds_toArray,List.set_cons_zero,List.set_cons_succ,i64_w,i32_w]
                        rfl
                       refine pure_ (i:=47) (N:=some 92) (v:=undef) (a' := ?_) spz_m48 rfl rfl (any_of HT_.out (by kernel_rfl)) (fun _ _ _ h=>h) (Or.inr ⟨by rfl,rfl⟩) ?_ ?_
                       rotate_left
                       ·
                        simp only [Act.put,List.setIfInBounds_toArray,List.set_cons_zero,List.set_cons_succ,i64_w,i32_w]
                        rfl
                       refine pure_ (i:=48) (N:=some 93) (v:=undef) (a' := ?_) spz_m49 rfl rfl (any_of HT_.out (by kernel_rfl)) (fun _ _ _ h=>h) (Or.inr ⟨by rfl,rfl⟩) ?_ ?_
                       rotate_left
                       ·
                        simp only [Act.put,List.setIfInBounds_toArray,List.set_cons_zero,List.set_cons_succ,i64_w,i32_w]
                        rfl
                       refine pure_ (i:=49) (N:=some 94) (v:=undef) (a' := ?_) spz_m50 rfl rfl (any_of HT_.out (by kernel_rfl)) (fun _ _ _ h=>h) (Or.inr ⟨by rfl,rfl⟩) ?_ ?_
                       rotate_left
                       ·
                        simp only [Act.put,List.setIfInBounds_toArray,List.set_cons_zero,List.set_cons_succ,i64_w,i32_w]
                        rfl
                       refine pure_ (i:=50) (N:=some 95) (v:=undef) (a' := ?_) spz_m51 rfl rfl (any_of HT_.out (by kernel_rfl)) (fun _ _ _ h=>h) (Or.inr ⟨by rfl,rfl⟩) ?_ ?_
                       rotate_left
                       ·
                        simp only [Act.put,List.setIfInBounds_toArray,List.set_cons_zero,List.set_cons_succ,i64_w,i32_w]
                        rfl
                       refine pure_ (i:=51) (N:=some 96) (v := ?_) (a' := ?_) spz_m52 rfl rfl (any_of HT_.out (by kernel_rfl)) (fun _ _ _ h=>h) (Or.inl ⟨by rfl, ?_⟩) ?_ ?_
                       rotate_left
                       ·
                        intro w'
                        go_simp
                        with_reducible rfl
                       rotate_left
                       ·
                        simp only [Act.put,List.setIfInBounds_toArray,List.set_cons_zero,List.set_cons_succ,i64_w,i32_w]
                        rfl
                       refine pure_ (i:=52) (N:=some 97) (v := ?_) (a' := ?_) spz_m53 rfl rfl (any_of HT_.out (by kernel_rfl)) (fun _ _ _ h=>h) (Or.inl ⟨by rfl, ?_⟩) ?_ ?_
                       rotate_left
                       ·
                        intro w'
                        go_simp
                        with_reducible rfl
                       rotate_left
                       ·
                        simp only [Act.put,List.setIfInBounds_toArray,List.set_cons_zero,List.set_cons_succ,i64_w,i32_w]
                        rfl
                       refine pure_ (i:=53) (N:=some 98) (v := ?_) (a' := ?_) spz_m54 rfl rfl (any_of HT_.out (by kernel_rfl)) (fun _ _ _ h=>h) (Or.inl ⟨by rfl, ?_⟩) ?_ ?_
                       rotate_left
                       ·
                        intro w'
                        go_simp
                        with_reducible rfl
                       rotate_left
                       ·
                        simp only [Act.put,List.setIfInBounds_toArray,List.set_cons_zero,List.set_cons_succ,i64_w,i32_w]
                        rfl
                       refine pure_ (i:=54) (N:=some 99) (v := ?_) (a' := ?_) spz_m55 rfl rfl (any_of HT_.out (by kernel_rfl)) (fun _ _ _ h=>h) (Or.inl ⟨by rfl, ?_⟩) ?_ ?_
                       rotate_left
                       ·
                        intro w'
                        go_simp
                        with_reducible rfl
                       rotate_left
                       ·
                        simp only [Act.put,List.setIfInBounds_toArray,List.set_cons_zero,List.set_cons_succ,i64_w,i32_w]
                        rfl
                       refine pure_ (i:=55) (N:=some 100) (v := ?_) (a' := ?_) spz_m56 rfl rfl (any_of HT_.out (by kernel_rfl)) (fun _ _ _ h=>h) (Or.inl ⟨by rfl, ?_⟩) ?_ ?_
                       rotate_left
                       ·
                        intro w'
                        go_simp
                        with_reducible rfl
                       rotate_left
                       ·
                        simp only [Act.put,List.setIfInBounds_toArray,List.set_cons_zero,List.set_cons_succ,i64_w,i32_w]
                        rfl
                       refine pure_ (i:=56) (N:=some 101) (v := ?_) (a' := ?_) spz_m57 rfl rfl (any_of HT_.out (by kernel_rfl)) (fun _ _ _ h=>h) (Or.inl ⟨by rfl, ?_⟩) ?_ ?_
                       rotate_left
                       ·
                        intro w'
                        go_simp
                        with_reducible rfl
                       rotate_left
                       ·
                        simp only [Act.put,List.setIfInBounds_toArray,List.set_cons_zero,List.set_cons_succ,i64_w,i32_w]
                        rfl
                       refine pure_ (i:=58) (N:=some 103) (v := ?_) (a' := ?_) spz_m58 rfl rfl (any_of HT_.out (by kernel_rfl)) (fun _ _ _ h=>h) (Or.inl ⟨by rfl, ?_⟩) ?_ ?_
                       rotate_left
                       ·
                        intro w'
                        go_simp
                        with_reducible rfl
                       rotate_left
                       ·
                        simp only [Act.put,List.setIfInBounds_toArray,List.set_cons_zero,List.set_cons_succ,i64_w,i32_w]
                        rfl
                       refine pure_ (i:=59) (N:=some 104) (v := ?_) (a' := ?_) spz_m59 rfl rfl (any_of HT_.out (by kernel_rfl)) (fun _ _ _ h=>h) (Or.inl ⟨by rfl, ?_⟩) ?_ ?_
                       rotate_left
                       ·
                        intro w'
                        go_simp
                        with_reducible rfl
                       rotate_left
                       ·
                        simp only [Act.put,List.setIfInBounds_toArray,List.set_cons_zero,List.set_cons_succ,i64_w,i32_w]
                        rfl
                       refine pure_ (i:=60) (N:=some 105) (v := ?_) (a' := ?_) spz_m60 rfl rfl (any_of HT_.out (by kernel_rfl)) (fun _ _ _ h=>h) (Or.inl ⟨by rfl, ?_⟩) ?_ ?_
                       rotate_left
                       ·
                        intro w'
                        go_simp
                        with_reducible rfl
                       rotate_left
                       ·
                        simp only [Act.put,List.setIfInBounds_toArray,List.set_cons_zero,List.set_cons_succ,i64_w,i32_w]
                        rfl
                       refine pure_ (i:=62) (N:=some 107) (v := ?_) (a' := ?_) spz_m61 rfl rfl (any_of HT_.out (by kernel_rfl)) (fun _ _ _ h=>h) (Or.inl ⟨by rfl, ?_⟩) ?_ ?_
                       rotate_left
                       ·
                        intro w'
                        go_simp
                        with_reducible rfl
                       rotate_left
                       ·
                        simp only [Act.put,List.setIfInBounds_toArray,List.set_cons_zero,List.set_cons_succ,i64_w,i32_w]
                        rfl
                       refine pure_ (i:=63) (N:=some 108) (v := ?_) (a' := ?_) spz_m62 rfl rfl (any_of HT_.out (by kernel_rfl)) (fun _ _ _ h=>h) (Or.inl ⟨by rfl, ?_⟩) ?_ ?_
                       rotate_left
                       ·
                        intro w'
                        go_simp
                        with_reducible rfl
                       rotate_left
                       ·
                        simp only [Act.put,List.setIfInBounds_toArray,List.set_cons_zero,List.set_cons_succ,i64_w,i32_w]
                        rfl
                       refine pure_ (i:=64) (N:=some 109) (v := ?_) (a' := ?_) spz_m63 rfl rfl (any_of HT_.out (by kernel_rfl)) (fun _ _ _ h=>h) (Or.inl ⟨by rfl, ?_⟩) ?_ ?_
                       rotate_left
                       ·
                        intro w'
                        go_simp
                        with_reducible rfl
                       rotate_left
                       ·
                        simp only [Act.put,List.setIfInBounds_toArray,List.set_cons_zero,List.set_cons_succ,i64_w,i32_w]
                        rfl
                       refine take_ (i:=57) (N:=some 102) (v := ?_) (a' := ?_) spz_m64 rfl rfl (take_ofW HT_.out HW_.out (by kernel_rfl)) (fun _ _ _ h=>h) (Or.inl ⟨by rfl, ?_⟩) hHeld ?_ ?_
                       rotate_left
                       ·
                        rintro w' ⟨s0,s1,s2,s3,s4,s5,s6,s7,s8,s9⟩
                        go_simp
                        with_reducible rfl
                       rotate_left
                       ·
                        simp only [Act.put,List.setIfInBounds_toArray,List.set_cons_zero,List.set_cons_succ,i64_w,i32_w]
                        rfl
                       refine take_ (i:=61) (N:=some 106) (v := ?_) (a' := ?_) spz_m65 rfl rfl (take_ofW HT_.out HW_.out (by kernel_rfl)) (fun _ _ _ h=>h) (Or.inl ⟨by rfl, ?_⟩) hHeld ?_ ?_
                       rotate_left
                       ·
                        rintro w' ⟨s0,s1,s2,s3,s4,s5,s6,s7,s8,s9⟩
                        go_simp
                        with_reducible rfl
                       rotate_left
                       ·
                        simp only [Act.put,List.setIfInBounds_toArray,List.set_cons_zero,List.set_cons_succ,i64_w,i32_w]
                        rfl
                       refine one_ (i:=65) (N:=some 110) spz_m66 rfl rfl (one_of HT_.out (by kernel_rfl)) (by decide) (fun K hK => ?_)
                       refine goes_ Try.func11 (by kernel_rfl) rfl #[.int .i64 a0, .int .i64 a1] (by rfl) rfl rfl (by (try simp only [List.map_toArray,List.map_cons,List.map_nil]);first|done|rfl|(simp only [List.length_drop,List.length_take];rfl)) ?_
                       with_reducible refine (alloc_Room.calls a0 a1 t313 _ A34.out).mono ?_
                       rintro e w' ⟨rfl,⟨nd,rfl⟩⟩
                       refine ⟨_,rfl, ?_⟩
                       refine hK.out _ _ ⟨hHeld.1,hHeld.2.1,hHeld.2.2.1,hHeld.2.2.2.1,((HB.out.cell (zb w _ hw300_0)).trans hw300_0),((HB.out.cell (zb w _ hw301_0)).trans hw301_0),hHeld.2.2.2.2.2.2.1,hHeld.2.2.2.2.2.2.2.1,((HB.out.cell (zb w _ hw311_0)).trans hw311_0),hHeld.2.2.2.2.2.2.2.2.2⟩ (fun hHeld => ?_)
                       clear hK K
                       refine norm_ (a' := ?_) ?_ ?_
                       rotate_left
                       ·
                        show Act.put _ (some 110) _=_
                        simp only [Act.put,List.setIfInBounds_toArray,List.set_cons_zero,List.set_cons_succ,i64_w,i32_w]
                        rfl
                       refine one_ (i:=66) (N:=some 111) spz_m67 rfl rfl (one_of HT_.out (by kernel_rfl)) (by decide) (fun K hK => ?_)
                       refine goes_ Try.func21 (by kernel_rfl) rfl #[.slice (some ad301) (rd_L1 l2 x9_1).length c300_0, .slice (some ad297) (rd_L1 t289 x9_1).length c296_0, .int .i64 x10_2, .int .i64 t313] (by rfl) rfl rfl (by (try simp only [List.map_toArray,List.map_cons,List.map_nil]);first|done|rfl|(simp only [List.length_drop,List.length_take];rfl)) ?_
                       with_reducible refine (psalteryref12_May.calls k2 _ _ (rd_L1 l2 x9_1) _ _ (rd_L1 t289 x9_1) x10_2 t313 false _ ?side1 ?side2 ?side3 ?side4 A35.out).mono ?_
                       (case side1=>repeat (first|exact (Kd.C_below HR311_0.out (by repeat (first|(with_reducible first|exact HB.out|apply ze|apply zd|apply zf)|exact HB.out)))|(with_reducible refine Kd.C_alloc ?_ _)|(with_reducible refine Kd.C_drewN ?_ _)|(with_reducible refine Kd.C_drew ?_)))
                       (case side2=>exact HC311_0.out)
                       (case side3=>repeat (first|exact (by repeat (first|(with_reducible exact HR312_0.out)|(with_reducible refine Kd.C_alloc ?_ _)|(with_reducible refine Kd.C_drewN ?_ _)|(with_reducible refine Kd.C_drew ?_)|exact HR312_0.out))|(with_reducible refine Kd.C_alloc ?_ _)|(with_reducible refine Kd.C_drewN ?_ _)|(with_reducible refine Kd.C_drew ?_)))
                       (case side4=>exact HC312_0.out)
                       rintro e w38 ⟨rfl,hb⟩
                       have HS0_:=(hb.cell (zb _ _ (hHeld.1))).trans (hHeld.1)
                       have HS1_:=(hb.cell (zb _ _ (hHeld.2.1))).trans (hHeld.2.1)
                       have HS2_:=(hb.cell (zb _ _ (hHeld.2.2.1))).trans (hHeld.2.2.1)
                       have HS3_:=(hb.cell (zb _ _ (hHeld.2.2.2.1))).trans (hHeld.2.2.2.1)
                       have HS6_:=(hb.cell (zb _ _ (hHeld.2.2.2.2.2.2.1))).trans (hHeld.2.2.2.2.2.2.1)
                       have HS7_:=(hb.cell (zb _ _ (hHeld.2.2.2.2.2.2.2.1))).trans (hHeld.2.2.2.2.2.2.2.1)
                       have HS9_:=(hb.cell (zb _ _ (hHeld.2.2.2.2.2.2.2.2.2))).trans (hHeld.2.2.2.2.2.2.2.2.2)
                       refine ⟨_,rfl, ?_⟩
                       have n0_:=zm (Kd.S_below (by (with_reducible repeat (first|apply Kd.S_alloc|apply Kd.S_drewN|apply Kd.S_drew));exact HO_7.out) hb)
                       have n1_:=zm (Kd.R_below (by (with_reducible repeat (first|apply zo|apply zp|apply zq));exact HL296_0.out) hb)
                       have n2_:=zm (Kd.R_below (by (with_reducible repeat (first|apply zo|apply zp|apply zq));exact HL298_0.out) hb)
                       have n3_:=zm (Kd.R_below (by (with_reducible repeat (first|apply zo|apply zp|apply zq));exact HL302_0.out) hb)
                       have n4_:=zm (Kd.R_below (by (with_reducible repeat (first|apply zo|apply zp|apply zq));exact HL312_0.out) hb)
                       have n5_:=zm (Kd.C_below (Kd.C_drewN (Kd.C_drewN HR295_0.out _) _) hb)
                       have n6_:=zm (Kd.C_below (Kd.C_drewN (Kd.C_drewN HR296_0.out _) _) hb)
                       have n7_:=zm (Kd.C_below (Kd.C_drewN (Kd.C_drewN HR298_0.out _) _) hb)
                       have n8_:=zm (Kd.C_below (Kd.C_drewN (Kd.C_drewN HR302_0.out _) _) hb)
                       have n9_:=zm (Kd.C_below (Kd.C_drewN (Kd.C_drewN HR312_0.out _) _) hb)
                       have n10_:=zm (zJ (by repeat (first|(with_reducible first|exact HB.out|apply ze|apply zd|apply zf)|exact HB.out)) hb)
                       clear HO_7;clear HL296_0;clear HL298_0;clear HL302_0;clear HL312_0;clear HR295_0;clear HR296_0;clear HR298_0;clear HR302_0;clear HR312_0;clear HB;have HO_7:=n0_;have HL296_0:=n1_;have HL298_0:=n2_;have HL302_0:=n3_;have HL312_0:=n4_;have HR295_0:=n5_;have HR296_0:=n6_;have HR298_0:=n7_;have HR302_0:=n8_;have HR312_0:=n9_;have HB:=n10_;clear n0_ n1_ n2_ n3_ n4_ n5_ n6_ n7_ n8_ n9_ n10_
                       (try clear hb)
                       (try clear hb2)
                       (try clear hk)
                       (try clear hi)
                       refine hK.out _ _ ⟨HS0_,HS1_,HS2_,HS3_,((HB.out.cell (zb w _ hw300_0)).trans hw300_0),((HB.out.cell (zb w _ hw301_0)).trans hw301_0),HS6_,HS7_,((HB.out.cell (zb w _ hw311_0)).trans hw311_0),HS9_⟩ (fun hHeld => ?_)
                       clear hK K
                       refine norm_ (a' := ?_) ?_ ?_
                       rotate_left
                       ·
                        show Act.put _ (some 111) _=_
                        simp only [Act.put,List.setIfInBounds_toArray,List.set_cons_zero,List.set_cons_succ,i64_w,i32_w]
                        rfl
                       refine pure_ (i:=67) (N:=some 112) (v := ?_) (a' := ?_) spz_m68 rfl rfl (any_of HT_.out (by kernel_rfl)) (fun _ _ _ h=>h) (Or.inl ⟨by rfl, ?_⟩) ?_ ?_
                       rotate_left
                       ·
                        intro w'
                        go_simp
                        with_reducible rfl
                       rotate_left
                       ·
                        simp only [Act.put,List.setIfInBounds_toArray,List.set_cons_zero,List.set_cons_succ,i64_w,i32_w]
                        rfl
                       refine done_ (done_of HT_.out (by kernel_rfl)) ?_
                       try go_wp2
                       go_roundg k2
                       case measure=>have:=HK1.out;have:=HK2.out;omega
                       case rel=>exact ⟨(wrap64 (x10_2+1)),(by first|rfl|(simp;done)|(simp [*];done)),H',⟨by have:=HK1.out;have:=HK2.out;omega⟩,⟨by (with_reducible repeat (first|apply Kd.S_alloc|apply Kd.S_drewN|apply Kd.S_drew));exact HO_7.out⟩,⟨by repeat (first|(with_reducible exact HR295_0.out)|(with_reducible refine Kd.C_alloc ?_ _)|(with_reducible refine Kd.C_drewN ?_ _)|(with_reducible refine Kd.C_drew ?_)|exact HR295_0.out)⟩,⟨by repeat (first|(with_reducible first|exact HB.out|apply ze|apply zd|apply zf)|exact HB.out)⟩⟩
                    ·
                     rw [if_neg c25] at H
                     have c25b0 : ((rd (rd_L1 t289 x9_1) x10_2) == 0)=false:=beq_eq_false_iff_ne.mpr c25
                     have c25b1 : ((rd (rd_L1 t289 x9_1) x10_2) != 0)=true:=bne_iff_ne.mpr c25
                     exact absurd H (by simp)
                   ·
                    rw [if_neg c24] at H
                    have c24b0 : ((rd (rd_L1 l2 x9_1) x10_2) == 0)=false:=beq_eq_false_iff_ne.mpr c24
                    have c24b1 : ((rd (rd_L1 l2 x9_1) x10_2) != 0)=true:=bne_iff_ne.mpr c24
                    replace H:=Option.bind_eq_some_iff.mp H
                    obtain ⟨t315,A390,H⟩:=H
                    replace H : (if t315=1 then (if (rd (rd_L1 t289 x9_1) x10_2) > 1 then (none) else ((alloc_Room.f a0 a1).bind fun t320=>((psalteryref12_May.f k2 (rd_L1 l2 x9_1) (rd_L1 t289 x9_1) x10_2 t320).bind fun t321=>(if t321=true then (none) else (psalterylaw12_AllocSpends.l1 k2 a0 a1 l2 t289 x9_1 (wrap64 (x10_2+1))))))) else ((alloc_Room.f a0 a1).bind fun t324=>((psalteryref12_May.f k2 (rd_L1 l2 x9_1) (rd_L1 t289 x9_1) x10_2 t324).bind fun t325=>(if t325=true then (none) else (psalterylaw12_AllocSpends.l1 k2 a0 a1 l2 t289 x9_1 (wrap64 (x10_2+1)))))))=some r:=H
                    have A39:=zm A390;clear A390
                    by_cases c40 : t315=1
                    ·
                     rw [if_pos c40] at H
                     have c40b0 : (t315 == 1)=true:=beq_iff_eq.mpr c40
                     have c40b1 : (t315 != 1)=false:=bne_eq_false_iff_eq.mpr c40
                     clear c40
                     by_cases c41 : (rd (rd_L1 t289 x9_1) x10_2) > 1
                     ·
                      rw [if_pos c41] at H
                      have c41b0 : decide (1 < (rd (rd_L1 t289 x9_1) x10_2))=true:=decide_eq_true c41
                      clear c41
                      exact absurd H (by simp)
                     ·
                      rw [if_neg c41] at H
                      have c41b0 : decide (1 < (rd (rd_L1 t289 x9_1) x10_2))=false:=decide_eq_false c41
                      clear c41
                      replace H:=Option.bind_eq_some_iff.mp H
                      obtain ⟨t320,A420,H⟩:=H
                      replace H : ((psalteryref12_May.f k2 (rd_L1 l2 x9_1) (rd_L1 t289 x9_1) x10_2 t320).bind fun t321=>(if t321=true then (none) else (psalterylaw12_AllocSpends.l1 k2 a0 a1 l2 t289 x9_1 (wrap64 (x10_2+1)))))=some r:=H
                      have A42:=zm A420;clear A420
                      replace H:=Option.bind_eq_some_iff.mp H
                      obtain ⟨t321,A430,H⟩:=H
                      replace H : (if t321=true then (none) else (psalterylaw12_AllocSpends.l1 k2 a0 a1 l2 t289 x9_1 (wrap64 (x10_2+1))))=some r:=H
                      have A43:=zm A430;clear A430
                      by_cases c44 : t321=true
                      ·
                       subst c44
                       have H1 : (none)=some r:=by rw [if_pos rfl] at H;exact H
                       clear H;have H:=H1;clear H1
                       exact absurd H (by simp)
                      ·
                       replace c44:=Bool.eq_false_iff.mpr c44
                       subst c44
                       have H1 : (psalterylaw12_AllocSpends.l1 k2 a0 a1 l2 t289 x9_1 (wrap64 (x10_2+1)))=some r:=by rw [if_neg (show ¬ (false=true) by decide)] at H;exact H
                       clear H;have H:=H1;clear H1
                       have H' := zm H
                       clear H
                       try go_wp2
                       have n0_:=zm (Kd.S_drew HO_7.out);have n1_:=zm (Kd.C_drew HR295_0.out);have n2_:=zm (zf HB.out);clear HO_7;clear HR295_0;clear HB;have HO_7:=n0_;have HR295_0:=n1_;have HB:=n2_;clear n0_ n1_ n2_
                       have p296 : 0≤(x9_1 : Int):=of_decide_eq_true (by first|(with_reducible assumption)|assumption)
                       have q296 : x9_1 < (t289.length : Int):=of_decide_eq_true (by first|(with_reducible assumption)|assumption)
                       obtain ⟨ad296,A296_0,c296_0,e296,hx296_0,hl296_0,hi296_0⟩:=at_L1 (Kd.S_reads' HO_7.out).2.2 x9_1 p296 q296
                       obtain rfl : ad295=ad296:=(by injection e296)
                       obtain ⟨ce296,hce296,hMe296,hcc296⟩:=Kd.S_get HO_7.out [] x9_1 p296 (by first|exact q296|exact of_decide_eq_true (by first|(with_reducible assumption)|assumption)|(have e_:=(Kd.S_reads' HO_7.out).1;omega))
                       obtain ⟨ve296_0,rfl,ge296_0⟩:=hMe296
                       have hv296_0:=hcc296 0 _ rfl
                       rw [Nat.add_zero,show ((Kd.slice 3 (Kd.int .i64))).sz=1 from rfl,Nat.mul_one] at hv296_0
                       replace hv296_0:=Option.some.inj (hv296_0.symm.trans hx296_0)
                       rw [hv296_0] at ge296_0
                       have HL296_0:=zm (show Kd.R (Kd.int .i64) 3 _ _ _ _ (rd_L1 t289 x9_1) from ge296_0)
                       clear hv296_0 ge296_0;clear hcc296 hce296;have HR296_0:=zm hi296_0;have HC296_0:=zm hl296_0;clear hi296_0 hl296_0
                       replace p296:=eq_true p296
                       replace q296:=eq_true q296
                       have p297 : 0≤(x10_2 : Int):=of_decide_eq_true (by first|(with_reducible assumption)|assumption)
                       have q297 : x10_2 < ((rd_L1 t289 x9_1).length : Int):=of_decide_eq_true (by first|(with_reducible assumption)|assumption)
                       obtain ⟨ad297,e297,hx297_0⟩:=Kd.at_int (by repeat (first|(with_reducible exact HR296_0.out)|(with_reducible refine Kd.C_alloc ?_ _)|(with_reducible refine Kd.C_drewN ?_ _)|(with_reducible refine Kd.C_drew ?_)|exact HR296_0.out)) x10_2 p297 q297
                       cases e297
                       replace p297:=eq_true p297
                       replace q297:=eq_true q297
                       have p298 : 0≤(x9_1 : Int):=of_decide_eq_true (by first|(with_reducible assumption)|assumption)
                       have q298 : x9_1 < (t289.length : Int):=of_decide_eq_true (by first|(with_reducible assumption)|assumption)
                       obtain ⟨ad298,A298_0,c298_0,e298,hx298_0,hl298_0,hi298_0⟩:=at_L1 (Kd.S_reads' HO_7.out).2.2 x9_1 p298 q298
                       obtain rfl : ad295=ad298:=(by injection e298)
                       obtain ⟨ce298,hce298,hMe298,hcc298⟩:=Kd.S_get HO_7.out [] x9_1 p298 (by first|exact q298|exact of_decide_eq_true (by first|(with_reducible assumption)|assumption)|(have e_:=(Kd.S_reads' HO_7.out).1;omega))
                       obtain ⟨ve298_0,rfl,ge298_0⟩:=hMe298
                       have hv298_0:=hcc298 0 _ rfl
                       rw [Nat.add_zero,show ((Kd.slice 3 (Kd.int .i64))).sz=1 from rfl,Nat.mul_one] at hv298_0
                       replace hv298_0:=Option.some.inj (hv298_0.symm.trans hx298_0)
                       rw [hv298_0] at ge298_0
                       have HL298_0:=zm (show Kd.R (Kd.int .i64) 3 _ _ _ _ (rd_L1 t289 x9_1) from ge298_0)
                       clear hv298_0 ge298_0;clear hcc298 hce298;have HR298_0:=zm hi298_0;have HC298_0:=zm hl298_0;clear hi298_0 hl298_0
                       replace p298:=eq_true p298
                       replace q298:=eq_true q298
                       have ea_:=Option.some.inj (hx296_0.symm.trans hx298_0)
                       injection ea_ with ea_ en_ ec_
                       subst ea_;subst ec_;clear en_
                       have p299 : 0≤(x10_2 : Int):=of_decide_eq_true (by first|(with_reducible assumption)|assumption)
                       have q299 : x10_2 < ((rd_L1 t289 x9_1).length : Int):=of_decide_eq_true (by first|(with_reducible assumption)|assumption)
                       obtain ⟨ad299,e299,hx299_0⟩:=Kd.at_int (by repeat (first|(with_reducible exact HR298_0.out)|(with_reducible refine Kd.C_alloc ?_ _)|(with_reducible refine Kd.C_drewN ?_ _)|(with_reducible refine Kd.C_drew ?_)|exact HR298_0.out)) x10_2 p299 q299
                       cases e299
                       replace p299:=eq_true p299
                       replace q299:=eq_true q299
                       have p300 : 0≤(x9_1 : Int):=of_decide_eq_true (by first|(with_reducible assumption)|assumption)
                       have q300 : x9_1 < (l2.length : Int):=of_decide_eq_true (by first|(with_reducible assumption)|assumption)
                       obtain ⟨ad300,A300_0,c300_0,e300,hx300_0,hl300_0,hi300_0⟩:=at_L1 HR2.out x9_1 p300 q300
                       have hw300_0:=hx300_0
                       cases e300
                       replace hx300_0:=(HB.out.cell (zb w _ hx300_0)).trans hx300_0
                       have HR300_0:=zm hi300_0;have HC300_0:=zm hl300_0;clear hi300_0 hl300_0
                       replace p300:=eq_true p300
                       replace q300:=eq_true q300
                       have p301 : 0≤(x10_2 : Int):=of_decide_eq_true (by first|(with_reducible assumption)|assumption)
                       have q301 : x10_2 < ((rd_L1 l2 x9_1).length : Int):=of_decide_eq_true (by first|(with_reducible assumption)|assumption)
                       obtain ⟨ad301,e301,hx301_0⟩:=Kd.at_int HR300_0.out x10_2 p301 q301
                       have hw301_0:=hx301_0
                       cases e301
                       replace hx301_0:=(HB.out.cell (zb w _ hx301_0)).trans hx301_0
                       replace p301:=eq_true p301
                       replace q301:=eq_true q301
                       have p316 : 0≤(x9_1 : Int):=of_decide_eq_true (by first|(with_reducible assumption)|assumption)
                       have q316 : x9_1 < (t289.length : Int):=of_decide_eq_true (by first|(with_reducible assumption)|assumption)
                       obtain ⟨ad316,A316_0,c316_0,e316,hx316_0,hl316_0,hi316_0⟩:=at_L1 (Kd.S_reads' HO_7.out).2.2 x9_1 p316 q316
                       obtain rfl : ad295=ad316:=(by injection e316)
                       obtain ⟨ce316,hce316,hMe316,hcc316⟩:=Kd.S_get HO_7.out [] x9_1 p316 (by first|exact q316|exact of_decide_eq_true (by first|(with_reducible assumption)|assumption)|(have e_:=(Kd.S_reads' HO_7.out).1;omega))
                       obtain ⟨ve316_0,rfl,ge316_0⟩:=hMe316
                       have hv316_0:=hcc316 0 _ rfl
                       rw [Nat.add_zero,show ((Kd.slice 3 (Kd.int .i64))).sz=1 from rfl,Nat.mul_one] at hv316_0
                       replace hv316_0:=Option.some.inj (hv316_0.symm.trans hx316_0)
                       rw [hv316_0] at ge316_0
                       have HL316_0:=zm (show Kd.R (Kd.int .i64) 3 _ _ _ _ (rd_L1 t289 x9_1) from ge316_0)
                       clear hv316_0 ge316_0;clear hcc316 hce316;have HR316_0:=zm hi316_0;have HC316_0:=zm hl316_0;clear hi316_0 hl316_0
                       replace p316:=eq_true p316
                       replace q316:=eq_true q316
                       have ea_:=Option.some.inj (hx296_0.symm.trans hx316_0)
                       injection ea_ with ea_ en_ ec_
                       subst ea_;subst ec_;clear en_
                       have p318 : 0≤(x9_1 : Int):=of_decide_eq_true (by first|(with_reducible assumption)|assumption)
                       have q318 : x9_1 < (l2.length : Int):=of_decide_eq_true (by first|(with_reducible assumption)|assumption)
                       obtain ⟨ad318,A318_0,c318_0,e318,hx318_0,hl318_0,hi318_0⟩:=at_L1 HR2.out x9_1 p318 q318
                       have hw318_0:=hx318_0
                       obtain rfl : ad300=ad318:=(by injection e318)
                       replace hx318_0:=(HB.out.cell (zb w _ hx318_0)).trans hx318_0
                       have HR318_0:=zm hi318_0;have HC318_0:=zm hl318_0;clear hi318_0 hl318_0
                       replace p318:=eq_true p318
                       replace q318:=eq_true q318
                       have ea_:=Option.some.inj (hx300_0.symm.trans hx318_0)
                       injection ea_ with ea_ en_ ec_
                       subst ea_;subst ec_;clear en_
                       have p319 : 0≤(x9_1 : Int):=of_decide_eq_true (by first|(with_reducible assumption)|assumption)
                       have q319 : x9_1 < (t289.length : Int):=of_decide_eq_true (by first|(with_reducible assumption)|assumption)
                       obtain ⟨ad319,A319_0,c319_0,e319,hx319_0,hl319_0,hi319_0⟩:=at_L1 (Kd.S_reads' HO_7.out).2.2 x9_1 p319 q319
                       obtain rfl : ad295=ad319:=(by injection e319)
                       obtain ⟨ce319,hce319,hMe319,hcc319⟩:=Kd.S_get HO_7.out [] x9_1 p319 (by first|exact q319|exact of_decide_eq_true (by first|(with_reducible assumption)|assumption)|(have e_:=(Kd.S_reads' HO_7.out).1;omega))
                       obtain ⟨ve319_0,rfl,ge319_0⟩:=hMe319
                       have hv319_0:=hcc319 0 _ rfl
                       rw [Nat.add_zero,show ((Kd.slice 3 (Kd.int .i64))).sz=1 from rfl,Nat.mul_one] at hv319_0
                       replace hv319_0:=Option.some.inj (hv319_0.symm.trans hx319_0)
                       rw [hv319_0] at ge319_0
                       have HL319_0:=zm (show Kd.R (Kd.int .i64) 3 _ _ _ _ (rd_L1 t289 x9_1) from ge319_0)
                       clear hv319_0 ge319_0;clear hcc319 hce319;have HR319_0:=zm hi319_0;have HC319_0:=zm hl319_0;clear hi319_0 hl319_0
                       replace p319:=eq_true p319
                       replace q319:=eq_true q319
                       have ea_:=Option.some.inj (hx296_0.symm.trans hx319_0)
                       injection ea_ with ea_ en_ ec_
                       subst ea_;subst ec_;clear en_
                       refine start_ (n:=68) (S:=fun w' => w'.cell? (ad295.add (x9_1).toNat)=some (.slice (some ad297) (rd_L1 t289 x9_1).length c296_0)∧w'.cell? (ad297.add (x10_2).toNat)=some (.int .i64 (rd (rd_L1 t289 x9_1) x10_2))∧w'.cell? (ad295.add (x9_1).toNat)=some (.slice (some ad297) (rd_L1 t289 x9_1).length c296_0)∧w'.cell? (ad297.add (x10_2).toNat)=some (.int .i64 (rd (rd_L1 t289 x9_1) x10_2))∧w'.cell? (ad300.add (x9_1).toNat)=some (.slice (some ad301) (rd_L1 l2 x9_1).length c300_0)∧w'.cell? (ad301.add (x10_2).toNat)=some (.int .i64 (rd (rd_L1 l2 x9_1) x10_2))∧w'.cell? (ad295.add (x9_1).toNat)=some (.slice (some ad297) (rd_L1 t289 x9_1).length c296_0)∧w'.cell? (ad297.add (x10_2).toNat)=some (.int .i64 (rd (rd_L1 t289 x9_1) x10_2))∧w'.cell? (ad300.add (x9_1).toNat)=some (.slice (some ad301) (rd_L1 l2 x9_1).length c300_0)∧w'.cell? (ad295.add (x9_1).toNat)=some (.slice (some ad297) (rd_L1 t289 x9_1).length c296_0)) (ds := []) spz_m0 (by kernel_rfl) rfl rfl ⟨hx296_0,hx297_0,hx298_0,hx299_0,((HB.out.cell (zb w _ hw300_0)).trans hw300_0),((HB.out.cell (zb w _ hw301_0)).trans hw301_0),hx316_0,hx297_0,((HB.out.cell (zb w _ hw318_0)).trans hw318_0),hx319_0⟩ (fun hHeld => ?_);refine with_tabW psalterylaw12_AllocSpends.tab14 psalterylaw12_AllocSpends.bits14 (fun HT_ HW_ => ?_)
                       generalize wr.drew=w45 at HO_7 HR295_0 HB HL296_0 HL298_0 HL316_0 HL319_0 HR296_0 HR298_0 HR300_0 HR316_0 HR318_0 HR319_0 hx296_0 hx297_0 hx298_0 hx299_0 hx300_0 hx301_0 hx316_0 hx318_0 hx319_0 hHeld ⊢
                       refine pure_ (i:=0) (N:=some 45) (v := ?_) (a' := ?_) spz_m1 rfl rfl (any_of HT_.out (by kernel_rfl)) (fun _ _ _ h=>h) (Or.inl ⟨by rfl, ?_⟩) ?_ ?_
                       rotate_left
                       ·
                        intro w'
                        go_simp
                        with_reducible rfl
                       rotate_left
                       ·
                        simp only [Act.put,List.setIfInBounds_toArray,List.set_cons_zero,List.set_cons_succ,i64_w,i32_w]
                        rfl
                       refine pure_ (i:=1) (N:=some 46) (v := ?_) (a' := ?_) spz_m2 rfl rfl (any_of HT_.out (by kernel_rfl)) (fun _ _ _ h=>h) (Or.inl ⟨by rfl, ?_⟩) ?_ ?_
                       rotate_left
                       ·
                        intro w'
                        go_simp
                        with_reducible rfl
                       rotate_left
                       ·
                        simp only [Act.put,List.setIfInBounds_toArray,List.set_cons_zero,List.set_cons_succ,i64_w,i32_w]
                        rfl
                       refine pure_ (i:=2) (N:=some 47) (v := ?_) (a' := ?_) spz_m3 rfl rfl (any_of HT_.out (by kernel_rfl)) (fun _ _ _ h=>h) (Or.inl ⟨by rfl, ?_⟩) ?_ ?_
                       rotate_left
                       ·
                        intro w'
                        go_simp
                        with_reducible rfl
                       rotate_left
                       ·
                        simp only [Act.put,List.setIfInBounds_toArray,List.set_cons_zero,List.set_cons_succ,i64_w,i32_w]
                        rfl
                       refine pure_ (i:=4) (N:=some 49) (v := ?_) (a' := ?_) spz_m4 rfl rfl (any_of HT_.out (by kernel_rfl)) (fun _ _ _ h=>h) (Or.inl ⟨by rfl, ?_⟩) ?_ ?_
                       rotate_left
                       ·
                        intro w'
                        go_simp
                        with_reducible rfl
                       rotate_left
                       ·
                        simp only [Act.put,List.setIfInBounds_toArray,List.set_cons_zero,List.set_cons_succ,i64_w,i32_w]
                        rfl
                       refine take_ (i:=3) (N:=some 48) (v := ?_) (a' := ?_) spz_m5 rfl rfl (take_ofW HT_.out HW_.out (by kernel_rfl)) (fun _ _ _ h=>h) (Or.inl ⟨by rfl, ?_⟩) hHeld ?_ ?_
                       rotate_left
                       ·
                        rintro w' ⟨s0,s1,s2,s3,s4,s5,s6,s7,s8,s9⟩
                        go_simp
                        with_reducible rfl
                       rotate_left
                       ·
                        simp only [Act.put,List.setIfInBounds_toArray,List.set_cons_zero,List.set_cons_succ,i64_w,i32_w]
                        rfl
                       refine pure_ (i:=5) (N:=some 50) (v := ?_) (a' := ?_) spz_m6 rfl rfl (any_of HT_.out (by kernel_rfl)) (fun _ _ _ h=>h) (Or.inl ⟨by rfl, ?_⟩) ?_ ?_
                       rotate_left
                       ·
                        intro w'
                        go_simp
                        with_reducible rfl
                       rotate_left
                       ·
                        simp only [Act.put,List.setIfInBounds_toArray,List.set_cons_zero,List.set_cons_succ,i64_w,i32_w]
                        rfl
                       refine take_ (i:=6) (N:=some 51) (v := ?_) (a' := ?_) spz_m7 rfl rfl (take_ofW HT_.out HW_.out (by kernel_rfl)) (fun _ _ _ h=>h) (Or.inl ⟨by rfl, ?_⟩) hHeld ?_ ?_
                       rotate_left
                       ·
                        rintro w' ⟨s0,s1,s2,s3,s4,s5,s6,s7,s8,s9⟩
                        go_simp
                        with_reducible rfl
                       rotate_left
                       ·
                        simp only [Act.put,List.setIfInBounds_toArray,List.set_cons_zero,List.set_cons_succ,i64_w,i32_w]
                        rfl
                       refine pure_ (i:=7) (N:=some 52) (v := ?_) (a' := ?_) spz_m8 rfl rfl (any_of HT_.out (by kernel_rfl)) (fun _ _ _ h=>h) (Or.inl ⟨by rfl, ?_⟩) ?_ ?_
                       rotate_left
                       ·
                        intro w'
                        go_simp
                        with_reducible rfl
                       rotate_left
                       ·
                        simp only [Act.put,List.setIfInBounds_toArray,List.set_cons_zero,List.set_cons_succ,i64_w,i32_w]
                        rfl
                       refine pure_ (i:=8) (N:=some 53) (v := ?_) (a' := ?_) spz_m9 rfl rfl (any_of HT_.out (by kernel_rfl)) (fun _ _ _ h=>h) (Or.inl ⟨by rfl, ?_⟩) ?_ ?_
                       rotate_left
                       ·
                        intro w'
                        go_simp
                        with_reducible rfl
                       rotate_left
                       ·
                        simp only [Act.put,List.setIfInBounds_toArray,List.set_cons_zero,List.set_cons_succ,i64_w,i32_w]
                        rfl
                       refine pure_ (i:=9) (N:=some 54) (v := ?_) (a' := ?_) spz_m10 rfl rfl (any_of HT_.out (by kernel_rfl)) (fun _ _ _ h=>h) (Or.inl ⟨by rfl, ?_⟩) ?_ ?_
                       rotate_left
                       ·
                        intro w'
                        go_simp
                        with_reducible rfl
                       rotate_left
                       ·
                        simp only [Act.put,List.setIfInBounds_toArray,List.set_cons_zero,List.set_cons_succ,i64_w,i32_w]
                        rfl
                       refine pure_ (i:=10) (N:=some 55) (v := ?_) (a' := ?_) spz_m11 rfl rfl (any_of HT_.out (by kernel_rfl)) (fun _ _ _ h=>h) (Or.inl ⟨by rfl, ?_⟩) ?_ ?_
                       rotate_left
                       ·
                        intro w'
                        go_simp
                        with_reducible rfl
                       rotate_left
                       ·
                        simp only [Act.put,List.setIfInBounds_toArray,List.set_cons_zero,List.set_cons_succ,i64_w,i32_w]
                        rfl
                       refine pure_ (i:=11) (N:=some 56) (v := ?_) (a' := ?_) spz_m12 rfl rfl (any_of HT_.out (by kernel_rfl)) (fun _ _ _ h=>h) (Or.inl ⟨by rfl, ?_⟩) ?_ ?_
                       rotate_left
                       ·
                        intro w'
                        go_simp
                        with_reducible rfl
                       rotate_left
                       ·
                        simp only [Act.put,List.setIfInBounds_toArray,List.set_cons_zero,List.set_cons_succ,i64_w,i32_w]
                        rfl
                       refine pure_ (i:=13) (N:=some 58) (v := ?_) (a' := ?_) spz_m13 rfl rfl (any_of HT_.out (by kernel_rfl)) (fun _ _ _ h=>h) (Or.inl ⟨by rfl, ?_⟩) ?_ ?_
                       rotate_left
                       ·
                        intro w'
                        go_simp
                        with_reducible rfl
                       rotate_left
                       ·
                        simp only [Act.put,List.setIfInBounds_toArray,List.set_cons_zero,List.set_cons_succ,i64_w,i32_w]
                        rfl
                       refine take_ (i:=12) (N:=some 57) (v := ?_) (a' := ?_) spz_m14 rfl rfl (take_ofW HT_.out HW_.out (by kernel_rfl)) (fun _ _ _ h=>h) (Or.inl ⟨by rfl, ?_⟩) hHeld ?_ ?_
                       rotate_left
                       ·
                        rintro w' ⟨s0,s1,s2,s3,s4,s5,s6,s7,s8,s9⟩
                        go_simp
                        with_reducible rfl
                       rotate_left
                       ·
                        simp only [Act.put,List.setIfInBounds_toArray,List.set_cons_zero,List.set_cons_succ,i64_w,i32_w]
                        rfl
                       refine pure_ (i:=14) (N:=some 59) (v := ?_) (a' := ?_) spz_m15 rfl rfl (any_of HT_.out (by kernel_rfl)) (fun _ _ _ h=>h) (Or.inl ⟨by rfl, ?_⟩) ?_ ?_
                       rotate_left
                       ·
                        intro w'
                        go_simp
                        with_reducible rfl
                       rotate_left
                       ·
                        simp only [Act.put,List.setIfInBounds_toArray,List.set_cons_zero,List.set_cons_succ,i64_w,i32_w]
                        rfl
                       refine take_ (i:=15) (N:=some 60) (v := ?_) (a' := ?_) spz_m16 rfl rfl (take_ofW HT_.out HW_.out (by kernel_rfl)) (fun _ _ _ h=>h) (Or.inl ⟨by rfl, ?_⟩) hHeld ?_ ?_
                       rotate_left
                       ·
                        rintro w' ⟨s0,s1,s2,s3,s4,s5,s6,s7,s8,s9⟩
                        go_simp
                        with_reducible rfl
                       rotate_left
                       ·
                        simp only [Act.put,List.setIfInBounds_toArray,List.set_cons_zero,List.set_cons_succ,i64_w,i32_w]
                        rfl
                       refine pure_ (i:=16) (N:=some 61) (v := ?_) (a' := ?_) spz_m17 rfl rfl (any_of HT_.out (by kernel_rfl)) (fun _ _ _ h=>h) (Or.inl ⟨by rfl, ?_⟩) ?_ ?_
                       rotate_left
                       ·
                        intro w'
                        go_simp
                        with_reducible rfl
                       rotate_left
                       ·
                        simp only [Act.put,List.setIfInBounds_toArray,List.set_cons_zero,List.set_cons_succ,i64_w,i32_w]
                        rfl
                       refine pure_ (i:=17) (N:=some 62) (v := ?_) (a' := ?_) spz_m18 rfl rfl (any_of HT_.out (by kernel_rfl)) (fun _ _ _ h=>h) (Or.inl ⟨by rfl, ?_⟩) ?_ ?_
                       rotate_left
                       ·
                        intro w'
                        go_simp
                        with_reducible rfl
                       rotate_left
                       ·
                        simp only [Act.put,List.setIfInBounds_toArray,List.set_cons_zero,List.set_cons_succ,i64_w,i32_w]
                        rfl
                       refine pure_ (i:=18) (N:=some 63) (v := ?_) (a' := ?_) spz_m19 rfl rfl (any_of HT_.out (by kernel_rfl)) (fun _ _ _ h=>h) (Or.inl ⟨by rfl, ?_⟩) ?_ ?_
                       rotate_left
                       ·
                        intro w'
                        go_simp
                        with_reducible rfl
                       rotate_left
                       ·
                        simp only [Act.put,List.setIfInBounds_toArray,List.set_cons_zero,List.set_cons_succ,i64_w,i32_w]
                        rfl
                       refine pure_ (i:=19) (N:=some 64) (v := ?_) (a' := ?_) spz_m20 rfl rfl (any_of HT_.out (by kernel_rfl)) (fun _ _ _ h=>h) (Or.inl ⟨by rfl, ?_⟩) ?_ ?_
                       rotate_left
                       ·
                        intro w'
                        go_simp
                        with_reducible rfl
                       rotate_left
                       ·
                        simp only [Act.put,List.setIfInBounds_toArray,List.set_cons_zero,List.set_cons_succ,i64_w,i32_w]
                        rfl
                       refine pure_ (i:=20) (N:=some 65) (v := ?_) (a' := ?_) spz_m21 rfl rfl (any_of HT_.out (by kernel_rfl)) (fun _ _ _ h=>h) (Or.inl ⟨by rfl, ?_⟩) ?_ ?_
                       rotate_left
                       ·
                        intro w'
                        go_simp
                        with_reducible rfl
                       rotate_left
                       ·
                        simp only [Act.put,List.setIfInBounds_toArray,List.set_cons_zero,List.set_cons_succ,i64_w,i32_w]
                        rfl
                       refine pure_ (i:=21) (N:=some 66) (v := ?_) (a' := ?_) spz_m22 rfl rfl (any_of HT_.out (by kernel_rfl)) (fun _ _ _ h=>h) (Or.inl ⟨by rfl, ?_⟩) ?_ ?_
                       rotate_left
                       ·
                        intro w'
                        go_simp
                        with_reducible rfl
                       rotate_left
                       ·
                        simp only [Act.put,List.setIfInBounds_toArray,List.set_cons_zero,List.set_cons_succ,i64_w,i32_w]
                        rfl
                       refine pure_ (i:=23) (N:=some 68) (v := ?_) (a' := ?_) spz_m23 rfl rfl (any_of HT_.out (by kernel_rfl)) (fun _ _ _ h=>h) (Or.inl ⟨by rfl, ?_⟩) ?_ ?_
                       rotate_left
                       ·
                        intro w'
                        go_simp
                        with_reducible rfl
                       rotate_left
                       ·
                        simp only [Act.put,List.setIfInBounds_toArray,List.set_cons_zero,List.set_cons_succ,i64_w,i32_w]
                        rfl
                       refine take_ (i:=22) (N:=some 67) (v := ?_) (a' := ?_) spz_m24 rfl rfl (take_ofW HT_.out HW_.out (by kernel_rfl)) (fun _ _ _ h=>h) (Or.inl ⟨by rfl, ?_⟩) hHeld ?_ ?_
                       rotate_left
                       ·
                        rintro w' ⟨s0,s1,s2,s3,s4,s5,s6,s7,s8,s9⟩
                        go_simp
                        with_reducible rfl
                       rotate_left
                       ·
                        simp only [Act.put,List.setIfInBounds_toArray,List.set_cons_zero,List.set_cons_succ,i64_w,i32_w]
                        rfl
                       refine pure_ (i:=24) (N:=some 69) (v := ?_) (a' := ?_) spz_m25 rfl rfl (any_of HT_.out (by kernel_rfl)) (fun _ _ _ h=>h) (Or.inl ⟨by rfl, ?_⟩) ?_ ?_
                       rotate_left
                       ·
                        intro w'
                        go_simp
                        with_reducible rfl
                       rotate_left
                       ·
                        simp only [Act.put,List.setIfInBounds_toArray,List.set_cons_zero,List.set_cons_succ,i64_w,i32_w]
                        rfl
                       refine take_ (i:=25) (N:=some 70) (v := ?_) (a' := ?_) spz_m26 rfl rfl (take_ofW HT_.out HW_.out (by kernel_rfl)) (fun _ _ _ h=>h) (Or.inl ⟨by rfl, ?_⟩) hHeld ?_ ?_
                       rotate_left
                       ·
                        rintro w' ⟨s0,s1,s2,s3,s4,s5,s6,s7,s8,s9⟩
                        go_simp
                        with_reducible rfl
                       rotate_left
                       ·
                        simp only [Act.put,List.setIfInBounds_toArray,List.set_cons_zero,List.set_cons_succ,i64_w,i32_w]
                        rfl
                       refine pure_ (i:=26) (N:=some 71) (v := ?_) (a' := ?_) spz_m27 rfl rfl (any_of HT_.out (by kernel_rfl)) (fun _ _ _ h=>h) (Or.inl ⟨by rfl, ?_⟩) ?_ ?_
                       rotate_left
                       ·
                        intro w'
                        go_simp
                        with_reducible rfl
                       rotate_left
                       ·
                        simp only [Act.put,List.setIfInBounds_toArray,List.set_cons_zero,List.set_cons_succ,i64_w,i32_w]
                        rfl
                       refine pure_ (i:=27) (N:=some 72) (v := ?_) (a' := ?_) spz_m28 rfl rfl (any_of HT_.out (by kernel_rfl)) (fun _ _ _ h=>h) (Or.inl ⟨by rfl, ?_⟩) ?_ ?_
                       rotate_left
                       ·
                        intro w'
                        go_simp
                        with_reducible rfl
                       rotate_left
                       ·
                        simp only [Act.put,List.setIfInBounds_toArray,List.set_cons_zero,List.set_cons_succ,i64_w,i32_w]
                        rfl
                       refine pure_ (i:=28) (N:=some 73) (v:=undef) (a' := ?_) spz_m29 rfl rfl (any_of HT_.out (by kernel_rfl)) (fun _ _ _ h=>h) (Or.inr ⟨by rfl,rfl⟩) ?_ ?_
                       rotate_left
                       ·
                        simp only [Act.put,List.setIfInBounds_toArray,List.set_cons_zero,List.set_cons_succ,i64_w,i32_w]
                        rfl
                       refine pure_ (i:=29) (N:=some 74) (v:=undef) (a' := ?_) spz_m30 rfl rfl (any_of HT_.out (by kernel_rfl)) (fun _ _ _ h=>h) (Or.inr ⟨by rfl,rfl⟩) ?_ ?_
                       rotate_left
                       ·
                        simp only [Act.put,List.setIfInBounds_toArray,List.set_cons_zero,List.set_cons_succ,i64_w,i32_w]
                        rfl
                       refine pure_ (i:=30) (N:=some 75) (v:=undef) (a' := ?_) spz_m31 rfl rfl (any_of HT_.out (by kernel_rfl)) (fun _ _ _ h=>h) (Or.inr ⟨by rfl,rfl⟩) ?_ ?_
                       rotate_left
                       ·
                        simp only [Act.put,List.setIfInBounds_toArray,List.set_cons_zero,List.set_cons_succ,i64_w,i32_w]
                        rfl
                       refine pure_ (i:=31) (N:=some 76) (v:=undef) (a' := ?_) spz_m70 rfl rfl (any_of HT_.out (by kernel_rfl)) (fun _ _ _ h=>h) (Or.inr ⟨by rfl,rfl⟩) ?_ ?_
                       rotate_left
                       ·
                        simp only [Act.put,List.setIfInBounds_toArray,List.set_cons_zero,List.set_cons_succ,i64_w,i32_w]
                        rfl
                       refine pure_ (i:=32) (N:=some 77) (v:=undef) (a' := ?_) spz_m33 rfl rfl (any_of HT_.out (by kernel_rfl)) (fun _ _ _ h=>h) (Or.inr ⟨by rfl,rfl⟩) ?_ ?_
                       rotate_left
                       ·
                        simp only [Act.put,List.setIfInBounds_toArray,List.set_cons_zero,List.set_cons_succ,i64_w,i32_w]
                        rfl
                       refine pure_ (i:=33) (N:=some 78) (v:=undef) (a' := ?_) spz_m34 rfl rfl (any_of HT_.out (by kernel_rfl)) (fun _ _ _ h=>h) (Or.inr ⟨by rfl,rfl⟩) ?_ ?_
                       rotate_left
                       ·
                        simp only [Act.put,List.setIfInBounds_toArray,List.set_cons_zero,List.set_cons_succ,i64_w,i32_w]
                        rfl
                       refine pure_ (i:=34) (N:=some 79) (v:=undef) (a' := ?_) spz_m35 rfl rfl (any_of HT_.out (by kernel_rfl)) (fun _ _ _ h=>h) (Or.inr ⟨by rfl,rfl⟩) ?_ ?_
                       rotate_left
                       ·
                        simp only [Act.put,List.setIfInBounds_toArray,List.set_cons_zero,List.set_cons_succ,i64_w,i32_w]
                        rfl
                       refine pure_ (i:=35) (N:=some 80) (v:=undef) (a' := ?_) spz_m36 rfl rfl (any_of HT_.out (by kernel_rfl)) (fun _ _ _ h=>h) (Or.inr ⟨by rfl,rfl⟩) ?_ ?_
                       rotate_left
                       ·
                        simp only [Act.put,List.setIfInBounds_toArray,List.set_cons_zero,List.set_cons_succ,i64_w,i32_w]
                        rfl
                       refine pure_ (i:=36) (N:=some 81) (v := ?_) (a' := ?_) spz_m37 rfl rfl (any_of HT_.out (by kernel_rfl)) (fun _ _ _ h=>h) (Or.inl ⟨by rfl, ?_⟩) ?_ ?_
                       rotate_left
                       ·
                        intro w'
                        go_simp
                        with_reducible rfl
                       rotate_left
                       ·
                        simp only [Act.put,List.setIfInBounds_toArray,List.set_cons_zero,List.set_cons_succ,i64_w,i32_w]
                        rfl
                       refine pure_ (i:=37) (N:=some 82) (v := ?_) (a' := ?_) spz_m38 rfl rfl (any_of HT_.out (by kernel_rfl)) (fun _ _ _ h=>h) (Or.inl ⟨by rfl, ?_⟩) ?_ ?_
                       rotate_left
                       ·
                        intro w'
                        go_simp
                        with_reducible rfl
                       rotate_left
                       ·
                        simp only [Act.put,List.setIfInBounds_toArray,List.set_cons_zero,List.set_cons_succ,i64_w,i32_w]
                        rfl
                       refine pure_ (i:=38) (N:=some 83) (v := ?_) (a' := ?_) spz_m39 rfl rfl (any_of HT_.out (by kernel_rfl)) (fun _ _ _ h=>h) (Or.inl ⟨by rfl, ?_⟩) ?_ ?_
                       rotate_left
                       ·
                        intro w'
                        go_simp
                        with_reducible rfl
                       rotate_left
                       ·
                        simp only [Act.put,List.setIfInBounds_toArray,List.set_cons_zero,List.set_cons_succ,i64_w,i32_w]
                        rfl
                       refine pure_ (i:=39) (N:=some 84) (v := ?_) (a' := ?_) spz_m40 rfl rfl (any_of HT_.out (by kernel_rfl)) (fun _ _ _ h=>h) (Or.inl ⟨by rfl, ?_⟩) ?_ ?_
                       rotate_left
                       ·
                        intro w'
                        go_simp
                        with_reducible rfl
                       rotate_left
                       ·
                        simp only [Act.put,List.setIfInBounds_toArray,List.set_cons_zero,List.set_cons_succ,i64_w,i32_w]
                        rfl
                       refine one_ (i:=40) (N:=some 85) spz_m41 rfl rfl (one_of HT_.out (by kernel_rfl)) (by decide) (fun K hK => ?_)
                       refine goes_ Try.func20 (by kernel_rfl) rfl #[.int .i64 x10_2] (by rfl) rfl rfl (by (try simp only [List.map_toArray,List.map_cons,List.map_nil]);first|done|rfl|(simp only [List.length_drop,List.length_take];rfl)) ?_
                       with_reducible refine (psalteryref10_Width.calls k2 x10_2 t315 _ A39.out).mono ?_
                       rintro e w' ⟨rfl,⟨nd,rfl⟩⟩
                       refine ⟨_,rfl, ?_⟩
                       have p317 : 0≤(x10_2 : Int):=of_decide_eq_true (by first|(with_reducible assumption)|assumption)
                       have q317 : x10_2 < ((rd_L1 t289 x9_1).length : Int):=of_decide_eq_true (by first|(with_reducible assumption)|assumption)
                       obtain ⟨ad317,e317,hx317_0⟩:=Kd.at_int (by repeat (first|(with_reducible exact HR316_0.out)|(with_reducible refine Kd.C_alloc ?_ _)|(with_reducible refine Kd.C_drewN ?_ _)|(with_reducible refine Kd.C_drew ?_)|exact HR316_0.out)) x10_2 p317 q317
                       cases e317
                       replace p317:=eq_true p317
                       replace q317:=eq_true q317
                       refine hK.out _ _ ⟨hHeld.1,hHeld.2.1,hHeld.2.2.1,hHeld.2.2.2.1,((HB.out.cell (zb w _ hw300_0)).trans hw300_0),((HB.out.cell (zb w _ hw301_0)).trans hw301_0),hHeld.2.2.2.2.2.2.1,hHeld.2.2.2.2.2.2.2.1,((HB.out.cell (zb w _ hw318_0)).trans hw318_0),hHeld.2.2.2.2.2.2.2.2.2⟩ (fun hHeld => ?_)
                       clear hK K
                       refine norm_ (a' := ?_) ?_ ?_
                       rotate_left
                       ·
                        show Act.put _ (some 85) _=_
                        simp only [Act.put,List.setIfInBounds_toArray,List.set_cons_zero,List.set_cons_succ,i64_w,i32_w]
                        rfl
                       refine pure_ (i:=41) (N:=some 86) (v := ?_) (a' := ?_) spz_m42 rfl rfl (any_of HT_.out (by kernel_rfl)) (fun _ _ _ h=>h) (Or.inl ⟨by rfl, ?_⟩) ?_ ?_
                       rotate_left
                       ·
                        intro w'
                        go_simp
                        with_reducible rfl
                       rotate_left
                       ·
                        simp only [Act.put,List.setIfInBounds_toArray,List.set_cons_zero,List.set_cons_succ,i64_w,i32_w]
                        rfl
                       refine pure_ (i:=42) (N:=some 87) (v := ?_) (a' := ?_) spz_m43 rfl rfl (any_of HT_.out (by kernel_rfl)) (fun _ _ _ h=>h) (Or.inl ⟨by rfl, ?_⟩) ?_ ?_
                       rotate_left
                       ·
                        intro w'
                        go_simp
                        with_reducible rfl
                       rotate_left
                       ·
                        simp only [Act.put,List.setIfInBounds_toArray,List.set_cons_zero,List.set_cons_succ,i64_w,i32_w]
                        rfl
                       refine pure_ (i:=43) (N:=some 88) (v := ?_) (a' := ?_) spz_m44 rfl rfl (any_of HT_.out (by kernel_rfl)) (fun _ _ _ h=>h) (Or.inl ⟨by rfl, ?_⟩) ?_ ?_
                       rotate_left
                       ·
                        intro w'
                        go_simp
                        with_reducible rfl
                       rotate_left
                       ·
                        simp only [Act.put,List.setIfInBounds_toArray,List.set_cons_zero,List.set_cons_succ,i64_w,i32_w]
                        rfl
                       refine pure_ (i:=44) (N:=some 89) (v := ?_) (a' := ?_) spz_m45 rfl rfl (any_of HT_.out (by kernel_rfl)) (fun _ _ _ h=>h) (Or.inl ⟨by rfl, ?_⟩) ?_ ?_
                       rotate_left
                       ·
                        intro w'
                        go_simp
                        with_reducible rfl
                       rotate_left
                       ·
                        simp only [Act.put,List.setIfInBounds_toArray,List.set_cons_zero,List.set_cons_succ,i64_w,i32_w]
                        rfl
                       refine pure_ (i:=45) (N:=some 90) (v := ?_) (a' := ?_) spz_m46 rfl rfl (any_of HT_.out (by kernel_rfl)) (fun _ _ _ h=>h) (Or.inl ⟨by rfl, ?_⟩) ?_ ?_
                       rotate_left
                       ·
                        intro w'
                        go_simp
                        with_reducible rfl
                       rotate_left
                       ·
                        simp only [Act.put,List.setIfInBounds_toArray,List.set_cons_zero,List.set_cons_succ,i64_w,i32_w]
                        rfl
                       refine pure_ (i:=47) (N:=some 92) (v := ?_) (a' := ?_) spz_m47 rfl rfl (any_of HT_.out (by kernel_rfl)) (fun _ _ _ h=>h) (Or.inl ⟨by rfl, ?_⟩) ?_ ?_
                       rotate_left
                       ·
                        intro w'
                        go_simp
                        with_reducible rfl
                       rotate_left
                       ·
                        simp only [Act.put,List.setIfInBounds_toArray,List.set_cons_zero,List.set_cons_succ,i64_w,i32_w]
                        rfl
                       refine take_ (i:=46) (N:=some 91) (v := ?_) (a' := ?_) spz_m48 rfl rfl (take_ofW HT_.out HW_.out (by kernel_rfl)) (fun _ _ _ h=>h) (Or.inl ⟨by rfl, ?_⟩) hHeld ?_ ?_
                       rotate_left
                       ·
                        rintro w' ⟨s0,s1,s2,s3,s4,s5,s6,s7,s8,s9⟩
                        go_simp
                        with_reducible rfl
                       rotate_left
                       ·
                        simp only [Act.put,List.setIfInBounds_toArray,List.set_cons_zero,List.set_cons_succ,i64_w,i32_w]
                        rfl
                       refine pure_ (i:=48) (N:=some 93) (v := ?_) (a' := ?_) spz_m49 rfl rfl (any_of HT_.out (by kernel_rfl)) (fun _ _ _ h=>h) (Or.inl ⟨by rfl, ?_⟩) ?_ ?_
                       rotate_left
                       ·
                        intro w'
                        go_simp
                        with_reducible rfl
                       rotate_left
                       ·
                        simp only [Act.put,List.setIfInBounds_toArray,List.set_cons_zero,List.set_cons_succ,i64_w,i32_w]
                        rfl
                       refine take_ (i:=49) (N:=some 94) (v := ?_) (a' := ?_) spz_m50 rfl rfl (take_ofW HT_.out HW_.out (by kernel_rfl)) (fun _ _ _ h=>h) (Or.inl ⟨by rfl, ?_⟩) hHeld ?_ ?_
                       rotate_left
                       ·
                        rintro w' ⟨s0,s1,s2,s3,s4,s5,s6,s7,s8,s9⟩
                        go_simp
                        with_reducible rfl
                       rotate_left
                       ·
                        simp only [Act.put,List.setIfInBounds_toArray,List.set_cons_zero,List.set_cons_succ,i64_w,i32_w]
                        rfl
                       refine pure_ (i:=50) (N:=some 95) (v := ?_) (a' := ?_) spz_m51 rfl rfl (any_of HT_.out (by kernel_rfl)) (fun _ _ _ h=>h) (Or.inl ⟨by rfl, ?_⟩) ?_ ?_
                       rotate_left
                       ·
                        intro w'
                        go_simp
                        with_reducible rfl
                       rotate_left
                       ·
                        simp only [Act.put,List.setIfInBounds_toArray,List.set_cons_zero,List.set_cons_succ,i64_w,i32_w]
                        rfl
                       refine pure_ (i:=51) (N:=some 96) (v := ?_) (a' := ?_) spz_m52 rfl rfl (any_of HT_.out (by kernel_rfl)) (fun _ _ _ h=>h) (Or.inl ⟨by rfl, ?_⟩) ?_ ?_
                       rotate_left
                       ·
                        intro w'
                        go_simp
                        with_reducible rfl
                       rotate_left
                       ·
                        simp only [Act.put,List.setIfInBounds_toArray,List.set_cons_zero,List.set_cons_succ,i64_w,i32_w]
                        rfl
                       refine pure_ (i:=52) (N:=some 97) (v := ?_) (a' := ?_) spz_m53 rfl rfl (any_of HT_.out (by kernel_rfl)) (fun _ _ _ h=>h) (Or.inl ⟨by rfl, ?_⟩) ?_ ?_
                       rotate_left
                       ·
                        intro w'
                        go_simp
                        with_reducible rfl
                       rotate_left
                       ·
                        simp only [Act.put,List.setIfInBounds_toArray,List.set_cons_zero,List.set_cons_succ,i64_w,i32_w]
                        rfl
                       refine pure_ (i:=53) (N:=some 98) (v := ?_) (a' := ?_) spz_m54 rfl rfl (any_of HT_.out (by kernel_rfl)) (fun _ _ _ h=>h) (Or.inl ⟨by rfl, ?_⟩) ?_ ?_
                       rotate_left
                       ·
                        intro w'
                        go_simp
                        with_reducible rfl
                       rotate_left
                       ·
                        simp only [Act.put,List.setIfInBounds_toArray,List.set_cons_zero,List.set_cons_succ,i64_w,i32_w]
                        rfl
                       refine pure_ (i:=54) (N:=some 99) (v := ?_) (a' := ?_) spz_m55 rfl rfl (any_of HT_.out (by kernel_rfl)) (fun _ _ _ h=>h) (Or.inl ⟨by rfl, ?_⟩) ?_ ?_
                       rotate_left
                       ·
                        intro w'
                        go_simp
                        with_reducible rfl
                       rotate_left
                       ·
                        simp only [Act.put,List.setIfInBounds_toArray,List.set_cons_zero,List.set_cons_succ,i64_w,i32_w]
                        rfl
                       refine pure_ (i:=55) (N:=some 100) (v := ?_) (a' := ?_) spz_m56 rfl rfl (any_of HT_.out (by kernel_rfl)) (fun _ _ _ h=>h) (Or.inl ⟨by rfl, ?_⟩) ?_ ?_
                       rotate_left
                       ·
                        intro w'
                        go_simp
                        with_reducible rfl
                       rotate_left
                       ·
                        simp only [Act.put,List.setIfInBounds_toArray,List.set_cons_zero,List.set_cons_succ,i64_w,i32_w]
                        rfl
                       refine pure_ (i:=56) (N:=some 101) (v := ?_) (a' := ?_) spz_m57 rfl rfl (any_of HT_.out (by kernel_rfl)) (fun _ _ _ h=>h) (Or.inl ⟨by rfl, ?_⟩) ?_ ?_
                       rotate_left
                       ·
                        intro w'
                        go_simp
                        with_reducible rfl
                       rotate_left
                       ·
                        simp only [Act.put,List.setIfInBounds_toArray,List.set_cons_zero,List.set_cons_succ,i64_w,i32_w]
                        rfl
                       refine pure_ (i:=58) (N:=some 103) (v := ?_) (a' := ?_) spz_m58 rfl rfl (any_of HT_.out (by kernel_rfl)) (fun _ _ _ h=>h) (Or.inl ⟨by rfl, ?_⟩) ?_ ?_
                       rotate_left
                       ·
                        intro w'
                        go_simp
                        with_reducible rfl
                       rotate_left
                       ·
                        simp only [Act.put,List.setIfInBounds_toArray,List.set_cons_zero,List.set_cons_succ,i64_w,i32_w]
                        rfl
                       refine pure_ (i:=59) (N:=some 104) (v := ?_) (a' := ?_) spz_m59 rfl rfl (any_of HT_.out (by kernel_rfl)) (fun _ _ _ h=>h) (Or.inl ⟨by rfl, ?_⟩) ?_ ?_
                       rotate_left
                       ·
                        intro w'
                        go_simp
                        with_reducible rfl
                       rotate_left
                       ·
                        simp only [Act.put,List.setIfInBounds_toArray,List.set_cons_zero,List.set_cons_succ,i64_w,i32_w]
                        rfl
                       refine pure_ (i:=60) (N:=some 105) (v := ?_) (a' := ?_) spz_m60 rfl rfl (any_of HT_.out (by kernel_rfl)) (fun _ _ _ h=>h) (Or.inl ⟨by rfl, ?_⟩) ?_ ?_
                       rotate_left
                       ·
                        intro w'
                        go_simp
                        with_reducible rfl
                       rotate_left
                       ·
                        simp only [Act.put,List.setIfInBounds_toArray,List.set_cons_zero,List.set_cons_succ,i64_w,i32_w]
                        rfl
                       refine pure_ (i:=62) (N:=some 107) (v := ?_) (a' := ?_) spz_m61 rfl rfl (any_of HT_.out (by kernel_rfl)) (fun _ _ _ h=>h) (Or.inl ⟨by rfl, ?_⟩) ?_ ?_
                       rotate_left
                       ·
                        intro w'
                        go_simp
                        with_reducible rfl
                       rotate_left
                       ·
                        simp only [Act.put,List.setIfInBounds_toArray,List.set_cons_zero,List.set_cons_succ,i64_w,i32_w]
                        rfl
                       refine pure_ (i:=63) (N:=some 108) (v := ?_) (a' := ?_) spz_m62 rfl rfl (any_of HT_.out (by kernel_rfl)) (fun _ _ _ h=>h) (Or.inl ⟨by rfl, ?_⟩) ?_ ?_
                       rotate_left
                       ·
                        intro w'
                        go_simp
                        with_reducible rfl
                       rotate_left
                       ·
                        simp only [Act.put,List.setIfInBounds_toArray,List.set_cons_zero,List.set_cons_succ,i64_w,i32_w]
                        rfl
                       refine pure_ (i:=64) (N:=some 109) (v := ?_) (a' := ?_) spz_m63 rfl rfl (any_of HT_.out (by kernel_rfl)) (fun _ _ _ h=>h) (Or.inl ⟨by rfl, ?_⟩) ?_ ?_
                       rotate_left
                       ·
                        intro w'
                        go_simp
                        with_reducible rfl
                       rotate_left
                       ·
                        simp only [Act.put,List.setIfInBounds_toArray,List.set_cons_zero,List.set_cons_succ,i64_w,i32_w]
                        rfl
                       refine take_ (i:=57) (N:=some 102) (v := ?_) (a' := ?_) spz_m64 rfl rfl (take_ofW HT_.out HW_.out (by kernel_rfl)) (fun _ _ _ h=>h) (Or.inl ⟨by rfl, ?_⟩) hHeld ?_ ?_
                       rotate_left
                       ·
                        rintro w' ⟨s0,s1,s2,s3,s4,s5,s6,s7,s8,s9⟩
                        go_simp
                        with_reducible rfl
                       rotate_left
                       ·
                        simp only [Act.put,List.setIfInBounds_toArray,List.set_cons_zero,List.set_cons_succ,i64_w,i32_w]
                        rfl
                       refine take_ (i:=61) (N:=some 106) (v := ?_) (a' := ?_) spz_m65 rfl rfl (take_ofW HT_.out HW_.out (by kernel_rfl)) (fun _ _ _ h=>h) (Or.inl ⟨by rfl, ?_⟩) hHeld ?_ ?_
                       rotate_left
                       ·
                        rintro w' ⟨s0,s1,s2,s3,s4,s5,s6,s7,s8,s9⟩
                        go_simp
                        with_reducible rfl
                       rotate_left
                       ·
                        simp only [Act.put,List.setIfInBounds_toArray,List.set_cons_zero,List.set_cons_succ,i64_w,i32_w]
                        rfl
                       refine one_ (i:=65) (N:=some 110) spz_m66 rfl rfl (one_of HT_.out (by kernel_rfl)) (by decide) (fun K hK => ?_)
                       refine goes_ Try.func11 (by kernel_rfl) rfl #[.int .i64 a0, .int .i64 a1] (by rfl) rfl rfl (by (try simp only [List.map_toArray,List.map_cons,List.map_nil]);first|done|rfl|(simp only [List.length_drop,List.length_take];rfl)) ?_
                       with_reducible refine (alloc_Room.calls a0 a1 t320 _ A42.out).mono ?_
                       rintro e w' ⟨rfl,⟨nd,rfl⟩⟩
                       refine ⟨_,rfl, ?_⟩
                       refine hK.out _ _ ⟨hHeld.1,hHeld.2.1,hHeld.2.2.1,hHeld.2.2.2.1,((HB.out.cell (zb w _ hw300_0)).trans hw300_0),((HB.out.cell (zb w _ hw301_0)).trans hw301_0),hHeld.2.2.2.2.2.2.1,hHeld.2.2.2.2.2.2.2.1,((HB.out.cell (zb w _ hw318_0)).trans hw318_0),hHeld.2.2.2.2.2.2.2.2.2⟩ (fun hHeld => ?_)
                       clear hK K
                       refine norm_ (a' := ?_) ?_ ?_
                       rotate_left
                       ·
                        show Act.put _ (some 110) _=_
                        simp only [Act.put,List.setIfInBounds_toArray,List.set_cons_zero,List.set_cons_succ,i64_w,i32_w]
                        rfl
                       refine one_ (i:=66) (N:=some 111) spz_m67 rfl rfl (one_of HT_.out (by kernel_rfl)) (by decide) (fun K hK => ?_)
                       refine goes_ Try.func21 (by kernel_rfl) rfl #[.slice (some ad301) (rd_L1 l2 x9_1).length c300_0, .slice (some ad297) (rd_L1 t289 x9_1).length c296_0, .int .i64 x10_2, .int .i64 t320] (by rfl) rfl rfl (by (try simp only [List.map_toArray,List.map_cons,List.map_nil]);first|done|rfl|(simp only [List.length_drop,List.length_take];rfl)) ?_
                       with_reducible refine (psalteryref12_May.calls k2 _ _ (rd_L1 l2 x9_1) _ _ (rd_L1 t289 x9_1) x10_2 t320 false _ ?side1 ?side2 ?side3 ?side4 A43.out).mono ?_
                       (case side1=>repeat (first|exact (Kd.C_below HR318_0.out (by repeat (first|(with_reducible first|exact HB.out|apply ze|apply zd|apply zf)|exact HB.out)))|(with_reducible refine Kd.C_alloc ?_ _)|(with_reducible refine Kd.C_drewN ?_ _)|(with_reducible refine Kd.C_drew ?_)))
                       (case side2=>exact HC318_0.out)
                       (case side3=>repeat (first|exact (by repeat (first|(with_reducible exact HR319_0.out)|(with_reducible refine Kd.C_alloc ?_ _)|(with_reducible refine Kd.C_drewN ?_ _)|(with_reducible refine Kd.C_drew ?_)|exact HR319_0.out))|(with_reducible refine Kd.C_alloc ?_ _)|(with_reducible refine Kd.C_drewN ?_ _)|(with_reducible refine Kd.C_drew ?_)))
                       (case side4=>exact HC319_0.out)
                       rintro e w46 ⟨rfl,hb⟩
                       have HS0_:=(hb.cell (zb _ _ (hHeld.1))).trans (hHeld.1)
                       have HS1_:=(hb.cell (zb _ _ (hHeld.2.1))).trans (hHeld.2.1)
                       have HS2_:=(hb.cell (zb _ _ (hHeld.2.2.1))).trans (hHeld.2.2.1)
                       have HS3_:=(hb.cell (zb _ _ (hHeld.2.2.2.1))).trans (hHeld.2.2.2.1)
                       have HS6_:=(hb.cell (zb _ _ (hHeld.2.2.2.2.2.2.1))).trans (hHeld.2.2.2.2.2.2.1)
                       have HS7_:=(hb.cell (zb _ _ (hHeld.2.2.2.2.2.2.2.1))).trans (hHeld.2.2.2.2.2.2.2.1)
                       have HS9_:=(hb.cell (zb _ _ (hHeld.2.2.2.2.2.2.2.2.2))).trans (hHeld.2.2.2.2.2.2.2.2.2)
                       refine ⟨_,rfl, ?_⟩
                       have n0_:=zm (Kd.S_below (by (with_reducible repeat (first|apply Kd.S_alloc|apply Kd.S_drewN|apply Kd.S_drew));exact HO_7.out) hb)
                       have n1_:=zm (Kd.R_below (by (with_reducible repeat (first|apply zo|apply zp|apply zq));exact HL296_0.out) hb)
                       have n2_:=zm (Kd.R_below (by (with_reducible repeat (first|apply zo|apply zp|apply zq));exact HL298_0.out) hb)
                       have n3_:=zm (Kd.R_below (by (with_reducible repeat (first|apply zo|apply zp|apply zq));exact HL316_0.out) hb)
                       have n4_:=zm (Kd.R_below (by (with_reducible repeat (first|apply zo|apply zp|apply zq));exact HL319_0.out) hb)
                       have n5_:=zm (Kd.C_below (Kd.C_drewN (Kd.C_drewN HR295_0.out _) _) hb)
                       have n6_:=zm (Kd.C_below (Kd.C_drewN (Kd.C_drewN HR296_0.out _) _) hb)
                       have n7_:=zm (Kd.C_below (Kd.C_drewN (Kd.C_drewN HR298_0.out _) _) hb)
                       have n8_:=zm (Kd.C_below (Kd.C_drewN (Kd.C_drewN HR316_0.out _) _) hb)
                       have n9_:=zm (Kd.C_below (Kd.C_drewN (Kd.C_drewN HR319_0.out _) _) hb)
                       have n10_:=zm (zJ (by repeat (first|(with_reducible first|exact HB.out|apply ze|apply zd|apply zf)|exact HB.out)) hb)
                       clear HO_7;clear HL296_0;clear HL298_0;clear HL316_0;clear HL319_0;clear HR295_0;clear HR296_0;clear HR298_0;clear HR316_0;clear HR319_0;clear HB;have HO_7:=n0_;have HL296_0:=n1_;have HL298_0:=n2_;have HL316_0:=n3_;have HL319_0:=n4_;have HR295_0:=n5_;have HR296_0:=n6_;have HR298_0:=n7_;have HR316_0:=n8_;have HR319_0:=n9_;have HB:=n10_;clear n0_ n1_ n2_ n3_ n4_ n5_ n6_ n7_ n8_ n9_ n10_
                       (try clear hb)
                       (try clear hb2)
                       (try clear hk)
                       (try clear hi)
                       refine hK.out _ _ ⟨HS0_,HS1_,HS2_,HS3_,((HB.out.cell (zb w _ hw300_0)).trans hw300_0),((HB.out.cell (zb w _ hw301_0)).trans hw301_0),HS6_,HS7_,((HB.out.cell (zb w _ hw318_0)).trans hw318_0),HS9_⟩ (fun hHeld => ?_)
                       clear hK K
                       refine norm_ (a' := ?_) ?_ ?_
                       rotate_left
                       ·
                        show Act.put _ (some 111) _=_
                        simp only [Act.put,List.setIfInBounds_toArray,List.set_cons_zero,List.set_cons_succ,i64_w,i32_w]
                        rfl
                       refine pure_ (i:=67) (N:=some 112) (v := ?_) (a' := ?_) spz_m68 rfl rfl (any_of HT_.out (by kernel_rfl)) (fun _ _ _ h=>h) (Or.inl ⟨by rfl, ?_⟩) ?_ ?_
                       rotate_left
                       ·
                        intro w'
                        go_simp
                        with_reducible rfl
                       rotate_left
                       ·
                        simp only [Act.put,List.setIfInBounds_toArray,List.set_cons_zero,List.set_cons_succ,i64_w,i32_w]
                        rfl
                       refine done_ (done_of HT_.out (by kernel_rfl)) ?_
                       try go_wp2
                       go_roundg k2
                       case measure=>have:=HK1.out;have:=HK2.out;omega
                       case rel=>exact ⟨(wrap64 (x10_2+1)),(by first|rfl|(simp;done)|(simp [*];done)),H',⟨by have:=HK1.out;have:=HK2.out;omega⟩,⟨by (with_reducible repeat (first|apply Kd.S_alloc|apply Kd.S_drewN|apply Kd.S_drew));exact HO_7.out⟩,⟨by repeat (first|(with_reducible exact HR295_0.out)|(with_reducible refine Kd.C_alloc ?_ _)|(with_reducible refine Kd.C_drewN ?_ _)|(with_reducible refine Kd.C_drew ?_)|exact HR295_0.out)⟩,⟨by repeat (first|(with_reducible first|exact HB.out|apply ze|apply zd|apply zf)|exact HB.out)⟩⟩
                    ·
                     rw [if_neg c40] at H
                     have c40b0 : (t315 == 1)=false:=beq_eq_false_iff_ne.mpr c40
                     have c40b1 : (t315 != 1)=true:=bne_iff_ne.mpr c40
                     replace H:=Option.bind_eq_some_iff.mp H
                     obtain ⟨t324,A470,H⟩:=H
                     replace H : ((psalteryref12_May.f k2 (rd_L1 l2 x9_1) (rd_L1 t289 x9_1) x10_2 t324).bind fun t325=>(if t325=true then (none) else (psalterylaw12_AllocSpends.l1 k2 a0 a1 l2 t289 x9_1 (wrap64 (x10_2+1)))))=some r:=H
                     have A47:=zm A470;clear A470
                     replace H:=Option.bind_eq_some_iff.mp H
                     obtain ⟨t325,A480,H⟩:=H
                     replace H : (if t325=true then (none) else (psalterylaw12_AllocSpends.l1 k2 a0 a1 l2 t289 x9_1 (wrap64 (x10_2+1))))=some r:=H
                     have A48:=zm A480;clear A480
                     by_cases c49 : t325=true
                     ·
                      subst c49
                      have H1 : (none)=some r:=by rw [if_pos rfl] at H;exact H
                      clear H;have H:=H1;clear H1
                      exact absurd H (by simp)
                     ·
                      replace c49:=Bool.eq_false_iff.mpr c49
                      subst c49
                      have H1 : (psalterylaw12_AllocSpends.l1 k2 a0 a1 l2 t289 x9_1 (wrap64 (x10_2+1)))=some r:=by rw [if_neg (show ¬ (false=true) by decide)] at H;exact H
                      clear H;have H:=H1;clear H1
                      have H' := zm H
                      clear H
                      try go_wp2
                      have n0_:=zm (Kd.S_drew HO_7.out);have n1_:=zm (Kd.C_drew HR295_0.out);have n2_:=zm (zf HB.out);clear HO_7;clear HR295_0;clear HB;have HO_7:=n0_;have HR295_0:=n1_;have HB:=n2_;clear n0_ n1_ n2_
                      have p296 : 0≤(x9_1 : Int):=of_decide_eq_true (by first|(with_reducible assumption)|assumption)
                      have q296 : x9_1 < (t289.length : Int):=of_decide_eq_true (by first|(with_reducible assumption)|assumption)
                      obtain ⟨ad296,A296_0,c296_0,e296,hx296_0,hl296_0,hi296_0⟩:=at_L1 (Kd.S_reads' HO_7.out).2.2 x9_1 p296 q296
                      obtain rfl : ad295=ad296:=(by injection e296)
                      obtain ⟨ce296,hce296,hMe296,hcc296⟩:=Kd.S_get HO_7.out [] x9_1 p296 (by first|exact q296|exact of_decide_eq_true (by first|(with_reducible assumption)|assumption)|(have e_:=(Kd.S_reads' HO_7.out).1;omega))
                      obtain ⟨ve296_0,rfl,ge296_0⟩:=hMe296
                      have hv296_0:=hcc296 0 _ rfl
                      rw [Nat.add_zero,show ((Kd.slice 3 (Kd.int .i64))).sz=1 from rfl,Nat.mul_one] at hv296_0
                      replace hv296_0:=Option.some.inj (hv296_0.symm.trans hx296_0)
                      rw [hv296_0] at ge296_0
                      have HL296_0:=zm (show Kd.R (Kd.int .i64) 3 _ _ _ _ (rd_L1 t289 x9_1) from ge296_0)
                      clear hv296_0 ge296_0;clear hcc296 hce296;have HR296_0:=zm hi296_0;have HC296_0:=zm hl296_0;clear hi296_0 hl296_0
                      replace p296:=eq_true p296
                      replace q296:=eq_true q296
                      have p297 : 0≤(x10_2 : Int):=of_decide_eq_true (by first|(with_reducible assumption)|assumption)
                      have q297 : x10_2 < ((rd_L1 t289 x9_1).length : Int):=of_decide_eq_true (by first|(with_reducible assumption)|assumption)
                      obtain ⟨ad297,e297,hx297_0⟩:=Kd.at_int (by repeat (first|(with_reducible exact HR296_0.out)|(with_reducible refine Kd.C_alloc ?_ _)|(with_reducible refine Kd.C_drewN ?_ _)|(with_reducible refine Kd.C_drew ?_)|exact HR296_0.out)) x10_2 p297 q297
                      cases e297
                      replace p297:=eq_true p297
                      replace q297:=eq_true q297
                      have p298 : 0≤(x9_1 : Int):=of_decide_eq_true (by first|(with_reducible assumption)|assumption)
                      have q298 : x9_1 < (t289.length : Int):=of_decide_eq_true (by first|(with_reducible assumption)|assumption)
                      obtain ⟨ad298,A298_0,c298_0,e298,hx298_0,hl298_0,hi298_0⟩:=at_L1 (Kd.S_reads' HO_7.out).2.2 x9_1 p298 q298
                      obtain rfl : ad295=ad298:=(by injection e298)
                      obtain ⟨ce298,hce298,hMe298,hcc298⟩:=Kd.S_get HO_7.out [] x9_1 p298 (by first|exact q298|exact of_decide_eq_true (by first|(with_reducible assumption)|assumption)|(have e_:=(Kd.S_reads' HO_7.out).1;omega))
                      obtain ⟨ve298_0,rfl,ge298_0⟩:=hMe298
                      have hv298_0:=hcc298 0 _ rfl
                      rw [Nat.add_zero,show ((Kd.slice 3 (Kd.int .i64))).sz=1 from rfl,Nat.mul_one] at hv298_0
                      replace hv298_0:=Option.some.inj (hv298_0.symm.trans hx298_0)
                      rw [hv298_0] at ge298_0
                      have HL298_0:=zm (show Kd.R (Kd.int .i64) 3 _ _ _ _ (rd_L1 t289 x9_1) from ge298_0)
                      clear hv298_0 ge298_0;clear hcc298 hce298;have HR298_0:=zm hi298_0;have HC298_0:=zm hl298_0;clear hi298_0 hl298_0
                      replace p298:=eq_true p298
                      replace q298:=eq_true q298
                      have ea_:=Option.some.inj (hx296_0.symm.trans hx298_0)
                      injection ea_ with ea_ en_ ec_
                      subst ea_;subst ec_;clear en_
                      have p299 : 0≤(x10_2 : Int):=of_decide_eq_true (by first|(with_reducible assumption)|assumption)
                      have q299 : x10_2 < ((rd_L1 t289 x9_1).length : Int):=of_decide_eq_true (by first|(with_reducible assumption)|assumption)
                      obtain ⟨ad299,e299,hx299_0⟩:=Kd.at_int (by repeat (first|(with_reducible exact HR298_0.out)|(with_reducible refine Kd.C_alloc ?_ _)|(with_reducible refine Kd.C_drewN ?_ _)|(with_reducible refine Kd.C_drew ?_)|exact HR298_0.out)) x10_2 p299 q299
                      cases e299
                      replace p299:=eq_true p299
                      replace q299:=eq_true q299
                      have p300 : 0≤(x9_1 : Int):=of_decide_eq_true (by first|(with_reducible assumption)|assumption)
                      have q300 : x9_1 < (l2.length : Int):=of_decide_eq_true (by first|(with_reducible assumption)|assumption)
                      obtain ⟨ad300,A300_0,c300_0,e300,hx300_0,hl300_0,hi300_0⟩:=at_L1 HR2.out x9_1 p300 q300
                      have hw300_0:=hx300_0
                      cases e300
                      replace hx300_0:=(HB.out.cell (zb w _ hx300_0)).trans hx300_0
                      have HR300_0:=zm hi300_0;have HC300_0:=zm hl300_0;clear hi300_0 hl300_0
                      replace p300:=eq_true p300
                      replace q300:=eq_true q300
                      have p301 : 0≤(x10_2 : Int):=of_decide_eq_true (by first|(with_reducible assumption)|assumption)
                      have q301 : x10_2 < ((rd_L1 l2 x9_1).length : Int):=of_decide_eq_true (by first|(with_reducible assumption)|assumption)
                      obtain ⟨ad301,e301,hx301_0⟩:=Kd.at_int HR300_0.out x10_2 p301 q301
                      have hw301_0:=hx301_0
                      cases e301
                      replace hx301_0:=(HB.out.cell (zb w _ hx301_0)).trans hx301_0
                      replace p301:=eq_true p301
                      replace q301:=eq_true q301
                      have p322 : 0≤(x9_1 : Int):=of_decide_eq_true (by first|(with_reducible assumption)|assumption)
                      have q322 : x9_1 < (l2.length : Int):=of_decide_eq_true (by first|(with_reducible assumption)|assumption)
                      obtain ⟨ad322,A322_0,c322_0,e322,hx322_0,hl322_0,hi322_0⟩:=at_L1 HR2.out x9_1 p322 q322
                      have hw322_0:=hx322_0
                      obtain rfl : ad300=ad322:=(by injection e322)
                      replace hx322_0:=(HB.out.cell (zb w _ hx322_0)).trans hx322_0
                      have HR322_0:=zm hi322_0;have HC322_0:=zm hl322_0;clear hi322_0 hl322_0
                      replace p322:=eq_true p322
                      replace q322:=eq_true q322
                      have ea_:=Option.some.inj (hx300_0.symm.trans hx322_0)
                      injection ea_ with ea_ en_ ec_
                      subst ea_;subst ec_;clear en_
                      have p323 : 0≤(x9_1 : Int):=of_decide_eq_true (by first|(with_reducible assumption)|assumption)
                      have q323 : x9_1 < (t289.length : Int):=of_decide_eq_true (by first|(with_reducible assumption)|assumption)
                      obtain ⟨ad323,A323_0,c323_0,e323,hx323_0,hl323_0,hi323_0⟩:=at_L1 (Kd.S_reads' HO_7.out).2.2 x9_1 p323 q323
                      obtain rfl : ad295=ad323:=(by injection e323)
                      obtain ⟨ce323,hce323,hMe323,hcc323⟩:=Kd.S_get HO_7.out [] x9_1 p323 (by first|exact q323|exact of_decide_eq_true (by first|(with_reducible assumption)|assumption)|(have e_:=(Kd.S_reads' HO_7.out).1;omega))
                      obtain ⟨ve323_0,rfl,ge323_0⟩:=hMe323
                      have hv323_0:=hcc323 0 _ rfl
                      rw [Nat.add_zero,show ((Kd.slice 3 (Kd.int .i64))).sz=1 from rfl,Nat.mul_one] at hv323_0
                      replace hv323_0:=Option.some.inj (hv323_0.symm.trans hx323_0)
                      rw [hv323_0] at ge323_0
                      have HL323_0:=zm (show Kd.R (Kd.int .i64) 3 _ _ _ _ (rd_L1 t289 x9_1) from ge323_0)
                      clear hv323_0 ge323_0;clear hcc323 hce323;have HR323_0:=zm hi323_0;have HC323_0:=zm hl323_0;clear hi323_0 hl323_0
                      replace p323:=eq_true p323
                      replace q323:=eq_true q323
                      have ea_:=Option.some.inj (hx296_0.symm.trans hx323_0)
                      injection ea_ with ea_ en_ ec_
                      subst ea_;subst ec_;clear en_
                      refine start_ (n:=68) (S:=fun w' => w'.cell? (ad295.add (x9_1).toNat)=some (.slice (some ad297) (rd_L1 t289 x9_1).length c296_0)∧w'.cell? (ad297.add (x10_2).toNat)=some (.int .i64 (rd (rd_L1 t289 x9_1) x10_2))∧w'.cell? (ad295.add (x9_1).toNat)=some (.slice (some ad297) (rd_L1 t289 x9_1).length c296_0)∧w'.cell? (ad297.add (x10_2).toNat)=some (.int .i64 (rd (rd_L1 t289 x9_1) x10_2))∧w'.cell? (ad300.add (x9_1).toNat)=some (.slice (some ad301) (rd_L1 l2 x9_1).length c300_0)∧w'.cell? (ad301.add (x10_2).toNat)=some (.int .i64 (rd (rd_L1 l2 x9_1) x10_2))∧w'.cell? (ad300.add (x9_1).toNat)=some (.slice (some ad301) (rd_L1 l2 x9_1).length c300_0)∧w'.cell? (ad295.add (x9_1).toNat)=some (.slice (some ad297) (rd_L1 t289 x9_1).length c296_0)) (ds := []) spz_m0 (by kernel_rfl) rfl rfl ⟨hx296_0,hx297_0,hx298_0,hx299_0,((HB.out.cell (zb w _ hw300_0)).trans hw300_0),((HB.out.cell (zb w _ hw301_0)).trans hw301_0),((HB.out.cell (zb w _ hw322_0)).trans hw322_0),hx323_0⟩ (fun hHeld => ?_);refine with_tabW psalterylaw12_AllocSpends.tab14 psalterylaw12_AllocSpends.bits14 (fun HT_ HW_ => ?_)
                      generalize wr.drew=w50 at HO_7 HR295_0 HB HL296_0 HL298_0 HL323_0 HR296_0 HR298_0 HR300_0 HR322_0 HR323_0 hx296_0 hx297_0 hx298_0 hx299_0 hx300_0 hx301_0 hx322_0 hx323_0 hHeld ⊢
                      refine pure_ (i:=0) (N:=some 45) (v := ?_) (a' := ?_) spz_m1 rfl rfl (any_of HT_.out (by kernel_rfl)) (fun _ _ _ h=>h) (Or.inl ⟨by rfl, ?_⟩) ?_ ?_
                      rotate_left
                      ·
                       intro w'
                       go_simp
                       with_reducible rfl
                      rotate_left
                      ·
                       simp only [Act.put,List.setIfInBounds_toArray,List.set_cons_zero,List.set_cons_succ,i64_w,i32_w]
                       rfl
                      refine pure_ (i:=1) (N:=some 46) (v := ?_) (a' := ?_) spz_m2 rfl rfl (any_of HT_.out (by kernel_rfl)) (fun _ _ _ h=>h) (Or.inl ⟨by rfl, ?_⟩) ?_ ?_
                      rotate_left
                      ·
                       intro w'
                       go_simp
                       with_reducible rfl
                      rotate_left
                      ·
                       simp only [Act.put,List.setIfInBounds_toArray,List.set_cons_zero,List.set_cons_succ,i64_w,i32_w]
                       rfl
                      refine pure_ (i:=2) (N:=some 47) (v := ?_) (a' := ?_) spz_m3 rfl rfl (any_of HT_.out (by kernel_rfl)) (fun _ _ _ h=>h) (Or.inl ⟨by rfl, ?_⟩) ?_ ?_
                      rotate_left
                      ·
                       intro w'
                       go_simp
                       with_reducible rfl
                      rotate_left
                      ·
                       simp only [Act.put,List.setIfInBounds_toArray,List.set_cons_zero,List.set_cons_succ,i64_w,i32_w]
                       rfl
                      refine pure_ (i:=4) (N:=some 49) (v := ?_) (a' := ?_) spz_m4 rfl rfl (any_of HT_.out (by kernel_rfl)) (fun _ _ _ h=>h) (Or.inl ⟨by rfl, ?_⟩) ?_ ?_
                      rotate_left
                      ·
                       intro w'
                       go_simp
                       with_reducible rfl
                      rotate_left
                      ·
                       simp only [Act.put,List.setIfInBounds_toArray,List.set_cons_zero,List.set_cons_succ,i64_w,i32_w]
                       rfl
                      refine take_ (i:=3) (N:=some 48) (v := ?_) (a' := ?_) spz_m5 rfl rfl (take_ofW HT_.out HW_.out (by kernel_rfl)) (fun _ _ _ h=>h) (Or.inl ⟨by rfl, ?_⟩) hHeld ?_ ?_
                      rotate_left
                      ·
                       rintro w' ⟨s0,s1,s2,s3,s4,s5,s6,s7⟩
                       go_simp
                       with_reducible rfl
                      rotate_left
                      ·
                       simp only [Act.put,List.setIfInBounds_toArray,List.set_cons_zero,List.set_cons_succ,i64_w,i32_w]
                       rfl
                      refine pure_ (i:=5) (N:=some 50) (v := ?_) (a' := ?_) spz_m6 rfl rfl (any_of HT_.out (by kernel_rfl)) (fun _ _ _ h=>h) (Or.inl ⟨by rfl, ?_⟩) ?_ ?_
                      rotate_left
                      ·
                       intro w'
                       go_simp
                       with_reducible rfl
                      rotate_left
                      ·
                       simp only [Act.put,List.setIfInBounds_toArray,List.set_cons_zero,List.set_cons_succ,i64_w,i32_w]
                       rfl
                      refine take_ (i:=6) (N:=some 51) (v := ?_) (a' := ?_) spz_m7 rfl rfl (take_ofW HT_.out HW_.out (by kernel_rfl)) (fun _ _ _ h=>h) (Or.inl ⟨by rfl, ?_⟩) hHeld ?_ ?_
                      rotate_left
                      ·
                       rintro w' ⟨s0,s1,s2,s3,s4,s5,s6,s7⟩
                       go_simp
                       with_reducible rfl
                      rotate_left
                      ·
                       simp only [Act.put,List.setIfInBounds_toArray,List.set_cons_zero,List.set_cons_succ,i64_w,i32_w]
                       rfl
                      refine pure_ (i:=7) (N:=some 52) (v := ?_) (a' := ?_) spz_m8 rfl rfl (any_of HT_.out (by kernel_rfl)) (fun _ _ _ h=>h) (Or.inl ⟨by rfl, ?_⟩) ?_ ?_
                      rotate_left
                      ·
                       intro w'
                       go_simp
                       with_reducible rfl
                      rotate_left
                      ·
                       simp only [Act.put,List.setIfInBounds_toArray,List.set_cons_zero,List.set_cons_succ,i64_w,i32_w]
                       rfl
                      refine pure_ (i:=8) (N:=some 53) (v := ?_) (a' := ?_) spz_m9 rfl rfl (any_of HT_.out (by kernel_rfl)) (fun _ _ _ h=>h) (Or.inl ⟨by rfl, ?_⟩) ?_ ?_
                      rotate_left
                      ·
                       intro w'
                       go_simp
                       with_reducible rfl
                      rotate_left
                      ·
                       simp only [Act.put,List.setIfInBounds_toArray,List.set_cons_zero,List.set_cons_succ,i64_w,i32_w]
                       rfl
                      refine pure_ (i:=9) (N:=some 54) (v := ?_) (a' := ?_) spz_m10 rfl rfl (any_of HT_.out (by kernel_rfl)) (fun _ _ _ h=>h) (Or.inl ⟨by rfl, ?_⟩) ?_ ?_
                      rotate_left
                      ·
                       intro w'
                       go_simp
                       with_reducible rfl
                      rotate_left
                      ·
                       simp only [Act.put,List.setIfInBounds_toArray,List.set_cons_zero,List.set_cons_succ,i64_w,i32_w]
                       rfl
                      refine pure_ (i:=10) (N:=some 55) (v := ?_) (a' := ?_) spz_m11 rfl rfl (any_of HT_.out (by kernel_rfl)) (fun _ _ _ h=>h) (Or.inl ⟨by rfl, ?_⟩) ?_ ?_
                      rotate_left
                      ·
                       intro w'
                       go_simp
                       with_reducible rfl
                      rotate_left
                      ·
                       simp only [Act.put,List.setIfInBounds_toArray,List.set_cons_zero,List.set_cons_succ,i64_w,i32_w]
                       rfl
                      refine pure_ (i:=11) (N:=some 56) (v := ?_) (a' := ?_) spz_m12 rfl rfl (any_of HT_.out (by kernel_rfl)) (fun _ _ _ h=>h) (Or.inl ⟨by rfl, ?_⟩) ?_ ?_
                      rotate_left
                      ·
                       intro w'
                       go_simp
                       with_reducible rfl
                      rotate_left
                      ·
                       simp only [Act.put,List.setIfInBounds_toArray,List.set_cons_zero,List.set_cons_succ,i64_w,i32_w]
                       rfl
                      refine pure_ (i:=13) (N:=some 58) (v := ?_) (a' := ?_) spz_m13 rfl rfl (any_of HT_.out (by kernel_rfl)) (fun _ _ _ h=>h) (Or.inl ⟨by rfl, ?_⟩) ?_ ?_
                      rotate_left
                      ·
                       intro w'
                       go_simp
                       with_reducible rfl
                      rotate_left
                      ·
                       simp only [Act.put,List.setIfInBounds_toArray,List.set_cons_zero,List.set_cons_succ,i64_w,i32_w]
                       rfl
                      refine take_ (i:=12) (N:=some 57) (v := ?_) (a' := ?_) spz_m14 rfl rfl (take_ofW HT_.out HW_.out (by kernel_rfl)) (fun _ _ _ h=>h) (Or.inl ⟨by rfl, ?_⟩) hHeld ?_ ?_
                      rotate_left
                      ·
                       rintro w' ⟨s0,s1,s2,s3,s4,s5,s6,s7⟩
                       go_simp
                       with_reducible rfl
                      rotate_left
                      ·
                       simp only [Act.put,List.setIfInBounds_toArray,List.set_cons_zero,List.set_cons_succ,i64_w,i32_w]
                       rfl
                      refine pure_ (i:=14) (N:=some 59) (v := ?_) (a' := ?_) spz_m15 rfl rfl (any_of HT_.out (by kernel_rfl)) (fun _ _ _ h=>h) (Or.inl ⟨by rfl, ?_⟩) ?_ ?_
                      rotate_left
                      ·
                       intro w'
                       go_simp
                       with_reducible rfl
                      rotate_left
                      ·
                       simp only [Act.put,List.setIfInBounds_toArray,List.set_cons_zero,List.set_cons_succ,i64_w,i32_w]
                       rfl
                      refine take_ (i:=15) (N:=some 60) (v := ?_) (a' := ?_) spz_m16 rfl rfl (take_ofW HT_.out HW_.out (by kernel_rfl)) (fun _ _ _ h=>h) (Or.inl ⟨by rfl, ?_⟩) hHeld ?_ ?_
                      rotate_left
                      ·
                       rintro w' ⟨s0,s1,s2,s3,s4,s5,s6,s7⟩
                       go_simp
                       with_reducible rfl
                      rotate_left
                      ·
                       simp only [Act.put,List.setIfInBounds_toArray,List.set_cons_zero,List.set_cons_succ,i64_w,i32_w]
                       rfl
                      refine pure_ (i:=16) (N:=some 61) (v := ?_) (a' := ?_) spz_m17 rfl rfl (any_of HT_.out (by kernel_rfl)) (fun _ _ _ h=>h) (Or.inl ⟨by rfl, ?_⟩) ?_ ?_
                      rotate_left
                      ·
                       intro w'
                       go_simp
                       with_reducible rfl
                      rotate_left
                      ·
                       simp only [Act.put,List.setIfInBounds_toArray,List.set_cons_zero,List.set_cons_succ,i64_w,i32_w]
                       rfl
                      refine pure_ (i:=17) (N:=some 62) (v := ?_) (a' := ?_) spz_m18 rfl rfl (any_of HT_.out (by kernel_rfl)) (fun _ _ _ h=>h) (Or.inl ⟨by rfl, ?_⟩) ?_ ?_
                      rotate_left
                      ·
                       intro w'
                       go_simp
                       with_reducible rfl
                      rotate_left
                      ·
                       simp only [Act.put,List.setIfInBounds_toArray,List.set_cons_zero,List.set_cons_succ,i64_w,i32_w]
                       rfl
                      refine pure_ (i:=18) (N:=some 63) (v := ?_) (a' := ?_) spz_m19 rfl rfl (any_of HT_.out (by kernel_rfl)) (fun _ _ _ h=>h) (Or.inl ⟨by rfl, ?_⟩) ?_ ?_
                      rotate_left
                      ·
                       intro w'
                       go_simp
                       with_reducible rfl
                      rotate_left
                      ·
                       simp only [Act.put,List.setIfInBounds_toArray,List.set_cons_zero,List.set_cons_succ,i64_w,i32_w]
                       rfl
                      refine pure_ (i:=19) (N:=some 64) (v := ?_) (a' := ?_) spz_m20 rfl rfl (any_of HT_.out (by kernel_rfl)) (fun _ _ _ h=>h) (Or.inl ⟨by rfl, ?_⟩) ?_ ?_
                      rotate_left
                      ·
                       intro w'
                       go_simp
                       with_reducible rfl
                      rotate_left
                      ·
                       simp only [Act.put,List.setIfInBounds_toArray,List.set_cons_zero,List.set_cons_succ,i64_w,i32_w]
                       rfl
                      refine pure_ (i:=20) (N:=some 65) (v := ?_) (a' := ?_) spz_m21 rfl rfl (any_of HT_.out (by kernel_rfl)) (fun _ _ _ h=>h) (Or.inl ⟨by rfl, ?_⟩) ?_ ?_
                      rotate_left
                      ·
                       intro w'
                       go_simp
                       with_reducible rfl
                      rotate_left
                      ·
                       simp only [Act.put,List.setIfInBounds_toArray,List.set_cons_zero,List.set_cons_succ,i64_w,i32_w]
                       rfl
                      refine pure_ (i:=21) (N:=some 66) (v := ?_) (a' := ?_) spz_m22 rfl rfl (any_of HT_.out (by kernel_rfl)) (fun _ _ _ h=>h) (Or.inl ⟨by rfl, ?_⟩) ?_ ?_
                      rotate_left
                      ·
                       intro w'
                       go_simp
                       with_reducible rfl
                      rotate_left
                      ·
                       simp only [Act.put,List.setIfInBounds_toArray,List.set_cons_zero,List.set_cons_succ,i64_w,i32_w]
                       rfl
                      refine pure_ (i:=23) (N:=some 68) (v := ?_) (a' := ?_) spz_m23 rfl rfl (any_of HT_.out (by kernel_rfl)) (fun _ _ _ h=>h) (Or.inl ⟨by rfl, ?_⟩) ?_ ?_
                      rotate_left
                      ·
                       intro w'
                       go_simp
                       with_reducible rfl
                      rotate_left
                      ·
                       simp only [Act.put,List.setIfInBounds_toArray,List.set_cons_zero,List.set_cons_succ,i64_w,i32_w]
                       rfl
                      refine take_ (i:=22) (N:=some 67) (v := ?_) (a' := ?_) spz_m24 rfl rfl (take_ofW HT_.out HW_.out (by kernel_rfl)) (fun _ _ _ h=>h) (Or.inl ⟨by rfl, ?_⟩) hHeld ?_ ?_
                      rotate_left
                      ·
                       rintro w' ⟨s0,s1,s2,s3,s4,s5,s6,s7⟩
                       go_simp
                       with_reducible rfl
                      rotate_left
                      ·
                       simp only [Act.put,List.setIfInBounds_toArray,List.set_cons_zero,List.set_cons_succ,i64_w,i32_w]
                       rfl
                      refine pure_ (i:=24) (N:=some 69) (v := ?_) (a' := ?_) spz_m25 rfl rfl (any_of HT_.out (by kernel_rfl)) (fun _ _ _ h=>h) (Or.inl ⟨by rfl, ?_⟩) ?_ ?_
                      rotate_left
                      ·
                       intro w'
                       go_simp
                       with_reducible rfl
                      rotate_left
                      ·
                       simp only [Act.put,List.setIfInBounds_toArray,List.set_cons_zero,List.set_cons_succ,i64_w,i32_w]
                       rfl
                      refine take_ (i:=25) (N:=some 70) (v := ?_) (a' := ?_) spz_m26 rfl rfl (take_ofW HT_.out HW_.out (by kernel_rfl)) (fun _ _ _ h=>h) (Or.inl ⟨by rfl, ?_⟩) hHeld ?_ ?_
                      rotate_left
                      ·
                       rintro w' ⟨s0,s1,s2,s3,s4,s5,s6,s7⟩
                       go_simp
                       with_reducible rfl
                      rotate_left
                      ·
                       simp only [Act.put,List.setIfInBounds_toArray,List.set_cons_zero,List.set_cons_succ,i64_w,i32_w]
                       rfl
                      refine pure_ (i:=26) (N:=some 71) (v := ?_) (a' := ?_) spz_m27 rfl rfl (any_of HT_.out (by kernel_rfl)) (fun _ _ _ h=>h) (Or.inl ⟨by rfl, ?_⟩) ?_ ?_
                      rotate_left
                      ·
                       intro w'
                       go_simp
                       with_reducible rfl
                      rotate_left
                      ·
                       simp only [Act.put,List.setIfInBounds_toArray,List.set_cons_zero,List.set_cons_succ,i64_w,i32_w]
                       rfl
                      refine pure_ (i:=27) (N:=some 72) (v := ?_) (a' := ?_) spz_m28 rfl rfl (any_of HT_.out (by kernel_rfl)) (fun _ _ _ h=>h) (Or.inl ⟨by rfl, ?_⟩) ?_ ?_
                      rotate_left
                      ·
                       intro w'
                       go_simp
                       with_reducible rfl
                      rotate_left
                      ·
                       simp only [Act.put,List.setIfInBounds_toArray,List.set_cons_zero,List.set_cons_succ,i64_w,i32_w]
                       rfl
                      refine pure_ (i:=28) (N:=some 73) (v:=undef) (a' := ?_) spz_m29 rfl rfl (any_of HT_.out (by kernel_rfl)) (fun _ _ _ h=>h) (Or.inr ⟨by rfl,rfl⟩) ?_ ?_
                      rotate_left
                      ·
                       simp only [Act.put,List.setIfInBounds_toArray,List.set_cons_zero,List.set_cons_succ,i64_w,i32_w]
                       rfl
                      refine pure_ (i:=29) (N:=some 74) (v:=undef) (a' := ?_) spz_m30 rfl rfl (any_of HT_.out (by kernel_rfl)) (fun _ _ _ h=>h) (Or.inr ⟨by rfl,rfl⟩) ?_ ?_
                      rotate_left
                      ·
                       simp only [Act.put,List.setIfInBounds_toArray,List.set_cons_zero,List.set_cons_succ,i64_w,i32_w]
                       rfl
                      refine pure_ (i:=30) (N:=some 75) (v:=undef) (a' := ?_) spz_m31 rfl rfl (any_of HT_.out (by kernel_rfl)) (fun _ _ _ h=>h) (Or.inr ⟨by rfl,rfl⟩) ?_ ?_
                      rotate_left
                      ·
                       simp only [Act.put,List.setIfInBounds_toArray,List.set_cons_zero,List.set_cons_succ,i64_w,i32_w]
                       rfl
                      refine pure_ (i:=31) (N:=some 76) (v:=undef) (a' := ?_) spz_m70 rfl rfl (any_of HT_.out (by kernel_rfl)) (fun _ _ _ h=>h) (Or.inr ⟨by rfl,rfl⟩) ?_ ?_
                      rotate_left
                      ·
                       simp only [Act.put,List.setIfInBounds_toArray,List.set_cons_zero,List.set_cons_succ,i64_w,i32_w]
                       rfl
                      refine pure_ (i:=32) (N:=some 77) (v:=undef) (a' := ?_) spz_m33 rfl rfl (any_of HT_.out (by kernel_rfl)) (fun _ _ _ h=>h) (Or.inr ⟨by rfl,rfl⟩) ?_ ?_
                      rotate_left
                      ·
                       simp only [Act.put,List.setIfInBounds_toArray,List.set_cons_zero,List.set_cons_succ,i64_w,i32_w]
                       rfl
                      refine pure_ (i:=33) (N:=some 78) (v:=undef) (a' := ?_) spz_m34 rfl rfl (any_of HT_.out (by kernel_rfl)) (fun _ _ _ h=>h) (Or.inr ⟨by rfl,rfl⟩) ?_ ?_
                      rotate_left
                      ·
                       simp only [Act.put,List.setIfInBounds_toArray,List.set_cons_zero,List.set_cons_succ,i64_w,i32_w]
                       rfl
                      refine pure_ (i:=34) (N:=some 79) (v:=undef) (a' := ?_) spz_m35 rfl rfl (any_of HT_.out (by kernel_rfl)) (fun _ _ _ h=>h) (Or.inr ⟨by rfl,rfl⟩) ?_ ?_
                      rotate_left
                      ·
                       simp only [Act.put,List.setIfInBounds_toArray,List.set_cons_zero,List.set_cons_succ,i64_w,i32_w]
                       rfl
                      refine pure_ (i:=35) (N:=some 80) (v:=undef) (a' := ?_) spz_m36 rfl rfl (any_of HT_.out (by kernel_rfl)) (fun _ _ _ h=>h) (Or.inr ⟨by rfl,rfl⟩) ?_ ?_
                      rotate_left
                      ·
                       simp only [Act.put,List.setIfInBounds_toArray,List.set_cons_zero,List.set_cons_succ,i64_w,i32_w]
                       rfl
                      refine pure_ (i:=36) (N:=some 81) (v := ?_) (a' := ?_) spz_m37 rfl rfl (any_of HT_.out (by kernel_rfl)) (fun _ _ _ h=>h) (Or.inl ⟨by rfl, ?_⟩) ?_ ?_
                      rotate_left
                      ·
                       intro w'
                       go_simp
                       with_reducible rfl
                      rotate_left
                      ·
                       simp only [Act.put,List.setIfInBounds_toArray,List.set_cons_zero,List.set_cons_succ,i64_w,i32_w]
                       rfl
                      refine pure_ (i:=37) (N:=some 82) (v := ?_) (a' := ?_) spz_m38 rfl rfl (any_of HT_.out (by kernel_rfl)) (fun _ _ _ h=>h) (Or.inl ⟨by rfl, ?_⟩) ?_ ?_
                      rotate_left
                      ·
                       intro w'
                       go_simp
                       with_reducible rfl
                      rotate_left
                      ·
                       simp only [Act.put,List.setIfInBounds_toArray,List.set_cons_zero,List.set_cons_succ,i64_w,i32_w]
                       rfl
                      refine pure_ (i:=38) (N:=some 83) (v := ?_) (a' := ?_) spz_m39 rfl rfl (any_of HT_.out (by kernel_rfl)) (fun _ _ _ h=>h) (Or.inl ⟨by rfl, ?_⟩) ?_ ?_
                      rotate_left
                      ·
                       intro w'
                       go_simp
                       with_reducible rfl
                      rotate_left
                      ·
                       simp only [Act.put,List.setIfInBounds_toArray,List.set_cons_zero,List.set_cons_succ,i64_w,i32_w]
                       rfl
                      refine pure_ (i:=39) (N:=some 84) (v := ?_) (a' := ?_) spz_m40 rfl rfl (any_of HT_.out (by kernel_rfl)) (fun _ _ _ h=>h) (Or.inl ⟨by rfl, ?_⟩) ?_ ?_
                      rotate_left
                      ·
                       intro w'
                       go_simp
                       with_reducible rfl
                      rotate_left
                      ·
                       simp only [Act.put,List.setIfInBounds_toArray,List.set_cons_zero,List.set_cons_succ,i64_w,i32_w]
                       rfl
                      refine one_ (i:=40) (N:=some 85) spz_m41 rfl rfl (one_of HT_.out (by kernel_rfl)) (by decide) (fun K hK => ?_)
                      refine goes_ Try.func20 (by kernel_rfl) rfl #[.int .i64 x10_2] (by rfl) rfl rfl (by (try simp only [List.map_toArray,List.map_cons,List.map_nil]);first|done|rfl|(simp only [List.length_drop,List.length_take];rfl)) ?_
                      with_reducible refine (psalteryref10_Width.calls k2 x10_2 t315 _ A39.out).mono ?_
                      rintro e w' ⟨rfl,⟨nd,rfl⟩⟩
                      refine ⟨_,rfl, ?_⟩
                      refine hK.out _ _ ⟨hHeld.1,hHeld.2.1,hHeld.2.2.1,hHeld.2.2.2.1,((HB.out.cell (zb w _ hw300_0)).trans hw300_0),((HB.out.cell (zb w _ hw301_0)).trans hw301_0),((HB.out.cell (zb w _ hw322_0)).trans hw322_0),hHeld.2.2.2.2.2.2.2⟩ (fun hHeld => ?_)
                      clear hK K
                      refine norm_ (a' := ?_) ?_ ?_
                      rotate_left
                      ·
                       show Act.put _ (some 85) _=_
                       simp only [Act.put,List.setIfInBounds_toArray,List.set_cons_zero,List.set_cons_succ,i64_w,i32_w]
                       rfl
                      refine pure_ (i:=41) (N:=some 86) (v := ?_) (a' := ?_) spz_m42 rfl rfl (any_of HT_.out (by kernel_rfl)) (fun _ _ _ h=>h) (Or.inl ⟨by rfl, ?_⟩) ?_ ?_
                      rotate_left
                      ·
                       intro w'
                       go_simp
                       with_reducible rfl
                      rotate_left
                      ·
                       simp only [Act.put,List.setIfInBounds_toArray,List.set_cons_zero,List.set_cons_succ,i64_w,i32_w]
                       rfl
                      refine pure_ (i:=42) (N:=some 87) (v := ?_) (a' := ?_) spz_m43 rfl rfl (any_of HT_.out (by kernel_rfl)) (fun _ _ _ h=>h) (Or.inl ⟨by rfl, ?_⟩) ?_ ?_
                      rotate_left
                      ·
                       intro w'
                       go_simp
                       with_reducible rfl
                      rotate_left
                      ·
                       simp only [Act.put,List.setIfInBounds_toArray,List.set_cons_zero,List.set_cons_succ,i64_w,i32_w]
                       rfl
                      refine pure_ (i:=43) (N:=some 88) (v:=undef) (a' := ?_) spz_m44 rfl rfl (any_of HT_.out (by kernel_rfl)) (fun _ _ _ h=>h) (Or.inr ⟨by rfl,rfl⟩) ?_ ?_
                      rotate_left
                      ·
                       simp only [Act.put,List.setIfInBounds_toArray,List.set_cons_zero,List.set_cons_succ,i64_w,i32_w]
                       rfl
                      refine pure_ (i:=44) (N:=some 89) (v:=undef) (a' := ?_) spz_m45 rfl rfl (any_of HT_.out (by kernel_rfl)) (fun _ _ _ h=>h) (Or.inr ⟨by rfl,rfl⟩) ?_ ?_
                      rotate_left
                      ·
                       simp only [Act.put,List.setIfInBounds_toArray,List.set_cons_zero,List.set_cons_succ,i64_w,i32_w]
                       rfl
                      refine pure_ (i:=45) (N:=some 90) (v:=undef) (a' := ?_) spz_m46 rfl rfl (any_of HT_.out (by kernel_rfl)) (fun _ _ _ h=>h) (Or.inr ⟨by rfl,rfl⟩) ?_ ?_
                      rotate_left
                      ·
                       simp only [Act.put,List.setIfInBounds_toArray,List.set_cons_zero,List.set_cons_succ,i64_w,i32_w]
                       rfl
                      refine pure_ (i:=46) (N:=some 91) (v:=undef) (a' := ?_) spz_m69 rfl rfl (any_of HT_.out (by kernel_rfl)) (fun _ _ _ h=>h) (Or.inr ⟨by rfl,rfl⟩) ?_ ?_
                      rotate_left
                      ·
                       simp only [Act.put,List.setIfInBounds_toArray,List.set_cons_zero,List.set_cons_succ,i64_w,i32_w]
                       rfl
                      refine pure_ (i:=47) (N:=some 92) (v:=undef) (a' := ?_) spz_m48 rfl rfl (any_of HT_.out (by kernel_rfl)) (fun _ _ _ h=>h) (Or.inr ⟨by rfl,rfl⟩) ?_ ?_
                      rotate_left
                      ·
                       simp only [Act.put,List.setIfInBounds_toArray,List.set_cons_zero,List.set_cons_succ,i64_w,i32_w]
                       rfl
                      refine pure_ (i:=48) (N:=some 93) (v:=undef) (a' := ?_) spz_m49 rfl rfl (any_of HT_.out (by kernel_rfl)) (fun _ _ _ h=>h) (Or.inr ⟨by rfl,rfl⟩) ?_ ?_
                      rotate_left
                      ·
                       simp only [Act.put,List.setIfInBounds_toArray,List.set_cons_zero,List.set_cons_succ,i64_w,i32_w]
                       rfl
                      refine pure_ (i:=49) (N:=some 94) (v:=undef) (a' := ?_) spz_m50 rfl rfl (any_of HT_.out (by kernel_rfl)) (fun _ _ _ h=>h) (Or.inr ⟨by rfl,rfl⟩) ?_ ?_
                      rotate_left
                      ·
                       simp only [Act.put,List.setIfInBounds_toArray,List.set_cons_zero,List.set_cons_succ,i64_w,i32_w]
                       rfl
                      refine pure_ (i:=50) (N:=some 95) (v:=undef) (a' := ?_) spz_m51 rfl rfl (any_of HT_.out (by kernel_rfl)) (fun _ _ _ h=>h) (Or.inr ⟨by rfl,rfl⟩) ?_ ?_
                      rotate_left
                      ·
                       simp only [Act.put,List.setIfInBounds_toArray,List.set_cons_zero,List.set_cons_succ,i64_w,i32_w]
                       rfl
                      refine pure_ (i:=51) (N:=some 96) (v := ?_) (a' := ?_) spz_m52 rfl rfl (any_of HT_.out (by kernel_rfl)) (fun _ _ _ h=>h) (Or.inl ⟨by rfl, ?_⟩) ?_ ?_
                      rotate_left
                      ·
                       intro w'
                       go_simp
                       with_reducible rfl
                      rotate_left
                      ·
                       simp only [Act.put,List.setIfInBounds_toArray,List.set_cons_zero,List.set_cons_succ,i64_w,i32_w]
                       rfl
                      refine pure_ (i:=52) (N:=some 97) (v := ?_) (a' := ?_) spz_m53 rfl rfl (any_of HT_.out (by kernel_rfl)) (fun _ _ _ h=>h) (Or.inl ⟨by rfl, ?_⟩) ?_ ?_
                      rotate_left
                      ·
                       intro w'
                       go_simp
                       with_reducible rfl
                      rotate_left
                      ·
                       simp only [Act.put,List.setIfInBounds_toArray,List.set_cons_zero,List.set_cons_succ,i64_w,i32_w]
                       rfl
                      refine pure_ (i:=53) (N:=some 98) (v := ?_) (a' := ?_) spz_m54 rfl rfl (any_of HT_.out (by kernel_rfl)) (fun _ _ _ h=>h) (Or.inl ⟨by rfl, ?_⟩) ?_ ?_
                      rotate_left
                      ·
                       intro w'
                       go_simp
                       with_reducible rfl
                      rotate_left
                      ·
                       simp only [Act.put,List.setIfInBounds_toArray,List.set_cons_zero,List.set_cons_succ,i64_w,i32_w]
                       rfl
                      refine pure_ (i:=54) (N:=some 99) (v := ?_) (a' := ?_) spz_m55 rfl rfl (any_of HT_.out (by kernel_rfl)) (fun _ _ _ h=>h) (Or.inl ⟨by rfl, ?_⟩) ?_ ?_
                      rotate_left
                      ·
                       intro w'
                       go_simp
                       with_reducible rfl
                      rotate_left
                      ·
                       simp only [Act.put,List.setIfInBounds_toArray,List.set_cons_zero,List.set_cons_succ,i64_w,i32_w]
                       rfl
                      refine pure_ (i:=55) (N:=some 100) (v := ?_) (a' := ?_) spz_m56 rfl rfl (any_of HT_.out (by kernel_rfl)) (fun _ _ _ h=>h) (Or.inl ⟨by rfl, ?_⟩) ?_ ?_
                      rotate_left
                      ·
                       intro w'
                       go_simp
                       with_reducible rfl
                      rotate_left
                      ·
                       simp only [Act.put,List.setIfInBounds_toArray,List.set_cons_zero,List.set_cons_succ,i64_w,i32_w]
                       rfl
                      refine pure_ (i:=56) (N:=some 101) (v := ?_) (a' := ?_) spz_m57 rfl rfl (any_of HT_.out (by kernel_rfl)) (fun _ _ _ h=>h) (Or.inl ⟨by rfl, ?_⟩) ?_ ?_
                      rotate_left
                      ·
                       intro w'
                       go_simp
                       with_reducible rfl
                      rotate_left
                      ·
                       simp only [Act.put,List.setIfInBounds_toArray,List.set_cons_zero,List.set_cons_succ,i64_w,i32_w]
                       rfl
                      refine pure_ (i:=58) (N:=some 103) (v := ?_) (a' := ?_) spz_m58 rfl rfl (any_of HT_.out (by kernel_rfl)) (fun _ _ _ h=>h) (Or.inl ⟨by rfl, ?_⟩) ?_ ?_
                      rotate_left
                      ·
                       intro w'
                       go_simp
                       with_reducible rfl
                      rotate_left
                      ·
                       simp only [Act.put,List.setIfInBounds_toArray,List.set_cons_zero,List.set_cons_succ,i64_w,i32_w]
                       rfl
                      refine pure_ (i:=59) (N:=some 104) (v := ?_) (a' := ?_) spz_m59 rfl rfl (any_of HT_.out (by kernel_rfl)) (fun _ _ _ h=>h) (Or.inl ⟨by rfl, ?_⟩) ?_ ?_
                      rotate_left
                      ·
                       intro w'
                       go_simp
                       with_reducible rfl
                      rotate_left
                      ·
                       simp only [Act.put,List.setIfInBounds_toArray,List.set_cons_zero,List.set_cons_succ,i64_w,i32_w]
                       rfl
                      refine pure_ (i:=60) (N:=some 105) (v := ?_) (a' := ?_) spz_m60 rfl rfl (any_of HT_.out (by kernel_rfl)) (fun _ _ _ h=>h) (Or.inl ⟨by rfl, ?_⟩) ?_ ?_
                      rotate_left
                      ·
                       intro w'
                       go_simp
                       with_reducible rfl
                      rotate_left
                      ·
                       simp only [Act.put,List.setIfInBounds_toArray,List.set_cons_zero,List.set_cons_succ,i64_w,i32_w]
                       rfl
                      refine pure_ (i:=62) (N:=some 107) (v := ?_) (a' := ?_) spz_m61 rfl rfl (any_of HT_.out (by kernel_rfl)) (fun _ _ _ h=>h) (Or.inl ⟨by rfl, ?_⟩) ?_ ?_
                      rotate_left
                      ·
                       intro w'
                       go_simp
                       with_reducible rfl
                      rotate_left
                      ·
                       simp only [Act.put,List.setIfInBounds_toArray,List.set_cons_zero,List.set_cons_succ,i64_w,i32_w]
                       rfl
                      refine pure_ (i:=63) (N:=some 108) (v := ?_) (a' := ?_) spz_m62 rfl rfl (any_of HT_.out (by kernel_rfl)) (fun _ _ _ h=>h) (Or.inl ⟨by rfl, ?_⟩) ?_ ?_
                      rotate_left
                      ·
                       intro w'
                       go_simp
                       with_reducible rfl
                      rotate_left
                      ·
                       simp only [Act.put,List.setIfInBounds_toArray,List.set_cons_zero,List.set_cons_succ,i64_w,i32_w]
                       rfl
                      refine pure_ (i:=64) (N:=some 109) (v := ?_) (a' := ?_) spz_m63 rfl rfl (any_of HT_.out (by kernel_rfl)) (fun _ _ _ h=>h) (Or.inl ⟨by rfl, ?_⟩) ?_ ?_
                      rotate_left
                      ·
                       intro w'
                       go_simp
                       with_reducible rfl
                      rotate_left
                      ·
                       simp only [Act.put,List.setIfInBounds_toArray,List.set_cons_zero,List.set_cons_succ,i64_w,i32_w]
                       rfl
                      refine take_ (i:=57) (N:=some 102) (v := ?_) (a' := ?_) spz_m64 rfl rfl (take_ofW HT_.out HW_.out (by kernel_rfl)) (fun _ _ _ h=>h) (Or.inl ⟨by rfl, ?_⟩) hHeld ?_ ?_
                      rotate_left
                      ·
                       rintro w' ⟨s0,s1,s2,s3,s4,s5,s6,s7⟩
                       go_simp
                       with_reducible rfl
                      rotate_left
                      ·
                       simp only [Act.put,List.setIfInBounds_toArray,List.set_cons_zero,List.set_cons_succ,i64_w,i32_w]
                       rfl
                      refine take_ (i:=61) (N:=some 106) (v := ?_) (a' := ?_) spz_m65 rfl rfl (take_ofW HT_.out HW_.out (by kernel_rfl)) (fun _ _ _ h=>h) (Or.inl ⟨by rfl, ?_⟩) hHeld ?_ ?_
                      rotate_left
                      ·
                       rintro w' ⟨s0,s1,s2,s3,s4,s5,s6,s7⟩
                       go_simp
                       with_reducible rfl
                      rotate_left
                      ·
                       simp only [Act.put,List.setIfInBounds_toArray,List.set_cons_zero,List.set_cons_succ,i64_w,i32_w]
                       rfl
                      refine one_ (i:=65) (N:=some 110) spz_m66 rfl rfl (one_of HT_.out (by kernel_rfl)) (by decide) (fun K hK => ?_)
                      refine goes_ Try.func11 (by kernel_rfl) rfl #[.int .i64 a0, .int .i64 a1] (by rfl) rfl rfl (by (try simp only [List.map_toArray,List.map_cons,List.map_nil]);first|done|rfl|(simp only [List.length_drop,List.length_take];rfl)) ?_
                      with_reducible refine (alloc_Room.calls a0 a1 t324 _ A47.out).mono ?_
                      rintro e w' ⟨rfl,⟨nd,rfl⟩⟩
                      refine ⟨_,rfl, ?_⟩
                      refine hK.out _ _ ⟨hHeld.1,hHeld.2.1,hHeld.2.2.1,hHeld.2.2.2.1,((HB.out.cell (zb w _ hw300_0)).trans hw300_0),((HB.out.cell (zb w _ hw301_0)).trans hw301_0),((HB.out.cell (zb w _ hw322_0)).trans hw322_0),hHeld.2.2.2.2.2.2.2⟩ (fun hHeld => ?_)
                      clear hK K
                      refine norm_ (a' := ?_) ?_ ?_
                      rotate_left
                      ·
                       show Act.put _ (some 110) _=_
                       simp only [Act.put,List.setIfInBounds_toArray,List.set_cons_zero,List.set_cons_succ,i64_w,i32_w]
                       rfl
                      refine one_ (i:=66) (N:=some 111) spz_m67 rfl rfl (one_of HT_.out (by kernel_rfl)) (by decide) (fun K hK => ?_)
                      refine goes_ Try.func21 (by kernel_rfl) rfl #[.slice (some ad301) (rd_L1 l2 x9_1).length c300_0, .slice (some ad297) (rd_L1 t289 x9_1).length c296_0, .int .i64 x10_2, .int .i64 t324] (by rfl) rfl rfl (by (try simp only [List.map_toArray,List.map_cons,List.map_nil]);first|done|rfl|(simp only [List.length_drop,List.length_take];rfl)) ?_
                      with_reducible refine (psalteryref12_May.calls k2 _ _ (rd_L1 l2 x9_1) _ _ (rd_L1 t289 x9_1) x10_2 t324 false _ ?side1 ?side2 ?side3 ?side4 A48.out).mono ?_
                      (case side1=>repeat (first|exact (Kd.C_below HR322_0.out (by repeat (first|(with_reducible first|exact HB.out|apply ze|apply zd|apply zf)|exact HB.out)))|(with_reducible refine Kd.C_alloc ?_ _)|(with_reducible refine Kd.C_drewN ?_ _)|(with_reducible refine Kd.C_drew ?_)))
                      (case side2=>exact HC322_0.out)
                      (case side3=>repeat (first|exact (by repeat (first|(with_reducible exact HR323_0.out)|(with_reducible refine Kd.C_alloc ?_ _)|(with_reducible refine Kd.C_drewN ?_ _)|(with_reducible refine Kd.C_drew ?_)|exact HR323_0.out))|(with_reducible refine Kd.C_alloc ?_ _)|(with_reducible refine Kd.C_drewN ?_ _)|(with_reducible refine Kd.C_drew ?_)))
                      (case side4=>exact HC323_0.out)
                      rintro e w51 ⟨rfl,hb⟩
                      have HS0_:=(hb.cell (zb _ _ (hHeld.1))).trans (hHeld.1)
                      have HS1_:=(hb.cell (zb _ _ (hHeld.2.1))).trans (hHeld.2.1)
                      have HS2_:=(hb.cell (zb _ _ (hHeld.2.2.1))).trans (hHeld.2.2.1)
                      have HS3_:=(hb.cell (zb _ _ (hHeld.2.2.2.1))).trans (hHeld.2.2.2.1)
                      have HS7_:=(hb.cell (zb _ _ (hHeld.2.2.2.2.2.2.2))).trans (hHeld.2.2.2.2.2.2.2)
                      refine ⟨_,rfl, ?_⟩
                      have n0_:=zm (Kd.S_below (by (with_reducible repeat (first|apply Kd.S_alloc|apply Kd.S_drewN|apply Kd.S_drew));exact HO_7.out) hb)
                      have n1_:=zm (Kd.R_below (by (with_reducible repeat (first|apply zo|apply zp|apply zq));exact HL296_0.out) hb)
                      have n2_:=zm (Kd.R_below (by (with_reducible repeat (first|apply zo|apply zp|apply zq));exact HL298_0.out) hb)
                      have n3_:=zm (Kd.R_below (by (with_reducible repeat (first|apply zo|apply zp|apply zq));exact HL323_0.out) hb)
                      have n4_:=zm (Kd.C_below (Kd.C_drewN (Kd.C_drewN HR295_0.out _) _) hb)
                      have n5_:=zm (Kd.C_below (Kd.C_drewN (Kd.C_drewN HR296_0.out _) _) hb)
                      have n6_:=zm (Kd.C_below (Kd.C_drewN (Kd.C_drewN HR298_0.out _) _) hb)
                      have n7_:=zm (Kd.C_below (Kd.C_drewN (Kd.C_drewN HR323_0.out _) _) hb)
                      have n8_:=zm (zJ (by repeat (first|(with_reducible first|exact HB.out|apply ze|apply zd|apply zf)|exact HB.out)) hb)
                      clear HO_7;clear HL296_0;clear HL298_0;clear HL323_0;clear HR295_0;clear HR296_0;clear HR298_0;clear HR323_0;clear HB;have HO_7:=n0_;have HL296_0:=n1_;have HL298_0:=n2_;have HL323_0:=n3_;have HR295_0:=n4_;have HR296_0:=n5_;have HR298_0:=n6_;have HR323_0:=n7_;have HB:=n8_;clear n0_ n1_ n2_ n3_ n4_ n5_ n6_ n7_ n8_
                      (try clear hb)
                      (try clear hb2)
                      (try clear hk)
                      (try clear hi)
                      refine hK.out _ _ ⟨HS0_,HS1_,HS2_,HS3_,((HB.out.cell (zb w _ hw300_0)).trans hw300_0),((HB.out.cell (zb w _ hw301_0)).trans hw301_0),((HB.out.cell (zb w _ hw322_0)).trans hw322_0),HS7_⟩ (fun hHeld => ?_)
                      clear hK K
                      refine norm_ (a' := ?_) ?_ ?_
                      rotate_left
                      ·
                       show Act.put _ (some 111) _=_
                       simp only [Act.put,List.setIfInBounds_toArray,List.set_cons_zero,List.set_cons_succ,i64_w,i32_w]
                       rfl
                      refine pure_ (i:=67) (N:=some 112) (v := ?_) (a' := ?_) spz_m68 rfl rfl (any_of HT_.out (by kernel_rfl)) (fun _ _ _ h=>h) (Or.inl ⟨by rfl, ?_⟩) ?_ ?_
                      rotate_left
                      ·
                       intro w'
                       go_simp
                       with_reducible rfl
                      rotate_left
                      ·
                       simp only [Act.put,List.setIfInBounds_toArray,List.set_cons_zero,List.set_cons_succ,i64_w,i32_w]
                       rfl
                      refine done_ (done_of HT_.out (by kernel_rfl)) ?_
                      try go_wp2
                      go_roundg k2
                      case measure=>have:=HK1.out;have:=HK2.out;omega
                      case rel=>exact ⟨(wrap64 (x10_2+1)),(by first|rfl|(simp;done)|(simp [*];done)),H',⟨by have:=HK1.out;have:=HK2.out;omega⟩,⟨by (with_reducible repeat (first|apply Kd.S_alloc|apply Kd.S_drewN|apply Kd.S_drew));exact HO_7.out⟩,⟨by repeat (first|(with_reducible exact HR295_0.out)|(with_reducible refine Kd.C_alloc ?_ _)|(with_reducible refine Kd.C_drewN ?_ _)|(with_reducible refine Kd.C_drew ?_)|exact HR295_0.out)⟩,⟨by repeat (first|(with_reducible first|exact HB.out|apply ze|apply zd|apply zf)|exact HB.out)⟩⟩
                  ·
                   rw [if_neg c23] at H
                   exact absurd H (by simp)
                 ·
                  rw [if_neg c22] at H
                  exact absurd H (by simp)
              ·
               rw [if_neg c19] at H
               exact absurd H (by simp)
             ·
              rw [if_neg c18] at H
              exact absurd H (by simp)
            ·
             rw [if_neg c17] at H
             exact absurd H (by simp)
           ·
            rw [if_neg c16] at H
            exact absurd H (by simp)
          ·
           rw [if_neg c15] at H
           have c15b0 : decide (x10_2 < 5)=false:=decide_eq_false c15
           clear c15
           have H' := zm H
           clear H
           go_wp2
           go_roundg k2
           case measure=>have:=HK1.out;have:=HK2.out;omega
           case rel=>exact ⟨(wrap64 (x9_1+1)),(by first|rfl|(simp;done)|(simp [*];done)),H',⟨by have:=HK1.out;have:=HK2.out;omega⟩,⟨by (with_reducible repeat (first|apply Kd.S_alloc|apply Kd.S_drewN|apply Kd.S_drew));exact HO_7.out⟩,⟨by repeat (first|(with_reducible first|exact HB.out|apply ze|apply zd|apply zf)|exact HB.out)⟩⟩
       ·
        rw [if_neg c13] at H
        exact absurd H (by simp)
      ·
       rw [if_neg c12] at H
       exact absurd H (by simp)
     ·
      rw [if_neg c11] at H
      have c11b0 : decide (x9_1 < (t289.length : Int))=false:=decide_eq_false c11
      clear c11
      replace H:=Option.bind_eq_some_iff.mp H
      obtain ⟨t294,A520,H⟩:=H
      replace H : (some t294)=some r:=H
      have A52:=zm A520;clear A520
      obtain rfl:=Option.some.inj H
      obtain ⟨Ao53,co53,eo53⟩:=Kd.S_slice HO_7.out
      subst eo53
      go_wp2_with (first|((with_reducible refine gate_callee (f:=13) rfl ?_);refine goesL_ (some 113) rfl rfl Try.func13 (by kernel_rfl) rfl #[] rfl (by (try simp only [List.map_toArray,List.map_cons,List.map_nil]);first|done|rfl|(simp only [List.length_drop,List.length_take];rfl)) ?_;(with_reducible refine (psalterylaw12_knows.calls k1  t294 _ A52.out).mono ?_);rintro e w54 ⟨rfl,hb⟩;refine ⟨_,rfl, ?_⟩;have n0_:=zm (Kd.S_below (by (with_reducible repeat (first|apply Kd.S_alloc|apply Kd.S_drewN|apply Kd.S_drew));exact HO_7.out) hb);have n1_:=zm (zJ (by repeat (first|(with_reducible first|exact HB.out|apply ze|apply zd|apply zf)|exact HB.out)) hb);clear HO_7;clear HB;have HO_7:=n0_;have HB:=n1_;clear n0_ n1_;(try clear hb);(try clear hb2);(try clear hk);(try clear hi)))
      go_ret
      exact ⟨by first|rfl|(simp [errW_none,errW_some] <;> rfl)|(simp [*,errW_none,errW_some] <;> rfl),by repeat (first|(with_reducible first|exact HB.out|apply ze|apply zd|apply zf)|exact HB.out)⟩
  ·
   rw [if_neg c9] at H
   have c9b0 : (t290 == 0)=false:=beq_eq_false_iff_ne.mpr c9
   have c9b1 : (t290 != 0)=true:=bne_iff_ne.mpr c9
   by_cases c55 : (t289.length : Int)=0
   ·
    rw [if_pos c55] at H
    have c55b0 : ((t289.length : Int) == 0)=true:=beq_iff_eq.mpr c55
    have c55b1 : ((t289.length : Int) != 0)=false:=bne_eq_false_iff_eq.mpr c55
    clear c55
    replace H:=Option.bind_eq_some_iff.mp H
    obtain ⟨t293,A560,H⟩:=H
    replace H : (some t293)=some r:=H
    have A56:=zm A560;clear A560
    obtain rfl:=Option.some.inj H
    go_enter Try.func6,Try.ntmps6
    go_wp2_with (first|((with_reducible refine gate_callee (f:=14) rfl ?_);refine goesL_ (some 12) rfl rfl Try.func14 (by kernel_rfl) rfl #[.slice A2 l2.length c2] rfl (by (try simp only [List.map_toArray,List.map_cons,List.map_nil]);first|done|rfl|(simp only [List.length_drop,List.length_take];rfl)) ?_;(with_reducible refine (psalterylaw12_great.calls k _ _ l2 false _ ?side1 ?side2 A4.out).mono ?_);(case side1=>repeat (first|exact HR2.out|(with_reducible refine Kd.C_alloc ?_ _)|(with_reducible refine Kd.C_drewN ?_ _)|(with_reducible refine Kd.C_drew ?_)));(case side2=>exact HC2.out);rintro e w' ⟨rfl,⟨nd,rfl⟩⟩;refine ⟨_,rfl, ?_⟩)|((with_reducible refine gate_callee (f:=15) rfl ?_);refine goesL_ (some 18) rfl rfl Try.func15 (by kernel_rfl) rfl #[.int .i64 a0, .int .i64 a1, .slice A2 l2.length c2] rfl (by (try simp only [List.map_toArray,List.map_cons,List.map_nil]);first|done|rfl|(simp only [List.length_drop,List.length_take];rfl)) ?_;(with_reducible refine (alloc_Pulses.calls k a0 a1 _ _ l2 t289 t290 _ ?side1 ?side2 A8.out).mono ?_);(case side1=>repeat (first|exact HR2.out|(with_reducible refine Kd.C_alloc ?_ _)|(with_reducible refine Kd.C_drewN ?_ _)|(with_reducible refine Kd.C_drew ?_)));(case side2=>exact HC2.out);rintro e w57 ⟨v291,rfl,ho0,hb⟩;refine ⟨_,rfl, ?_⟩;have n0_:=zm (Kd.S_lower ho0 (zE (by repeat (first|(with_reducible first|exact HB.out|apply ze|apply zd|apply zf)|exact HB.out))));have n1_:=zm (zJ (by repeat (first|(with_reducible first|exact HB.out|apply ze|apply zd|apply zf)|exact HB.out)) hb);clear HB;have HO292:=n0_;have HB:=n1_;clear n0_ n1_;(try clear hb);(try clear hb2);(try clear hk);(try clear hi);(try clear ho0);obtain ⟨Ao58,co58,eo58⟩:=Kd.S_slice HO292.out;subst eo58)|(go_at_call 13;(with_reducible refine (psalterylaw12_knows.calls k  t293 _ A56.out).mono ?_);rintro e w59 ⟨rfl,hb⟩;have n0_:=zm (Kd.S_below (by (with_reducible repeat (first|apply Kd.S_alloc|apply Kd.S_drewN|apply Kd.S_drew));exact HO292.out) hb);have n1_:=zm (zJ (by repeat (first|(with_reducible first|exact HB.out|apply ze|apply zd|apply zf)|exact HB.out)) hb);clear HO292;clear HB;have HO292:=n0_;have HB:=n1_;clear n0_ n1_;(try clear hb);(try clear hb2);(try clear hk);(try clear hi)))
    go_ret
    exact ⟨by first|rfl|(simp [errW_none,errW_some] <;> rfl)|(simp [*,errW_none,errW_some] <;> rfl),by repeat (first|(with_reducible first|exact HB.out|apply ze|apply zd|apply zf)|exact HB.out)⟩
   ·
    rw [if_neg c55] at H
    exact absurd H (by simp)

end Go.Proofs.Ytbaaedpjaanjnaa.Prt
