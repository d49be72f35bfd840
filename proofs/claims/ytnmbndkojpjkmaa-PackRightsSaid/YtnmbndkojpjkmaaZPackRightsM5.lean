-- Functions of the program and of the document as plain Lean, each with the proof that the code comes to it. Written by a program of this session (wip/tools/myprint.py, pack.py) over the kit's printer; Lean checks it.
import Derived.Test.YtnmbndkojpjkmaaZPackRightsPrt0
import Derived.Test.YtnmbndkojpjkmaaZPackRightsM3
import Derived.Test.YtnmbndkojpjkmaaZPackRightsM1
import Derived.Test.YtnmbndkojpjkmaaZPackRightsM4
import Derived.Test.YtnmbndkojpjkmaaZPackRightsSh
namespace Go.Proofs.Ytnmbndkojpjkmaa.Prt
open Go.RowKit Go.Proofs.YtnmbndkojpjkmaaW.PrintWords Go.Proofs.YtnmbndkojpjkmaaW.PrintLast Go.Proofs.YtnmbndkojpjkmaaW.PrintMore
attribute [local go_sem] max2_int min2_int max_two min_two max_three min_three max_four min_four   -- for this text's walks alone
set_option linter.unusedVariables false
set_option linter.unusedSimpArgs false

/-! ### psalterylaw13_knows: function 11 -/
def psalterylaw13_knows.f (k : Nat)  : Option (Bool):=(some (([(([0,0,0,0,0] : List Int))] : List (List Int)) : List (List Int))).bind fun y592=>((some (([(([(([0] : List Int)),(([0] : List Int)),(([0,0] : List Int)),(([0,0,0,0] : List Int)),(([0,0,0,0,0,0,0,0] : List Int))] : List (List Int)))] : List (List (List Int))) : List (List (List Int)))).bind fun y613=>((cpack_Write.f k 11 1 true y592 y613 ([] : List (List Int))).bind fun bt617=>((cpack_Read.f k 11 1 bt617.1 ([] : List (List Int))).bind fun bt621=>((cpack_Read.f k 11 1 (List.replicate 11 0) (([(([9,2,3,4,5] : List Int))] : List (List Int)))).bind fun bt639=>(if (bt617.1.length : Int)=11 then (if bt617.2=0 then ((psalterylaw13_As.f bt621.1 bt621.2.1 bt621.2.2.1).bind fun bt648=>((psalterylaw13_As.f true y592 y613).bind fun bt655=>((psalteryref13_Same.f k bt648.1 bt648.2.1 bt648.2.2 bt655.1 bt655.2.1 bt655.2.2).bind fun t662=>(if t662=true then (if bt621.2.2.2=0 then (if bt639.1=true then (none) else ((psalteryref12_Same.f k bt639.2.1 (([(([6,0,0,1,2] : List Int))] : List (List Int)))).bind fun t669=>(if t669=true then (if bt639.2.2.2=0 then ((cpack_Right.f k 11 1 true y592 y613).bind fun t670=>(some t670)) else (none)) else (none)))) else (none)) else (none))))) else (none)) else (none))))))
theorem psalterylaw13_knows.mono : ∀ k,LeO (psalterylaw13_knows.f k ) (psalterylaw13_knows.f (k+1) ):=by
 intro  k
 unfold psalterylaw13_knows.f
 repeat' first
   | (with_reducible exact cpack_Read.mono _ _ _ _ _)
   | (with_reducible exact cpack_Right.mono _ _ _ _ _ _)
   | (with_reducible exact cpack_Write.mono _ _ _ _ _ _ _)
   | (with_reducible exact psalteryref12_Same.mono _ _ _)
   | (with_reducible exact psalteryref13_Same.mono _ _ _ _ _ _ _)
   | (with_reducible exact LeO.refl _)
   | (with_reducible exact LeO.none _)
   | (with_reducible refine LeO.ite ?_ ?_)
   | (with_reducible refine LeO.bind ?_ (fun _ => ?_))
   | exact cpack_Read.mono _ _ _ _ _
   | exact cpack_Right.mono _ _ _ _ _ _
   | exact cpack_Write.mono _ _ _ _ _ _ _
   | exact psalteryref12_Same.mono _ _ _
   | exact psalteryref13_Same.mono _ _ _ _ _ _ _
   | exact LeO.none _
   | refine LeO.ite ?_ ?_
   | refine LeO.bind ?_ (fun _ => ?_)
def psalterylaw13_knows.T5 : Bool × List (List Nat × List Nat):=(true, [([], []),([0], [0]),([1], [1]),([2], [2]),([3], [3]),([4,3], [3,4]),([3,5], [3,5]),([6,3], [6]),([7], [7]),([8,7,7], [7,8]),([7], [7]),([10,9,7], [7,10]),([9,11,11,7], [7,9,11]),([7,12], [7,12]),([13,12], [13]),([14], [14]),([15,14], [14,15]),([14,16], [14,16]),([17,14], [17]),([18], [18]),([19,18], [18,19]),([20,18], [18,20]),([18,21], [18,21]),([22,18], [22]),([23], [23]),([24,23], [23,24]),([23], [23]),([26,23], [23,26]),([25,27,23,23], [23,25,27]),([23,28], [23,28]),([29,28], [29]),([30], [30]),([31,30], [30,31]),([30,32], [30,32]),([33,30], [33]),([34], [34]),([35,34,34], [34,35]),([34,36], [34,36]),([37,36,0,1,2,3,4,5,6,7,8,9,10,11,12,13,14,15,16,17,18,19,20,21,22,23,24,25,26,27,28,29,30,31,32,33,34,35,36,37], [37])])
def psalterylaw13_knows.B5 : List Nat := [0,1,3,7,15,31,63,127,255,511,255,2047,4095,8191,16383,32767,65535,131071,262143,524287,1048575,2097151,4194303,8388607,16777215,33554431,16777215,83886079,268435455,536870911,1073741823,2147483647,4294967295,8589934591,17179869183,34359738367,68719476735,137438953471,274877906943]
theorem psalterylaw13_knows.tab5 : rtab .any (opsOf Try.f11 5)=psalterylaw13_knows.T5:=by kernel_rfl
theorem psalterylaw13_knows.bits5 : waitsOk psalterylaw13_knows.T5.2 psalterylaw13_knows.B5=true:=by kernel_rfl
set_option maxHeartbeats 8000000 in
set_option maxRecDepth 100000 in
theorem psalterylaw13_knows.calls (k : Nat)  (r : Bool) (w : World) (h : psalterylaw13_knows.f k  = some r) :
  Calls Try.prog 11 #[] w fun e w' => e=.returned (.bool r)∧Below w.heap.size w w' := by
 have hu25:=Try.underlying25;have HB:=zm (Below.refl w.heap.size w)
 have H : ((some (([(([0,0,0,0,0] : List Int))] : List (List Int)) : List (List Int))).bind fun y592=>((some (([(([(([0] : List Int)),(([0] : List Int)),(([0,0] : List Int)),(([0,0,0,0] : List Int)),(([0,0,0,0,0,0,0,0] : List Int))] : List (List Int)))] : List (List (List Int))) : List (List (List Int)))).bind fun y613=>((cpack_Write.f k 11 1 true y592 y613 ([] : List (List Int))).bind fun bt617=>((cpack_Read.f k 11 1 bt617.1 ([] : List (List Int))).bind fun bt621=>((cpack_Read.f k 11 1 (List.replicate 11 0) (([(([9,2,3,4,5] : List Int))] : List (List Int)))).bind fun bt639=>(if (bt617.1.length : Int)=11 then (if bt617.2=0 then ((psalterylaw13_As.f bt621.1 bt621.2.1 bt621.2.2.1).bind fun bt648=>((psalterylaw13_As.f true y592 y613).bind fun bt655=>((psalteryref13_Same.f k bt648.1 bt648.2.1 bt648.2.2 bt655.1 bt655.2.1 bt655.2.2).bind fun t662=>(if t662=true then (if bt621.2.2.2=0 then (if bt639.1=true then (none) else ((psalteryref12_Same.f k bt639.2.1 (([(([6,0,0,1,2] : List Int))] : List (List Int)))).bind fun t669=>(if t669=true then (if bt639.2.2.2=0 then ((cpack_Right.f k 11 1 true y592 y613).bind fun t670=>(some t670)) else (none)) else (none)))) else (none)) else (none))))) else (none)) else (none)))))))=some r:=h
 clear h
 obtain ⟨y589,hy589⟩ : ∃ y_ : List Int,y_=(([0,0,0,0,0] : List Int)):=⟨_,rfl⟩
 replace H : ((some (([y589] : List (List Int)) : List (List Int))).bind fun y592=>((some (([(([(([0] : List Int)),(([0] : List Int)),(([0,0] : List Int)),(([0,0,0,0] : List Int)),(([0,0,0,0,0,0,0,0] : List Int))] : List (List Int)))] : List (List (List Int))) : List (List (List Int)))).bind fun y613=>((cpack_Write.f k 11 1 true y592 y613 ([] : List (List Int))).bind fun bt617=>((cpack_Read.f k 11 1 bt617.1 ([] : List (List Int))).bind fun bt621=>((cpack_Read.f k 11 1 (List.replicate 11 0) (([(([9,2,3,4,5] : List Int))] : List (List Int)))).bind fun bt639=>(if (bt617.1.length : Int)=11 then (if bt617.2=0 then ((psalterylaw13_As.f bt621.1 bt621.2.1 bt621.2.2.1).bind fun bt648=>((psalterylaw13_As.f true y592 y613).bind fun bt655=>((psalteryref13_Same.f k bt648.1 bt648.2.1 bt648.2.2 bt655.1 bt655.2.1 bt655.2.2).bind fun t662=>(if t662=true then (if bt621.2.2.2=0 then (if bt639.1=true then (none) else ((psalteryref12_Same.f k bt639.2.1 (([(([6,0,0,1,2] : List Int))] : List (List Int)))).bind fun t669=>(if t669=true then (if bt639.2.2.2=0 then ((cpack_Right.f k 11 1 true y592 y613).bind fun t670=>(some t670)) else (none)) else (none)))) else (none)) else (none))))) else (none)) else (none)))))))=some r:=yrw hy589 H
 have Ny589:=zm hy589;clear hy589
 obtain ⟨y592,hy592⟩ : ∃ y_ : List (List Int),y_=(([y589] : List (List Int))):=⟨_,rfl⟩
 replace H : ((some (([(([(([0] : List Int)),(([0] : List Int)),(([0,0] : List Int)),(([0,0,0,0] : List Int)),(([0,0,0,0,0,0,0,0] : List Int))] : List (List Int)))] : List (List (List Int))) : List (List (List Int)))).bind fun y613=>((cpack_Write.f k 11 1 true y592 y613 ([] : List (List Int))).bind fun bt617=>((cpack_Read.f k 11 1 bt617.1 ([] : List (List Int))).bind fun bt621=>((cpack_Read.f k 11 1 (List.replicate 11 0) (([(([9,2,3,4,5] : List Int))] : List (List Int)))).bind fun bt639=>(if (bt617.1.length : Int)=11 then (if bt617.2=0 then ((psalterylaw13_As.f bt621.1 bt621.2.1 bt621.2.2.1).bind fun bt648=>((psalterylaw13_As.f true y592 y613).bind fun bt655=>((psalteryref13_Same.f k bt648.1 bt648.2.1 bt648.2.2 bt655.1 bt655.2.1 bt655.2.2).bind fun t662=>(if t662=true then (if bt621.2.2.2=0 then (if bt639.1=true then (none) else ((psalteryref12_Same.f k bt639.2.1 (([(([6,0,0,1,2] : List Int))] : List (List Int)))).bind fun t669=>(if t669=true then (if bt639.2.2.2=0 then ((cpack_Right.f k 11 1 true y592 y613).bind fun t670=>(some t670)) else (none)) else (none)))) else (none)) else (none))))) else (none)) else (none))))))=some r:=yrw hy592 H
 have Ny592:=zm hy592;clear hy592
 obtain ⟨y595,hy595⟩ : ∃ y_ : List Int,y_=(([0] : List Int)):=⟨_,rfl⟩
 replace H : ((some (([(([y595,(([0] : List Int)),(([0,0] : List Int)),(([0,0,0,0] : List Int)),(([0,0,0,0,0,0,0,0] : List Int))] : List (List Int)))] : List (List (List Int))) : List (List (List Int)))).bind fun y613=>((cpack_Write.f k 11 1 true y592 y613 ([] : List (List Int))).bind fun bt617=>((cpack_Read.f k 11 1 bt617.1 ([] : List (List Int))).bind fun bt621=>((cpack_Read.f k 11 1 (List.replicate 11 0) (([(([9,2,3,4,5] : List Int))] : List (List Int)))).bind fun bt639=>(if (bt617.1.length : Int)=11 then (if bt617.2=0 then ((psalterylaw13_As.f bt621.1 bt621.2.1 bt621.2.2.1).bind fun bt648=>((psalterylaw13_As.f true y592 y613).bind fun bt655=>((psalteryref13_Same.f k bt648.1 bt648.2.1 bt648.2.2 bt655.1 bt655.2.1 bt655.2.2).bind fun t662=>(if t662=true then (if bt621.2.2.2=0 then (if bt639.1=true then (none) else ((psalteryref12_Same.f k bt639.2.1 (([(([6,0,0,1,2] : List Int))] : List (List Int)))).bind fun t669=>(if t669=true then (if bt639.2.2.2=0 then ((cpack_Right.f k 11 1 true y592 y613).bind fun t670=>(some t670)) else (none)) else (none)))) else (none)) else (none))))) else (none)) else (none))))))=some r:=yrw hy595 H
 have Ny595:=zm hy595;clear hy595
 obtain ⟨y598,hy598⟩ : ∃ y_ : List Int,y_=(([0] : List Int)):=⟨_,rfl⟩
 replace H : ((some (([(([y595,y598,(([0,0] : List Int)),(([0,0,0,0] : List Int)),(([0,0,0,0,0,0,0,0] : List Int))] : List (List Int)))] : List (List (List Int))) : List (List (List Int)))).bind fun y613=>((cpack_Write.f k 11 1 true y592 y613 ([] : List (List Int))).bind fun bt617=>((cpack_Read.f k 11 1 bt617.1 ([] : List (List Int))).bind fun bt621=>((cpack_Read.f k 11 1 (List.replicate 11 0) (([(([9,2,3,4,5] : List Int))] : List (List Int)))).bind fun bt639=>(if (bt617.1.length : Int)=11 then (if bt617.2=0 then ((psalterylaw13_As.f bt621.1 bt621.2.1 bt621.2.2.1).bind fun bt648=>((psalterylaw13_As.f true y592 y613).bind fun bt655=>((psalteryref13_Same.f k bt648.1 bt648.2.1 bt648.2.2 bt655.1 bt655.2.1 bt655.2.2).bind fun t662=>(if t662=true then (if bt621.2.2.2=0 then (if bt639.1=true then (none) else ((psalteryref12_Same.f k bt639.2.1 (([(([6,0,0,1,2] : List Int))] : List (List Int)))).bind fun t669=>(if t669=true then (if bt639.2.2.2=0 then ((cpack_Right.f k 11 1 true y592 y613).bind fun t670=>(some t670)) else (none)) else (none)))) else (none)) else (none))))) else (none)) else (none))))))=some r:=yrw hy598 H
 have Ny598:=zm hy598;clear hy598
 obtain ⟨y601,hy601⟩ : ∃ y_ : List Int,y_=(([0,0] : List Int)):=⟨_,rfl⟩
 replace H : ((some (([(([y595,y598,y601,(([0,0,0,0] : List Int)),(([0,0,0,0,0,0,0,0] : List Int))] : List (List Int)))] : List (List (List Int))) : List (List (List Int)))).bind fun y613=>((cpack_Write.f k 11 1 true y592 y613 ([] : List (List Int))).bind fun bt617=>((cpack_Read.f k 11 1 bt617.1 ([] : List (List Int))).bind fun bt621=>((cpack_Read.f k 11 1 (List.replicate 11 0) (([(([9,2,3,4,5] : List Int))] : List (List Int)))).bind fun bt639=>(if (bt617.1.length : Int)=11 then (if bt617.2=0 then ((psalterylaw13_As.f bt621.1 bt621.2.1 bt621.2.2.1).bind fun bt648=>((psalterylaw13_As.f true y592 y613).bind fun bt655=>((psalteryref13_Same.f k bt648.1 bt648.2.1 bt648.2.2 bt655.1 bt655.2.1 bt655.2.2).bind fun t662=>(if t662=true then (if bt621.2.2.2=0 then (if bt639.1=true then (none) else ((psalteryref12_Same.f k bt639.2.1 (([(([6,0,0,1,2] : List Int))] : List (List Int)))).bind fun t669=>(if t669=true then (if bt639.2.2.2=0 then ((cpack_Right.f k 11 1 true y592 y613).bind fun t670=>(some t670)) else (none)) else (none)))) else (none)) else (none))))) else (none)) else (none))))))=some r:=yrw hy601 H
 have Ny601:=zm hy601;clear hy601
 obtain ⟨y604,hy604⟩ : ∃ y_ : List Int,y_=(([0,0,0,0] : List Int)):=⟨_,rfl⟩
 replace H : ((some (([(([y595,y598,y601,y604,(([0,0,0,0,0,0,0,0] : List Int))] : List (List Int)))] : List (List (List Int))) : List (List (List Int)))).bind fun y613=>((cpack_Write.f k 11 1 true y592 y613 ([] : List (List Int))).bind fun bt617=>((cpack_Read.f k 11 1 bt617.1 ([] : List (List Int))).bind fun bt621=>((cpack_Read.f k 11 1 (List.replicate 11 0) (([(([9,2,3,4,5] : List Int))] : List (List Int)))).bind fun bt639=>(if (bt617.1.length : Int)=11 then (if bt617.2=0 then ((psalterylaw13_As.f bt621.1 bt621.2.1 bt621.2.2.1).bind fun bt648=>((psalterylaw13_As.f true y592 y613).bind fun bt655=>((psalteryref13_Same.f k bt648.1 bt648.2.1 bt648.2.2 bt655.1 bt655.2.1 bt655.2.2).bind fun t662=>(if t662=true then (if bt621.2.2.2=0 then (if bt639.1=true then (none) else ((psalteryref12_Same.f k bt639.2.1 (([(([6,0,0,1,2] : List Int))] : List (List Int)))).bind fun t669=>(if t669=true then (if bt639.2.2.2=0 then ((cpack_Right.f k 11 1 true y592 y613).bind fun t670=>(some t670)) else (none)) else (none)))) else (none)) else (none))))) else (none)) else (none))))))=some r:=yrw hy604 H
 have Ny604:=zm hy604;clear hy604
 obtain ⟨y607,hy607⟩ : ∃ y_ : List Int,y_=(([0,0,0,0,0,0,0,0] : List Int)):=⟨_,rfl⟩
 replace H : ((some (([(([y595,y598,y601,y604,y607] : List (List Int)))] : List (List (List Int))) : List (List (List Int)))).bind fun y613=>((cpack_Write.f k 11 1 true y592 y613 ([] : List (List Int))).bind fun bt617=>((cpack_Read.f k 11 1 bt617.1 ([] : List (List Int))).bind fun bt621=>((cpack_Read.f k 11 1 (List.replicate 11 0) (([(([9,2,3,4,5] : List Int))] : List (List Int)))).bind fun bt639=>(if (bt617.1.length : Int)=11 then (if bt617.2=0 then ((psalterylaw13_As.f bt621.1 bt621.2.1 bt621.2.2.1).bind fun bt648=>((psalterylaw13_As.f true y592 y613).bind fun bt655=>((psalteryref13_Same.f k bt648.1 bt648.2.1 bt648.2.2 bt655.1 bt655.2.1 bt655.2.2).bind fun t662=>(if t662=true then (if bt621.2.2.2=0 then (if bt639.1=true then (none) else ((psalteryref12_Same.f k bt639.2.1 (([(([6,0,0,1,2] : List Int))] : List (List Int)))).bind fun t669=>(if t669=true then (if bt639.2.2.2=0 then ((cpack_Right.f k 11 1 true y592 y613).bind fun t670=>(some t670)) else (none)) else (none)))) else (none)) else (none))))) else (none)) else (none))))))=some r:=yrw hy607 H
 have Ny607:=zm hy607;clear hy607
 obtain ⟨y610,hy610⟩ : ∃ y_ : List (List Int),y_=(([y595,y598,y601,y604,y607] : List (List Int))):=⟨_,rfl⟩
 replace H : ((some (([y610] : List (List (List Int))) : List (List (List Int)))).bind fun y613=>((cpack_Write.f k 11 1 true y592 y613 ([] : List (List Int))).bind fun bt617=>((cpack_Read.f k 11 1 bt617.1 ([] : List (List Int))).bind fun bt621=>((cpack_Read.f k 11 1 (List.replicate 11 0) (([(([9,2,3,4,5] : List Int))] : List (List Int)))).bind fun bt639=>(if (bt617.1.length : Int)=11 then (if bt617.2=0 then ((psalterylaw13_As.f bt621.1 bt621.2.1 bt621.2.2.1).bind fun bt648=>((psalterylaw13_As.f true y592 y613).bind fun bt655=>((psalteryref13_Same.f k bt648.1 bt648.2.1 bt648.2.2 bt655.1 bt655.2.1 bt655.2.2).bind fun t662=>(if t662=true then (if bt621.2.2.2=0 then (if bt639.1=true then (none) else ((psalteryref12_Same.f k bt639.2.1 (([(([6,0,0,1,2] : List Int))] : List (List Int)))).bind fun t669=>(if t669=true then (if bt639.2.2.2=0 then ((cpack_Right.f k 11 1 true y592 y613).bind fun t670=>(some t670)) else (none)) else (none)))) else (none)) else (none))))) else (none)) else (none))))))=some r:=yrw hy610 H
 have Ny610:=zm hy610;clear hy610
 obtain ⟨y613,hy613⟩ : ∃ y_ : List (List (List Int)),y_=(([y610] : List (List (List Int)))):=⟨_,rfl⟩
 replace H : ((cpack_Write.f k 11 1 true y592 y613 ([] : List (List Int))).bind fun bt617=>((cpack_Read.f k 11 1 bt617.1 ([] : List (List Int))).bind fun bt621=>((cpack_Read.f k 11 1 (List.replicate 11 0) (([(([9,2,3,4,5] : List Int))] : List (List Int)))).bind fun bt639=>(if (bt617.1.length : Int)=11 then (if bt617.2=0 then ((psalterylaw13_As.f bt621.1 bt621.2.1 bt621.2.2.1).bind fun bt648=>((psalterylaw13_As.f true y592 y613).bind fun bt655=>((psalteryref13_Same.f k bt648.1 bt648.2.1 bt648.2.2 bt655.1 bt655.2.1 bt655.2.2).bind fun t662=>(if t662=true then (if bt621.2.2.2=0 then (if bt639.1=true then (none) else ((psalteryref12_Same.f k bt639.2.1 (([(([6,0,0,1,2] : List Int))] : List (List Int)))).bind fun t669=>(if t669=true then (if bt639.2.2.2=0 then ((cpack_Right.f k 11 1 true y592 y613).bind fun t670=>(some t670)) else (none)) else (none)))) else (none)) else (none))))) else (none)) else (none)))))=some r:=yrw hy613 H
 have Ny613:=zm hy613;clear hy613
 obtain ⟨⟨t617,t620⟩,A1,H⟩:=ybi H
 try dsimp only at H
 obtain ⟨⟨t621,t622,t625,t628⟩,A2,H⟩:=ybi H
 try dsimp only at H
 obtain ⟨y630,hy630⟩ : ∃ y_ : List Int,y_=(List.replicate 11 0):=⟨_,rfl⟩
 replace H : ((cpack_Read.f k 11 1 y630 (([(([9,2,3,4,5] : List Int))] : List (List Int)))).bind fun bt639=>(if (t617.length : Int)=11 then (if t620=0 then ((psalterylaw13_As.f t621 t622 t625).bind fun bt648=>((psalterylaw13_As.f true y592 y613).bind fun bt655=>((psalteryref13_Same.f k bt648.1 bt648.2.1 bt648.2.2 bt655.1 bt655.2.1 bt655.2.2).bind fun t662=>(if t662=true then (if t628=0 then (if bt639.1=true then (none) else ((psalteryref12_Same.f k bt639.2.1 (([(([6,0,0,1,2] : List Int))] : List (List Int)))).bind fun t669=>(if t669=true then (if bt639.2.2.2=0 then ((cpack_Right.f k 11 1 true y592 y613).bind fun t670=>(some t670)) else (none)) else (none)))) else (none)) else (none))))) else (none)) else (none)))=some r:=yrw hy630 H
 have Ny630:=zm hy630;clear hy630
 obtain ⟨y633,hy633⟩ : ∃ y_ : List Int,y_=(([9,2,3,4,5] : List Int)):=⟨_,rfl⟩
 replace H : ((cpack_Read.f k 11 1 y630 (([y633] : List (List Int)))).bind fun bt639=>(if (t617.length : Int)=11 then (if t620=0 then ((psalterylaw13_As.f t621 t622 t625).bind fun bt648=>((psalterylaw13_As.f true y592 y613).bind fun bt655=>((psalteryref13_Same.f k bt648.1 bt648.2.1 bt648.2.2 bt655.1 bt655.2.1 bt655.2.2).bind fun t662=>(if t662=true then (if t628=0 then (if bt639.1=true then (none) else ((psalteryref12_Same.f k bt639.2.1 (([(([6,0,0,1,2] : List Int))] : List (List Int)))).bind fun t669=>(if t669=true then (if bt639.2.2.2=0 then ((cpack_Right.f k 11 1 true y592 y613).bind fun t670=>(some t670)) else (none)) else (none)))) else (none)) else (none))))) else (none)) else (none)))=some r:=yrw hy633 H
 have Ny633:=zm hy633;clear hy633
 obtain ⟨y636,hy636⟩ : ∃ y_ : List (List Int),y_=(([y633] : List (List Int))):=⟨_,rfl⟩
 replace H : ((cpack_Read.f k 11 1 y630 y636).bind fun bt639=>(if (t617.length : Int)=11 then (if t620=0 then ((psalterylaw13_As.f t621 t622 t625).bind fun bt648=>((psalterylaw13_As.f true y592 y613).bind fun bt655=>((psalteryref13_Same.f k bt648.1 bt648.2.1 bt648.2.2 bt655.1 bt655.2.1 bt655.2.2).bind fun t662=>(if t662=true then (if t628=0 then (if bt639.1=true then (none) else ((psalteryref12_Same.f k bt639.2.1 (([(([6,0,0,1,2] : List Int))] : List (List Int)))).bind fun t669=>(if t669=true then (if bt639.2.2.2=0 then ((cpack_Right.f k 11 1 true y592 y613).bind fun t670=>(some t670)) else (none)) else (none)))) else (none)) else (none))))) else (none)) else (none)))=some r:=yrw hy636 H
 have Ny636:=zm hy636;clear hy636
 obtain ⟨⟨t639,t640,t643,t646⟩,A3,H⟩:=ybi H
 try dsimp only at H
 by_cases c4 : (t617.length : Int)=11
 ·
  rw [if_pos c4] at H
  have c4b0 : ((t617.length : Int) == 11)=true:=beq_iff_eq.mpr c4
  have c4b1 : ((t617.length : Int) != 11)=false:=bne_eq_false_iff_eq.mpr c4
  clear c4
  by_cases c5 : t620=0
  ·
   rw [if_pos c5] at H
   have c5b0 : (t620 == 0)=true:=beq_iff_eq.mpr c5
   have c5b1 : (t620 != 0)=false:=bne_eq_false_iff_eq.mpr c5
   clear c5
   obtain ⟨⟨t648,t649,t652⟩,A6,H⟩:=ybi H
   try dsimp only at H
   obtain ⟨⟨t655,t656,t659⟩,A7,H⟩:=ybi H
   try dsimp only at H
   obtain ⟨t662,A8,H⟩:=ybi H
   by_cases c9 : t662=true
   ·
    subst c9
    rw [if_pos rfl] at H
    by_cases c10 : t628=0
    ·
     rw [if_pos c10] at H
     have c10b0 : (t628 == 0)=true:=beq_iff_eq.mpr c10
     have c10b1 : (t628 != 0)=false:=bne_eq_false_iff_eq.mpr c10
     clear c10
     by_cases c11 : t639=true
     ·
      subst c11
      rw [if_pos rfl] at H
      exact absurd H (by simp)
     ·
      replace c11:=Bool.eq_false_iff.mpr c11
      subst c11
      rw [ynf] at H
      obtain ⟨y663,hy663⟩ : ∃ y_ : List Int,y_=(([6,0,0,1,2] : List Int)):=⟨_,rfl⟩
      replace H : ((psalteryref12_Same.f k t640 (([y663] : List (List Int)))).bind fun t669=>(if t669=true then (if t646=0 then ((cpack_Right.f k 11 1 true y592 y613).bind fun t670=>(some t670)) else (none)) else (none)))=some r:=yrw hy663 H
      have Ny663:=zm hy663;clear hy663
      obtain ⟨y666,hy666⟩ : ∃ y_ : List (List Int),y_=(([y663] : List (List Int))):=⟨_,rfl⟩
      replace H : ((psalteryref12_Same.f k t640 y666).bind fun t669=>(if t669=true then (if t646=0 then ((cpack_Right.f k 11 1 true y592 y613).bind fun t670=>(some t670)) else (none)) else (none)))=some r:=yrw hy666 H
      have Ny666:=zm hy666;clear hy666
      obtain ⟨t669,A12,H⟩:=ybi H
      by_cases c13 : t669=true
      ·
       subst c13
       rw [if_pos rfl] at H
       by_cases c14 : t646=0
       ·
        rw [if_pos c14] at H
        have c14b0 : (t646 == 0)=true:=beq_iff_eq.mpr c14
        have c14b1 : (t646 != 0)=false:=bne_eq_false_iff_eq.mpr c14
        clear c14
        obtain ⟨t670,A15,H⟩:=ybi H
        obtain rfl:=Option.some.inj H
        go_enter Try.func11,Try.ntmps11
        try go_wp2_with (first|((with_reducible refine gate_dst (N:=8) rfl ?_);(try (refine gate_guard (by rfl) ?_;dsimp only));refine Kd.R_lit (Kd.int .i64) _ 3 ?hg (N:=8) ?hd (xs:=([0,0,0,0,0] : List Int)) (inner := [.int .i64 0, .int .i64 0, .int .i64 0, .int .i64 0, .int .i64 0]) (ok:=fun _=>True) (okp:=fun _=>True) ?hr ?hp (fun _ hk=>hk) trivial (Below.refl _ _) (Nat.le_refl _) (by simp) ?_;(case hd=>rfl);(case hg=>rfl);(case hr=>first|(go_simp;done)|(go_simp;rfl));(case hp=>exact (Reps.one (show Kd.M (Kd.int .i64) _ _ _ 0 [.int .i64 0] from rfl) (Reps.one (show Kd.M (Kd.int .i64) _ _ _ 0 [.int .i64 0] from rfl) (Reps.one (show Kd.M (Kd.int .i64) _ _ _ 0 [.int .i64 0] from rfl) (Reps.one (show Kd.M (Kd.int .i64) _ _ _ 0 [.int .i64 0] from rfl) (Reps.one (show Kd.M (Kd.int .i64) _ _ _ 0 [.int .i64 0] from rfl) (Reps.none _ _)))))));intro v590 w16 ho17 hb hg_ hnew_;clear hg_ hnew_;(first|rw [← Ny589.out] at ho17|(simp only [Int.reduceToNat] at ho17;rw [← Ny589.out] at ho17)|rw [show (List.replicate (Int.toNat 11) (0 : Int))=y589 from Ny589.out.symm] at ho17);have HO591:=zm (Kd.R_lower ho17 (zE yhb));replace HB:=ybs hb;clear hb ho17;obtain ⟨Ao18,co18,eo18⟩:=Kd.R_slice HO591.out;subst eo18)|((with_reducible refine gate_dst (N:=9) rfl ?_);(try (refine gate_guard (by rfl) ?_;dsimp only));refine Kd.N_lit (Kd.slice 3 (Kd.int .i64)) _ 49 ?hg (N' := 9) ?hd (xs:=([y589] : List (List Int))) (inner := [.slice Ao18 y589.length co18]) (ok:=(fun _=>True)) (okp:=(fun _=>True)) ?hr ?hp (fun _ hk=>hk) ((show ∀ k_,w16.heap.size≤k_→(fun _=>True) k_ from fun k_ hk=>trivial) _ (Nat.le_refl _)) (Below.refl _ _) (Nat.le_refl _) (by simp) ?_;(case hd=>rfl);(case hg=>rfl);(case hr=>first|(go_simp;done)|(go_simp;rfl));(case hp=>exact (Reps.one (show Kd.FK (Kd.slice 3 (Kd.int .i64)) _ _ y589 [.slice Ao18 y589.length co18] from (Kd.FK_slice_mk (Kd.R_reads' (zG (ok' := (fun _=>True)) (HO591.out) (fun k_ hk=>trivial))).2.1 (Kd.R_F (zG (ok' := (fun _=>True)) (HO591.out) (fun k_ hk=>trivial))))) (Reps.none _ _)));intro v593 w19 ho20 hb hg_ hnew_;clear hg_ hnew_;(first|rw [← Ny592.out] at ho20|(simp only [Int.reduceToNat] at ho20;rw [← Ny592.out] at ho20)|rw [show (List.replicate (Int.toNat 11) (0 : Int))=y592 from Ny592.out.symm] at ho20);have HO594:=zm (Kd.N_lower ho20 (zE yhb));replace HB:=ybs hb;clear HO591;clear hb ho20)|((with_reducible refine gate_dst (N:=10) rfl ?_);(try (refine gate_guard (by rfl) ?_;dsimp only));refine Kd.R_lit (Kd.int .i64) _ 3 ?hg (N:=10) ?hd (xs:=([0] : List Int)) (inner := [.int .i64 0]) (ok:=fun _=>True) (okp:=fun _=>True) ?hr ?hp (fun _ hk=>hk) trivial (Below.refl _ _) (Nat.le_refl _) (by simp) ?_;(case hd=>rfl);(case hg=>rfl);(case hr=>first|(go_simp;done)|(go_simp;rfl));(case hp=>exact (Reps.one (show Kd.M (Kd.int .i64) _ _ _ 0 [.int .i64 0] from rfl) (Reps.none _ _)));intro v596 w21 ho22 hb hg_ hnew_;clear hg_ hnew_;(first|rw [← Ny595.out] at ho22|(simp only [Int.reduceToNat] at ho22;rw [← Ny595.out] at ho22)|rw [show (List.replicate (Int.toNat 11) (0 : Int))=y595 from Ny595.out.symm] at ho22);replace HO594:=zm (Kd.N_elder' (yr HO594) (Kd.R_base ho22) hb);have HO597:=zm (Kd.R_lower ho22 (zE yhb));replace HB:=ybs hb;clear hb ho22)|((with_reducible refine gate_dst (N:=11) rfl ?_);(try (refine gate_guard (by rfl) ?_;dsimp only));refine Kd.R_lit (Kd.int .i64) _ 3 ?hg (N:=11) ?hd (xs:=([0] : List Int)) (inner := [.int .i64 0]) (ok:=fun _=>True) (okp:=fun _=>True) ?hr ?hp (fun _ hk=>hk) trivial (Below.refl _ _) (Nat.le_refl _) (by simp) ?_;(case hd=>rfl);(case hg=>rfl);(case hr=>first|(go_simp;done)|(go_simp;rfl));(case hp=>exact (Reps.one (show Kd.M (Kd.int .i64) _ _ _ 0 [.int .i64 0] from rfl) (Reps.none _ _)));intro v599 w23 ho24 hb hg_ hnew_;clear hg_ hnew_;(first|rw [← Ny598.out] at ho24|(simp only [Int.reduceToNat] at ho24;rw [← Ny598.out] at ho24)|rw [show (List.replicate (Int.toNat 11) (0 : Int))=y598 from Ny598.out.symm] at ho24);replace HO594:=zm (Kd.N_elder' (yr HO594) (Kd.R_base ho24) hb);have HO600:=zm (Kd.R_lower (Kd.R_new' ho24 (Kd.R_lt (yr HO597))) (zE yhb));replace HO597:=zm (Kd.R_elder' (yr HO597) (Kd.R_base ho24) hb);replace HB:=ybs hb;clear hb ho24)|((with_reducible refine gate_dst (N:=12) rfl ?_);(try (refine gate_guard (by rfl) ?_;dsimp only));refine Kd.R_lit (Kd.int .i64) _ 3 ?hg (N:=12) ?hd (xs:=([0,0] : List Int)) (inner := [.int .i64 0, .int .i64 0]) (ok:=fun _=>True) (okp:=fun _=>True) ?hr ?hp (fun _ hk=>hk) trivial (Below.refl _ _) (Nat.le_refl _) (by simp) ?_;(case hd=>rfl);(case hg=>rfl);(case hr=>first|(go_simp;done)|(go_simp;rfl));(case hp=>exact (Reps.one (show Kd.M (Kd.int .i64) _ _ _ 0 [.int .i64 0] from rfl) (Reps.one (show Kd.M (Kd.int .i64) _ _ _ 0 [.int .i64 0] from rfl) (Reps.none _ _))));intro v602 w25 ho26 hb hg_ hnew_;clear hg_ hnew_;(first|rw [← Ny601.out] at ho26|(simp only [Int.reduceToNat] at ho26;rw [← Ny601.out] at ho26)|rw [show (List.replicate (Int.toNat 11) (0 : Int))=y601 from Ny601.out.symm] at ho26);replace HO594:=zm (Kd.N_elder' (yr HO594) (Kd.R_base ho26) hb);have HO603:=zm (Kd.R_lower (Kd.R_new' (Kd.R_new' ho26 (Kd.R_lt (yr HO597))) (Kd.R_lt (yr HO600))) (zE yhb));replace HO597:=zm (Kd.R_elder' (yr HO597) (Kd.R_base ho26) hb);replace HO600:=zm (Kd.R_elder' (yr HO600) (Kd.R_base ho26) hb);replace HB:=ybs hb;clear hb ho26)|((with_reducible refine gate_dst (N:=13) rfl ?_);(try (refine gate_guard (by rfl) ?_;dsimp only));refine Kd.R_lit (Kd.int .i64) _ 3 ?hg (N:=13) ?hd (xs:=([0,0,0,0] : List Int)) (inner := [.int .i64 0, .int .i64 0, .int .i64 0, .int .i64 0]) (ok:=fun _=>True) (okp:=fun _=>True) ?hr ?hp (fun _ hk=>hk) trivial (Below.refl _ _) (Nat.le_refl _) (by simp) ?_;(case hd=>rfl);(case hg=>rfl);(case hr=>first|(go_simp;done)|(go_simp;rfl));(case hp=>exact (Reps.one (show Kd.M (Kd.int .i64) _ _ _ 0 [.int .i64 0] from rfl) (Reps.one (show Kd.M (Kd.int .i64) _ _ _ 0 [.int .i64 0] from rfl) (Reps.one (show Kd.M (Kd.int .i64) _ _ _ 0 [.int .i64 0] from rfl) (Reps.one (show Kd.M (Kd.int .i64) _ _ _ 0 [.int .i64 0] from rfl) (Reps.none _ _))))));intro v605 w27 ho28 hb hg_ hnew_;clear hg_ hnew_;(first|rw [← Ny604.out] at ho28|(simp only [Int.reduceToNat] at ho28;rw [← Ny604.out] at ho28)|rw [show (List.replicate (Int.toNat 11) (0 : Int))=y604 from Ny604.out.symm] at ho28);replace HO594:=zm (Kd.N_elder' (yr HO594) (Kd.R_base ho28) hb);have HO606:=zm (Kd.R_lower (Kd.R_new' (Kd.R_new' (Kd.R_new' ho28 (Kd.R_lt (yr HO597))) (Kd.R_lt (yr HO600))) (Kd.R_lt (yr HO603))) (zE yhb));replace HO597:=zm (Kd.R_elder' (yr HO597) (Kd.R_base ho28) hb);replace HO600:=zm (Kd.R_elder' (yr HO600) (Kd.R_base ho28) hb);replace HO603:=zm (Kd.R_elder' (yr HO603) (Kd.R_base ho28) hb);replace HB:=ybs hb;clear hb ho28)|((with_reducible refine gate_dst (N:=14) rfl ?_);(try (refine gate_guard (by rfl) ?_;dsimp only));refine Kd.R_lit (Kd.int .i64) _ 3 ?hg (N:=14) ?hd (xs:=([0,0,0,0,0,0,0,0] : List Int)) (inner := [.int .i64 0, .int .i64 0, .int .i64 0, .int .i64 0, .int .i64 0, .int .i64 0, .int .i64 0, .int .i64 0]) (ok:=fun _=>True) (okp:=fun _=>True) ?hr ?hp (fun _ hk=>hk) trivial (Below.refl _ _) (Nat.le_refl _) (by simp) ?_;(case hd=>rfl);(case hg=>rfl);(case hr=>first|(go_simp;done)|(go_simp;rfl));(case hp=>exact (Reps.one (show Kd.M (Kd.int .i64) _ _ _ 0 [.int .i64 0] from rfl) (Reps.one (show Kd.M (Kd.int .i64) _ _ _ 0 [.int .i64 0] from rfl) (Reps.one (show Kd.M (Kd.int .i64) _ _ _ 0 [.int .i64 0] from rfl) (Reps.one (show Kd.M (Kd.int .i64) _ _ _ 0 [.int .i64 0] from rfl) (Reps.one (show Kd.M (Kd.int .i64) _ _ _ 0 [.int .i64 0] from rfl) (Reps.one (show Kd.M (Kd.int .i64) _ _ _ 0 [.int .i64 0] from rfl) (Reps.one (show Kd.M (Kd.int .i64) _ _ _ 0 [.int .i64 0] from rfl) (Reps.one (show Kd.M (Kd.int .i64) _ _ _ 0 [.int .i64 0] from rfl) (Reps.none _ _))))))))));intro v608 w29 ho30 hb hg_ hnew_;clear hg_ hnew_;(first|rw [← Ny607.out] at ho30|(simp only [Int.reduceToNat] at ho30;rw [← Ny607.out] at ho30)|rw [show (List.replicate (Int.toNat 11) (0 : Int))=y607 from Ny607.out.symm] at ho30);replace HO594:=zm (Kd.N_elder' (yr HO594) (Kd.R_base ho30) hb);have HO609:=zm (Kd.R_lower (Kd.R_new' (Kd.R_new' (Kd.R_new' (Kd.R_new' ho30 (Kd.R_lt (yr HO597))) (Kd.R_lt (yr HO600))) (Kd.R_lt (yr HO603))) (Kd.R_lt (yr HO606))) (zE yhb));replace HO597:=zm (Kd.R_elder' (yr HO597) (Kd.R_base ho30) hb);replace HO600:=zm (Kd.R_elder' (yr HO600) (Kd.R_base ho30) hb);replace HO603:=zm (Kd.R_elder' (yr HO603) (Kd.R_base ho30) hb);replace HO606:=zm (Kd.R_elder' (yr HO606) (Kd.R_base ho30) hb);replace HB:=ybs hb;clear hb ho30;obtain ⟨Ao31,co31,eo31⟩:=Kd.R_slice HO597.out;subst eo31;obtain ⟨Ao32,co32,eo32⟩:=Kd.R_slice HO600.out;subst eo32;obtain ⟨Ao33,co33,eo33⟩:=Kd.R_slice HO603.out;subst eo33;obtain ⟨Ao34,co34,eo34⟩:=Kd.R_slice HO606.out;subst eo34;obtain ⟨Ao35,co35,eo35⟩:=Kd.R_slice HO609.out;subst eo35)|((with_reducible refine gate_dst (N:=15) rfl ?_);(try (refine gate_guard (by rfl) ?_;dsimp only));refine Kd.N_lit (Kd.slice 3 (Kd.int .i64)) _ 49 ?hg (N' := 15) ?hd (xs:=([y595,y598,y601,y604,y607] : List (List Int))) (inner := [.slice Ao31 y595.length co31, .slice Ao32 y598.length co32, .slice Ao33 y601.length co33, .slice Ao34 y604.length co34, .slice Ao35 y607.length co35]) (ok:=(fun k_=>some k_≠(v593 : Value).ownBlock)) (okp:=(fun k_=>some k_≠(v593 : Value).ownBlock)) ?hr ?hp (fun _ hk=>hk) ((show ∀ k_,w29.heap.size≤k_→(fun k_=>some k_≠(v593 : Value).ownBlock) k_ from fun k_ hk=>Kd.fresh' (Kd.N_lt (yr HO594)) k_ hk) _ (Nat.le_refl _)) (Below.refl _ _) (Nat.le_refl _) (by simp) ?_;(case hd=>rfl);(case hg=>rfl);(case hr=>first|(go_simp;done)|(go_simp;rfl));(case hp=>exact (Reps.one (show Kd.FK (Kd.slice 3 (Kd.int .i64)) _ _ y595 [.slice Ao31 y595.length co31] from (Kd.FK_slice_mk (Kd.R_reads' (zG (ok' := (fun k_=>some k_≠(v593 : Value).ownBlock)) (Kd.R_apart' (HO597.out) (Kd.N_typed HO594.out) (by decide)) (fun k_ hk=>hk.2))).2.1 (Kd.R_F (zG (ok' := (fun k_=>some k_≠(v593 : Value).ownBlock)) (Kd.R_apart' (HO597.out) (Kd.N_typed HO594.out) (by decide)) (fun k_ hk=>hk.2))))) (Reps.one (show Kd.FK (Kd.slice 3 (Kd.int .i64)) _ _ y598 [.slice Ao32 y598.length co32] from (Kd.FK_slice_mk (Kd.R_reads' (zG (ok' := (fun k_=>some k_≠(v593 : Value).ownBlock)) (Kd.R_apart' (HO600.out) (Kd.N_typed HO594.out) (by decide)) (fun k_ hk=>hk.2))).2.1 (Kd.R_F (zG (ok' := (fun k_=>some k_≠(v593 : Value).ownBlock)) (Kd.R_apart' (HO600.out) (Kd.N_typed HO594.out) (by decide)) (fun k_ hk=>hk.2))))) (Reps.one (show Kd.FK (Kd.slice 3 (Kd.int .i64)) _ _ y601 [.slice Ao33 y601.length co33] from (Kd.FK_slice_mk (Kd.R_reads' (zG (ok' := (fun k_=>some k_≠(v593 : Value).ownBlock)) (Kd.R_apart' (HO603.out) (Kd.N_typed HO594.out) (by decide)) (fun k_ hk=>hk.2))).2.1 (Kd.R_F (zG (ok' := (fun k_=>some k_≠(v593 : Value).ownBlock)) (Kd.R_apart' (HO603.out) (Kd.N_typed HO594.out) (by decide)) (fun k_ hk=>hk.2))))) (Reps.one (show Kd.FK (Kd.slice 3 (Kd.int .i64)) _ _ y604 [.slice Ao34 y604.length co34] from (Kd.FK_slice_mk (Kd.R_reads' (zG (ok' := (fun k_=>some k_≠(v593 : Value).ownBlock)) (Kd.R_apart' (HO606.out) (Kd.N_typed HO594.out) (by decide)) (fun k_ hk=>hk.2))).2.1 (Kd.R_F (zG (ok' := (fun k_=>some k_≠(v593 : Value).ownBlock)) (Kd.R_apart' (HO606.out) (Kd.N_typed HO594.out) (by decide)) (fun k_ hk=>hk.2))))) (Reps.one (show Kd.FK (Kd.slice 3 (Kd.int .i64)) _ _ y607 [.slice Ao35 y607.length co35] from (Kd.FK_slice_mk (Kd.R_reads' (zG (ok' := (fun k_=>some k_≠(v593 : Value).ownBlock)) (Kd.R_apart' (HO609.out) (Kd.N_typed HO594.out) (by decide)) (fun k_ hk=>hk.2))).2.1 (Kd.R_F (zG (ok' := (fun k_=>some k_≠(v593 : Value).ownBlock)) (Kd.R_apart' (HO609.out) (Kd.N_typed HO594.out) (by decide)) (fun k_ hk=>hk.2))))) (Reps.none _ _)))))));intro v611 w36 ho37 hb hg_ hnew_;clear hg_ hnew_;(first|rw [← Ny610.out] at ho37|(simp only [Int.reduceToNat] at ho37;rw [← Ny610.out] at ho37)|rw [show (List.replicate (Int.toNat 11) (0 : Int))=y610 from Ny610.out.symm] at ho37);replace HO594:=zm (Kd.N_elder' (yr HO594) (Kd.N_base ho37) hb);have HO612:=zm (Kd.N_lower ho37 (zE yhb));replace HB:=ybs hb;clear HO597;clear HO600;clear HO603;clear HO606;clear HO609;clear hb ho37;obtain ⟨Ao38,co38,eo38⟩:=Kd.N_slice HO612.out;subst eo38)|((with_reducible refine gate_dst (N:=16) rfl ?_);(try (refine gate_guard (by rfl) ?_;dsimp only));refine Kd.N_lit (Kd.slice 49 (Kd.slice 3 (Kd.int .i64))) _ 22 ?hg (N' := 16) ?hd (xs:=([y610] : List (List (List Int)))) (inner := [.slice Ao38 y610.length co38]) (ok:=(fun k_=>some k_≠(v593 : Value).ownBlock)) (okp:=(fun k_=>some k_≠(v593 : Value).ownBlock)) ?hr ?hp (fun _ hk=>hk) ((show ∀ k_,w36.heap.size≤k_→(fun k_=>some k_≠(v593 : Value).ownBlock) k_ from fun k_ hk=>Kd.fresh' (Kd.N_lt (yr HO594)) k_ hk) _ (Nat.le_refl _)) (Below.refl _ _) (Nat.le_refl _) (by simp) ?_;(case hd=>rfl);(case hg=>rfl);(case hr=>first|(go_simp;done)|(go_simp;rfl));(case hp=>exact (Reps.one (show Kd.FK (Kd.slice 49 (Kd.slice 3 (Kd.int .i64))) _ _ y610 [.slice Ao38 y610.length co38] from (Kd.FK_slice_mk (Kd.N_reads' (Kd.N_mono (ok' := (fun k_=>some k_≠(v593 : Value).ownBlock)) (HO612.out) (fun k_ hk=>hk))).2.1 (Kd.N_F (Kd.N_mono (ok' := (fun k_=>some k_≠(v593 : Value).ownBlock)) (HO612.out) (fun k_ hk=>hk))))) (Reps.none _ _)));intro v614 w39 ho40 hb hg_ hnew_;clear hg_ hnew_;(first|rw [← Ny613.out] at ho40|(simp only [Int.reduceToNat] at ho40;rw [← Ny613.out] at ho40)|rw [show (List.replicate (Int.toNat 11) (0 : Int))=y613 from Ny613.out.symm] at ho40);replace HO594:=zm (Kd.N_elder' (yr HO594) (Kd.N_base ho40) hb);have HO615:=zm (Kd.N_lower ho40 (zE yhb));replace HB:=ybs hb;clear HO612;clear hb ho40;obtain ⟨Ao41,co41,eo41⟩:=Kd.N_slice HO615.out;subst eo41;obtain ⟨Ao42,co42,eo42⟩:=Kd.N_slice HO594.out;subst eo42)|((with_reducible refine gate_dst (N:=1) rfl ?_);(try (refine gate_guard (by rfl) ?_;dsimp only));refine ybx 1 #[.bool false, .slice none 0 0, .slice none 0 0] 25 ?_;intro gb616 hg w43 hbox hb;replace HO594:=zm (Kd.N_below (Kd.N_elderB (yr HO594) gb616 (Nat.le_of_eq hg.symm)) hb);replace HO615:=zm (Kd.N_below (Kd.N_elderB (yr HO615) gb616 (Nat.le_of_eq hg.symm)) hb);have BK616:=zm (hbox);have GW616:=ygw hg;have GE616:=ygw hg;replace HB:=ybs hb;clear hb hbox hg;obtain ⟨_,_,_,_,_,_⟩:=yc3 BK616)|((with_reducible refine gate_callee (f:=12) rfl ?_);refine ygl 20 Try.func12 #[.int .i64 11, .int .i64 1, .agg #[.bool true, .slice Ao42 y592.length co42, .slice Ao41 y613.length co41], .slice none 0 0] ?_;(refine (cpack_Write.calls k 11 1 true _ _ y592 _ _ y613 _ _ ([] : List (List Int)) t617 t620 _ ?side1 ?side2 ?side3 ?side4 ?side5 ?side6 A1.out).mono ?_);(case side1=>refine (Kd.N_reads' (e:=49) (base:=w.heap.size) (ok:=fun k_=>(some k_≠(.slice Ao41 y613.length co41 : Value).ownBlock∧k_≠gb616)) (n:=y592.length) (c:=co42) ?_).2.2;refine' Kd.N_mono ?own_ ?hk_;(case own_=>exact (by (with_reducible repeat (first|apply Kd.N_alloc|apply Kd.N_drewN|apply Kd.N_drew));exact (Kd.N_mono (Kd.N_far (p:=⟨gb616,2,none⟩) (Kd.N_far (p:=⟨gb616,1,none⟩) (Kd.N_far (p:=⟨gb616,0,none⟩) (Kd.N_mono HO594.out (fun k_ hk=>(⟨hk,hk.2⟩ : _∧k_≠gb616))) (fun _ hk=>hk.2) (.bool true)) (fun _ hk=>hk.2) (.slice Ao42 y592.length co42)) (fun _ hk=>hk.2) (.slice Ao41 y613.length co41)) (fun _ h_=>h_.1))));(case hk_=>exact fun k_ hk_=>⟨hk_.1.2,hk_.2⟩));(case side2=>exact (Kd.N_reads' HO594.out).2.1);(case side3=>refine (Kd.N_reads' (e:=22) (base:=w.heap.size) (ok:=fun k_=>(some k_≠(.slice Ao42 y592.length co42 : Value).ownBlock∧k_≠gb616)) (n:=y613.length) (c:=co41) ?_).2.2;exact (by (with_reducible repeat (first|apply Kd.N_alloc|apply Kd.N_drewN|apply Kd.N_drew));exact (Kd.N_mono (Kd.N_far (p:=⟨gb616,2,none⟩) (Kd.N_far (p:=⟨gb616,1,none⟩) (Kd.N_far (p:=⟨gb616,0,none⟩) (Kd.N_mono HO615.out (fun k_ hk=>(⟨hk,hk.2⟩ : _∧k_≠gb616))) (fun _ hk=>hk.2) (.bool true)) (fun _ hk=>hk.2) (.slice Ao42 y592.length co42)) (fun _ hk=>hk.2) (.slice Ao41 y613.length co41)) (fun _ h_=>h_.1))));(case side4=>exact (Kd.N_reads' HO615.out).2.1);(case side5=>exact Kd.C_nil _ _);(case side6=>exact Nat.le_refl _);rintro e w45 ⟨v618,rfl,ho0,hb⟩;refine ⟨_,rfl, ?_⟩;replace HO594:=zm (Kd.N_elder' (by (with_reducible repeat (first|apply Kd.N_alloc|apply Kd.N_drewN|apply Kd.N_drew));exact (Kd.N_mono (Kd.N_far (p:=⟨gb616,2,none⟩) (Kd.N_far (p:=⟨gb616,1,none⟩) (Kd.N_far (p:=⟨gb616,0,none⟩) (Kd.N_mono HO594.out (fun k_ hk=>(⟨hk,hk.2⟩ : _∧k_≠gb616))) (fun _ hk=>hk.2) (.bool true)) (fun _ hk=>hk.2) (.slice Ao42 y592.length co42)) (fun _ hk=>hk.2) (.slice Ao41 y613.length co41)) (fun _ h_=>h_.1))) (Kd.R_base ho0) hb);replace HO615:=zm (Kd.N_elder' (by (with_reducible repeat (first|apply Kd.N_alloc|apply Kd.N_drewN|apply Kd.N_drew));exact (Kd.N_mono (Kd.N_far (p:=⟨gb616,2,none⟩) (Kd.N_far (p:=⟨gb616,1,none⟩) (Kd.N_far (p:=⟨gb616,0,none⟩) (Kd.N_mono HO615.out (fun k_ hk=>(⟨hk,hk.2⟩ : _∧k_≠gb616))) (fun _ hk=>hk.2) (.bool true)) (fun _ hk=>hk.2) (.slice Ao42 y592.length co42)) (fun _ hk=>hk.2) (.slice Ao41 y613.length co41)) (fun _ h_=>h_.1))) (Kd.R_base ho0) hb);have HO619:=zm (Kd.R_lower ho0 (zE yhb));replace BK616:=ybb BK616 hb;replace HB:=ybs hb;(try clear hb);(try clear hb2);(try clear hk);(try clear hi);(try clear ho0);obtain ⟨Ao46,co46,eo46⟩:=Kd.R_slice HO619.out;subst eo46)|((with_reducible refine gate_callee (f:=20) rfl ?_);refine ygl 25 Try.func20 #[.int .i64 11, .int .i64 1, .slice Ao46 t617.length co46, .slice none 0 0] ?_;(refine (cpack_Read.calls k 11 1 _ _ t617 _ _ ([] : List (List Int)) t621 t622 t625 t628 _ ?side1 ?side2 ?side3 ?side4 A2.out).mono ?_);(case side1=>exact yce (Kd.R_reads' HO619.out).2.2);(case side2=>exact (Kd.R_reads' HO619.out).2.1);(case side3=>exact Kd.C_nil _ _);(case side4=>exact Nat.le_refl _);rintro e w47 ⟨v623,v626,rfl,ho0,ho1,hb⟩;refine ⟨_,rfl, ?_⟩;have HO624:=zm (Kd.N_lower (Kd.N_mono (ok' := fun k_=>some k_≠(v626 : Value).ownBlock∧some k_≠(.slice Ao42 y592.length co42 : Value).ownBlock∧some k_≠(.slice Ao41 y613.length co41 : Value).ownBlock∧some k_≠(.slice Ao46 t617.length co46 : Value).ownBlock∧k_≠gb616) (Kd.S_N (Kd.S_bound (Kd.S_apart' ho0 (Kd.R_typed ho1) (by decide)))) (fun k_ hk_=>⟨hk_.1.2,(Kd.fresh' (Kd.N_lt (yr HO594)) k_ hk_.2.1),(Kd.fresh' (Kd.N_lt (yr HO615)) k_ hk_.2.1),(Kd.fresh' (Kd.R_lt (yr HO619)) k_ hk_.2.1),(Kd.freshB (yk BK616) k_ hk_.2.1)⟩)) (zE yhb));have HO627:=zm (Kd.N_lower (Kd.N_mono (ok' := fun k_=>some k_≠(v623 : Value).ownBlock∧some k_≠(.slice Ao42 y592.length co42 : Value).ownBlock∧some k_≠(.slice Ao41 y613.length co41 : Value).ownBlock∧some k_≠(.slice Ao46 t617.length co46 : Value).ownBlock∧k_≠gb616) (Kd.R_N (Kd.R_bound ho1)) (fun k_ hk_=>⟨hk_.1,(Kd.fresh' (Kd.N_lt (yr HO594)) k_ hk_.2.1),(Kd.fresh' (Kd.N_lt (yr HO615)) k_ hk_.2.1),(Kd.fresh' (Kd.R_lt (yr HO619)) k_ hk_.2.1),(Kd.freshB (yk BK616) k_ hk_.2.1)⟩)) (zE yhb));replace HO594:=zm (Kd.N_mono (Kd.N_told (Kd.N_told (Kd.N_old (yr HO594) hb) (Kd.S_base ho0)) (Kd.R_base ho1)) (fun _ h_=>h_.1));replace HO615:=zm (Kd.N_mono (Kd.N_told (Kd.N_told (Kd.N_old (yr HO615) hb) (Kd.S_base ho0)) (Kd.R_base ho1)) (fun _ h_=>h_.1));replace HO619:=yRb HO619 hb;replace BK616:=ybb BK616 hb;replace HB:=ybs hb;(try clear hb);(try clear hb2);(try clear hk);(try clear hi);(try clear ho0);(try clear ho1))|((with_reducible refine gate_dst (N:=4) rfl ?_);(try (refine gate_guard (by rfl) ?_;dsimp only));refine ybx 4 #[.bool false, .slice none 0 0, .slice none 0 0] 25 ?_;intro gb629 hg w48 hbox hb;replace HO594:=zm (Kd.N_below (Kd.N_elderB (yr HO594) gb629 (Nat.le_of_eq hg.symm)) hb);replace HO615:=zm (Kd.N_below (Kd.N_elderB (yr HO615) gb629 (Nat.le_of_eq hg.symm)) hb);replace HO619:=yRb HO619 hb;replace HO624:=zm (Kd.N_below (Kd.N_elderB (yr HO624) gb629 (Nat.le_of_eq hg.symm)) hb);replace HO627:=zm (Kd.N_below (Kd.N_elderB (yr HO627) gb629 (Nat.le_of_eq hg.symm)) hb);have BK629:=zm (hbox);have GW629:=ygw hg;have GE629:=ygw hg;replace HB:=ybs hb;have NB616_629:=ynl BK616 hg;have NB629_616:=yng BK616 hg;replace BK616:=ybb BK616 hb;clear hb hbox hg;have hnb49:=NB629_616.out;have hnc49:=NB616_629.out;obtain ⟨_,_,_,_,_,_⟩:=yc3 BK629;obtain ⟨Ao51,co51,eo51⟩:=Kd.N_slice HO624.out;subst eo51;obtain ⟨Ao52,co52,eo52⟩:=Kd.N_slice HO627.out;subst eo52)|((with_reducible refine gate_dst (N:=29) rfl ?_);(try (refine gate_guard (by rfl) ?_;dsimp only));refine Kd.R_make (Kd.int .u8) _ 5 rfl (N:=29) rfl 28 _ _ rfl 11 rfl rfl Try.underlying28 (.int .u8 0) 1 info5 rfl (by decide) (by omega) 0 (ok:=fun _=>True) (okp:=fun _=>True) rfl (fun _ hk=>hk) trivial (by omega) (by omega) (Below.refl _ _) (Nat.le_refl _) ?_;intro v631 w53 ho54 hb hg_ hnew_;clear hg_ hnew_;(first|rw [← Ny630.out] at ho54|(simp only [Int.reduceToNat] at ho54;rw [← Ny630.out] at ho54)|rw [show (List.replicate (Int.toNat 11) (0 : Int))=y630 from Ny630.out.symm] at ho54);replace HO594:=zm (Kd.N_elder' (by (with_reducible repeat (first|apply Kd.N_alloc|apply Kd.N_drewN|apply Kd.N_drew));exact (Kd.N_mono (Kd.N_far (p:=⟨gb629,2,none⟩) (Kd.N_far (p:=⟨gb629,1,none⟩) (Kd.N_far (p:=⟨gb629,0,none⟩) (Kd.N_mono HO594.out (fun k_ hk=>(⟨hk,hk.2⟩ : _∧k_≠gb629))) (fun _ hk=>hk.2) (.bool t621)) (fun _ hk=>hk.2) (.slice Ao51 t622.length co51)) (fun _ hk=>hk.2) (.slice Ao52 t625.length co52)) (fun _ h_=>h_.1))) (Kd.R_base ho54) hb);replace HO615:=zm (Kd.N_elder' (by (with_reducible repeat (first|apply Kd.N_alloc|apply Kd.N_drewN|apply Kd.N_drew));exact (Kd.N_mono (Kd.N_far (p:=⟨gb629,2,none⟩) (Kd.N_far (p:=⟨gb629,1,none⟩) (Kd.N_far (p:=⟨gb629,0,none⟩) (Kd.N_mono HO615.out (fun k_ hk=>(⟨hk,hk.2⟩ : _∧k_≠gb629))) (fun _ hk=>hk.2) (.bool t621)) (fun _ hk=>hk.2) (.slice Ao51 t622.length co51)) (fun _ hk=>hk.2) (.slice Ao52 t625.length co52)) (fun _ h_=>h_.1))) (Kd.R_base ho54) hb);replace HO624:=zm (Kd.N_elder' (by (with_reducible repeat (first|apply Kd.N_alloc|apply Kd.N_drewN|apply Kd.N_drew));exact (Kd.N_mono (Kd.N_far (p:=⟨gb629,2,none⟩) (Kd.N_far (p:=⟨gb629,1,none⟩) (Kd.N_far (p:=⟨gb629,0,none⟩) (Kd.N_mono HO624.out (fun k_ hk=>(⟨hk,hk.2⟩ : _∧k_≠gb629))) (fun _ hk=>hk.2) (.bool t621)) (fun _ hk=>hk.2) (.slice Ao51 t622.length co51)) (fun _ hk=>hk.2) (.slice Ao52 t625.length co52)) (fun _ h_=>h_.1))) (Kd.R_base ho54) hb);replace HO627:=zm (Kd.N_elder' (by (with_reducible repeat (first|apply Kd.N_alloc|apply Kd.N_drewN|apply Kd.N_drew));exact (Kd.N_mono (Kd.N_far (p:=⟨gb629,2,none⟩) (Kd.N_far (p:=⟨gb629,1,none⟩) (Kd.N_far (p:=⟨gb629,0,none⟩) (Kd.N_mono HO627.out (fun k_ hk=>(⟨hk,hk.2⟩ : _∧k_≠gb629))) (fun _ hk=>hk.2) (.bool t621)) (fun _ hk=>hk.2) (.slice Ao51 t622.length co51)) (fun _ hk=>hk.2) (.slice Ao52 t625.length co52)) (fun _ h_=>h_.1))) (Kd.R_base ho54) hb);have HO632:=zm (Kd.R_lower (Kd.R_new' ho54 (Kd.R_lt (by (with_reducible repeat (first|apply zo|apply zp|apply zq));exact (zG (zH (p:=⟨gb629,2,none⟩) (zH (p:=⟨gb629,1,none⟩) (zH (p:=⟨gb629,0,none⟩) (Kd.R_types HO619.out BK629.out (by decide)) (fun _ hk=>hk.2) (.bool t621)) (fun _ hk=>hk.2) (.slice Ao51 t622.length co51)) (fun _ hk=>hk.2) (.slice Ao52 t625.length co52)) (fun _ h_=>h_.1))))) (zE yhb));replace HO619:=zm (Kd.R_elder' (by (with_reducible repeat (first|apply zo|apply zp|apply zq));exact (zG (zH (p:=⟨gb629,2,none⟩) (zH (p:=⟨gb629,1,none⟩) (zH (p:=⟨gb629,0,none⟩) (Kd.R_types HO619.out BK629.out (by decide)) (fun _ hk=>hk.2) (.bool t621)) (fun _ hk=>hk.2) (.slice Ao51 t622.length co51)) (fun _ hk=>hk.2) (.slice Ao52 t625.length co52)) (fun _ h_=>h_.1))) (Kd.R_base ho54) hb);replace BK616:=ybb BK616 hb;replace BK629:=ybb BK629 hb;replace HB:=ybs hb;clear hb ho54)|((with_reducible refine gate_dst (N:=30) rfl ?_);(try (refine gate_guard (by rfl) ?_;dsimp only));refine Kd.R_lit (Kd.int .i64) _ 3 ?hg (N:=30) ?hd (xs:=([9,2,3,4,5] : List Int)) (inner := [.int .i64 9, .int .i64 2, .int .i64 3, .int .i64 4, .int .i64 5]) (ok:=fun _=>True) (okp:=fun _=>True) ?hr ?hp (fun _ hk=>hk) trivial (Below.refl _ _) (Nat.le_refl _) (by simp) ?_;(case hd=>rfl);(case hg=>rfl);(case hr=>first|(go_simp;done)|(go_simp;rfl));(case hp=>exact (Reps.one (show Kd.M (Kd.int .i64) _ _ _ 9 [.int .i64 9] from rfl) (Reps.one (show Kd.M (Kd.int .i64) _ _ _ 2 [.int .i64 2] from rfl) (Reps.one (show Kd.M (Kd.int .i64) _ _ _ 3 [.int .i64 3] from rfl) (Reps.one (show Kd.M (Kd.int .i64) _ _ _ 4 [.int .i64 4] from rfl) (Reps.one (show Kd.M (Kd.int .i64) _ _ _ 5 [.int .i64 5] from rfl) (Reps.none _ _)))))));intro v634 w55 ho56 hb hg_ hnew_;clear hg_ hnew_;(first|rw [← Ny633.out] at ho56|(simp only [Int.reduceToNat] at ho56;rw [← Ny633.out] at ho56)|rw [show (List.replicate (Int.toNat 11) (0 : Int))=y633 from Ny633.out.symm] at ho56);replace HO594:=zm (Kd.N_elder' (yr HO594) (Kd.R_base ho56) hb);replace HO615:=zm (Kd.N_elder' (yr HO615) (Kd.R_base ho56) hb);replace HO619:=yRb HO619 hb;replace HO624:=zm (Kd.N_elder' (yr HO624) (Kd.R_base ho56) hb);replace HO627:=zm (Kd.N_elder' (yr HO627) (Kd.R_base ho56) hb);replace HO632:=yRb HO632 hb;have HO635:=zm (Kd.R_lower ho56 (zE yhb));replace BK616:=ybb BK616 hb;replace BK629:=ybb BK629 hb;replace HB:=ybs hb;clear hb ho56;obtain ⟨Ao57,co57,eo57⟩:=Kd.R_slice HO635.out;subst eo57)|((with_reducible refine gate_dst (N:=31) rfl ?_);(try (refine gate_guard (by rfl) ?_;dsimp only));refine Kd.N_lit (Kd.slice 3 (Kd.int .i64)) _ 49 ?hg (N' := 31) ?hd (xs:=([y633] : List (List Int))) (inner := [.slice Ao57 y633.length co57]) (ok:=(fun k_=>some k_≠(.slice Ao42 y592.length co42 : Value).ownBlock∧some k_≠(.slice Ao41 y613.length co41 : Value).ownBlock∧some k_≠(.slice Ao46 t617.length co46 : Value).ownBlock∧some k_≠(.slice Ao51 t622.length co51 : Value).ownBlock∧some k_≠(.slice Ao52 t625.length co52 : Value).ownBlock∧some k_≠(v631 : Value).ownBlock∧k_≠gb616∧k_≠gb629)) (okp:=(fun k_=>some k_≠(.slice Ao42 y592.length co42 : Value).ownBlock∧some k_≠(.slice Ao41 y613.length co41 : Value).ownBlock∧some k_≠(.slice Ao46 t617.length co46 : Value).ownBlock∧some k_≠(.slice Ao51 t622.length co51 : Value).ownBlock∧some k_≠(.slice Ao52 t625.length co52 : Value).ownBlock∧some k_≠(v631 : Value).ownBlock∧k_≠gb616∧k_≠gb629)) ?hr ?hp (fun _ hk=>hk) ((show ∀ k_,w55.heap.size≤k_→(fun k_=>some k_≠(.slice Ao42 y592.length co42 : Value).ownBlock∧some k_≠(.slice Ao41 y613.length co41 : Value).ownBlock∧some k_≠(.slice Ao46 t617.length co46 : Value).ownBlock∧some k_≠(.slice Ao51 t622.length co51 : Value).ownBlock∧some k_≠(.slice Ao52 t625.length co52 : Value).ownBlock∧some k_≠(v631 : Value).ownBlock∧k_≠gb616∧k_≠gb629) k_ from fun k_ hk=>⟨Kd.fresh' (Kd.N_lt (yr HO594)) k_ hk,Kd.fresh' (Kd.N_lt (yr HO615)) k_ hk,Kd.fresh' (Kd.R_lt (yr HO619)) k_ hk,Kd.fresh' (Kd.N_lt (yr HO624)) k_ hk,Kd.fresh' (Kd.N_lt (yr HO627)) k_ hk,Kd.fresh' (Kd.R_lt (yr HO632)) k_ hk,Kd.freshB (yk BK616) k_ hk,Kd.freshB (yk BK629) k_ hk⟩) _ (Nat.le_refl _)) (Below.refl _ _) (Nat.le_refl _) (by simp) ?_;(case hd=>rfl);(case hg=>rfl);(case hr=>first|(go_simp;done)|(go_simp;rfl));(case hp=>exact (Reps.one (show Kd.FK (Kd.slice 3 (Kd.int .i64)) _ _ y633 [.slice Ao57 y633.length co57] from (Kd.FK_slice_mk (Kd.R_reads' (zG (ok' := (fun k_=>some k_≠(.slice Ao42 y592.length co42 : Value).ownBlock∧some k_≠(.slice Ao41 y613.length co41 : Value).ownBlock∧some k_≠(.slice Ao46 t617.length co46 : Value).ownBlock∧some k_≠(.slice Ao51 t622.length co51 : Value).ownBlock∧some k_≠(.slice Ao52 t625.length co52 : Value).ownBlock∧some k_≠(v631 : Value).ownBlock∧k_≠gb616∧k_≠gb629)) (Kd.R_types (Kd.R_types (Kd.R_apart' (Kd.R_apart' (Kd.R_apart' (Kd.R_apart' (Kd.R_apart' (Kd.R_apart' (HO635.out) (Kd.N_typed HO594.out) (by decide)) (Kd.N_typed HO615.out) (by decide)) (Kd.R_typed HO619.out) (by decide)) (Kd.N_typed HO624.out) (by decide)) (Kd.N_typed HO627.out) (by decide)) (Kd.R_typed HO632.out) (by decide)) BK616.out (by decide)) BK629.out (by decide)) (fun k_ hk=>⟨hk.1.1.1.1.1.1.1.2,⟨hk.1.1.1.1.1.1.2,⟨hk.1.1.1.1.1.2,⟨hk.1.1.1.1.2,⟨hk.1.1.1.2,⟨hk.1.1.2,⟨hk.1.2,hk.2⟩⟩⟩⟩⟩⟩⟩))).2.1 (Kd.R_F (zG (ok' := (fun k_=>some k_≠(.slice Ao42 y592.length co42 : Value).ownBlock∧some k_≠(.slice Ao41 y613.length co41 : Value).ownBlock∧some k_≠(.slice Ao46 t617.length co46 : Value).ownBlock∧some k_≠(.slice Ao51 t622.length co51 : Value).ownBlock∧some k_≠(.slice Ao52 t625.length co52 : Value).ownBlock∧some k_≠(v631 : Value).ownBlock∧k_≠gb616∧k_≠gb629)) (Kd.R_types (Kd.R_types (Kd.R_apart' (Kd.R_apart' (Kd.R_apart' (Kd.R_apart' (Kd.R_apart' (Kd.R_apart' (HO635.out) (Kd.N_typed HO594.out) (by decide)) (Kd.N_typed HO615.out) (by decide)) (Kd.R_typed HO619.out) (by decide)) (Kd.N_typed HO624.out) (by decide)) (Kd.N_typed HO627.out) (by decide)) (Kd.R_typed HO632.out) (by decide)) BK616.out (by decide)) BK629.out (by decide)) (fun k_ hk=>⟨hk.1.1.1.1.1.1.1.2,⟨hk.1.1.1.1.1.1.2,⟨hk.1.1.1.1.1.2,⟨hk.1.1.1.1.2,⟨hk.1.1.1.2,⟨hk.1.1.2,⟨hk.1.2,hk.2⟩⟩⟩⟩⟩⟩⟩))))) (Reps.none _ _)));intro v637 w58 ho59 hb hg_ hnew_;clear hg_ hnew_;(first|rw [← Ny636.out] at ho59|(simp only [Int.reduceToNat] at ho59;rw [← Ny636.out] at ho59)|rw [show (List.replicate (Int.toNat 11) (0 : Int))=y636 from Ny636.out.symm] at ho59);replace HO594:=zm (Kd.N_elder' (yr HO594) (Kd.N_base ho59) hb);replace HO615:=zm (Kd.N_elder' (yr HO615) (Kd.N_base ho59) hb);replace HO619:=yRb HO619 hb;replace HO624:=zm (Kd.N_elder' (yr HO624) (Kd.N_base ho59) hb);replace HO627:=zm (Kd.N_elder' (yr HO627) (Kd.N_base ho59) hb);replace HO632:=yRb HO632 hb;have HO638:=zm (Kd.N_lower ho59 (zE yhb));replace BK616:=ybb BK616 hb;replace BK629:=ybb BK629 hb;replace HB:=ybs hb;clear HO635;clear hb ho59;obtain ⟨Ao60,co60,eo60⟩:=Kd.R_slice HO632.out;subst eo60;obtain ⟨Ao61,co61,eo61⟩:=Kd.N_slice HO638.out;subst eo61)|((with_reducible refine gate_callee (f:=20) rfl ?_);refine ygl 32 Try.func20 #[.int .i64 11, .int .i64 1, .slice Ao60 y630.length co60, .slice Ao61 y636.length co61] ?_;(with_reducible refine (cpack_Read.calls k 11 1 _ _ y630 _ _ y636 false t640 t643 t646 _ ?side1 ?side2 ?side3 ?side4 A3.out).mono ?_);(case side1=>exact yce (Kd.R_reads' HO632.out).2.2);(case side2=>exact (Kd.R_reads' HO632.out).2.1);(case side3=>exact yce (Kd.N_reads' HO638.out).2.2);(case side4=>exact (Kd.N_reads' HO638.out).2.1);rintro e w62 ⟨v641,v644,rfl,ho0,ho1,hb⟩;refine ⟨_,rfl, ?_⟩;have HO642:=zm (Kd.N_lower (Kd.N_mono (ok' := fun k_=>some k_≠(v644 : Value).ownBlock∧some k_≠(.slice Ao42 y592.length co42 : Value).ownBlock∧some k_≠(.slice Ao41 y613.length co41 : Value).ownBlock∧some k_≠(.slice Ao46 t617.length co46 : Value).ownBlock∧some k_≠(.slice Ao51 t622.length co51 : Value).ownBlock∧some k_≠(.slice Ao52 t625.length co52 : Value).ownBlock∧some k_≠(.slice Ao60 y630.length co60 : Value).ownBlock∧some k_≠(.slice Ao61 y636.length co61 : Value).ownBlock∧k_≠gb616∧k_≠gb629) (Kd.S_N (Kd.S_bound (Kd.S_apart' ho0 (Kd.R_typed ho1) (by decide)))) (fun k_ hk_=>⟨hk_.1.2,(Kd.fresh' (Kd.N_lt (yr HO594)) k_ hk_.2.1),(Kd.fresh' (Kd.N_lt (yr HO615)) k_ hk_.2.1),(Kd.fresh' (Kd.R_lt (yr HO619)) k_ hk_.2.1),(Kd.fresh' (Kd.N_lt (yr HO624)) k_ hk_.2.1),(Kd.fresh' (Kd.N_lt (yr HO627)) k_ hk_.2.1),(Kd.fresh' (Kd.R_lt (yr HO632)) k_ hk_.2.1),(Kd.fresh' (Kd.N_lt (yr HO638)) k_ hk_.2.1),(Kd.freshB (yk BK616) k_ hk_.2.1),(Kd.freshB (yk BK629) k_ hk_.2.1)⟩)) (zE yhb));have HO645:=zm (Kd.N_lower (Kd.N_mono (ok' := fun k_=>some k_≠(v641 : Value).ownBlock∧some k_≠(.slice Ao42 y592.length co42 : Value).ownBlock∧some k_≠(.slice Ao41 y613.length co41 : Value).ownBlock∧some k_≠(.slice Ao46 t617.length co46 : Value).ownBlock∧some k_≠(.slice Ao51 t622.length co51 : Value).ownBlock∧some k_≠(.slice Ao52 t625.length co52 : Value).ownBlock∧some k_≠(.slice Ao60 y630.length co60 : Value).ownBlock∧some k_≠(.slice Ao61 y636.length co61 : Value).ownBlock∧k_≠gb616∧k_≠gb629) (Kd.R_N (Kd.R_bound ho1)) (fun k_ hk_=>⟨hk_.1,(Kd.fresh' (Kd.N_lt (yr HO594)) k_ hk_.2.1),(Kd.fresh' (Kd.N_lt (yr HO615)) k_ hk_.2.1),(Kd.fresh' (Kd.R_lt (yr HO619)) k_ hk_.2.1),(Kd.fresh' (Kd.N_lt (yr HO624)) k_ hk_.2.1),(Kd.fresh' (Kd.N_lt (yr HO627)) k_ hk_.2.1),(Kd.fresh' (Kd.R_lt (yr HO632)) k_ hk_.2.1),(Kd.fresh' (Kd.N_lt (yr HO638)) k_ hk_.2.1),(Kd.freshB (yk BK616) k_ hk_.2.1),(Kd.freshB (yk BK629) k_ hk_.2.1)⟩)) (zE yhb));replace HO594:=zm (Kd.N_mono (Kd.N_told (Kd.N_told (Kd.N_old (yr HO594) hb) (Kd.S_base ho0)) (Kd.R_base ho1)) (fun _ h_=>h_.1));replace HO615:=zm (Kd.N_mono (Kd.N_told (Kd.N_told (Kd.N_old (yr HO615) hb) (Kd.S_base ho0)) (Kd.R_base ho1)) (fun _ h_=>h_.1));replace HO619:=yRb HO619 hb;replace HO624:=zm (Kd.N_mono (Kd.N_told (Kd.N_told (Kd.N_old (yr HO624) hb) (Kd.S_base ho0)) (Kd.R_base ho1)) (fun _ h_=>h_.1));replace HO627:=zm (Kd.N_mono (Kd.N_told (Kd.N_told (Kd.N_old (yr HO627) hb) (Kd.S_base ho0)) (Kd.R_base ho1)) (fun _ h_=>h_.1));replace HO632:=yRb HO632 hb;replace HO638:=zm (Kd.N_mono (Kd.N_told (Kd.N_told (Kd.N_old (yr HO638) hb) (Kd.S_base ho0)) (Kd.R_base ho1)) (fun _ h_=>h_.1));replace BK616:=ybb BK616 hb;replace BK629:=ybb BK629 hb;replace HB:=ybs hb;(try clear hb);(try clear hb2);(try clear hk);(try clear hi);(try clear ho0);(try clear ho1))|((with_reducible refine gate_dst (N:=6) rfl ?_);(try (refine gate_guard (by rfl) ?_;dsimp only));refine ybx 6 #[.bool false, .slice none 0 0, .slice none 0 0] 25 ?_;intro gb647 hg w63 hbox hb;replace HO594:=zm (Kd.N_below (Kd.N_elderB (yr HO594) gb647 (Nat.le_of_eq hg.symm)) hb);replace HO615:=zm (Kd.N_below (Kd.N_elderB (yr HO615) gb647 (Nat.le_of_eq hg.symm)) hb);replace HO619:=yRb HO619 hb;replace HO624:=zm (Kd.N_below (Kd.N_elderB (yr HO624) gb647 (Nat.le_of_eq hg.symm)) hb);replace HO627:=zm (Kd.N_below (Kd.N_elderB (yr HO627) gb647 (Nat.le_of_eq hg.symm)) hb);replace HO632:=yRb HO632 hb;replace HO638:=zm (Kd.N_below (Kd.N_elderB (yr HO638) gb647 (Nat.le_of_eq hg.symm)) hb);replace HO642:=zm (Kd.N_below (Kd.N_elderB (yr HO642) gb647 (Nat.le_of_eq hg.symm)) hb);replace HO645:=zm (Kd.N_below (Kd.N_elderB (yr HO645) gb647 (Nat.le_of_eq hg.symm)) hb);have BK647:=zm (hbox);have GW647:=ygw hg;have GE647:=ygw hg;replace HB:=ybs hb;have NB616_647:=ynl BK616 hg;have NB647_616:=yng BK616 hg;replace BK616:=ybb BK616 hb;have NB629_647:=ynl BK629 hg;have NB647_629:=yng BK629 hg;replace BK629:=ybb BK629 hb;clear hb hbox hg;have hnb64:=NB647_616.out;have hnc64:=NB616_647.out;have hnb65:=NB647_629.out;have hnc65:=NB629_647.out;obtain ⟨_,_,_,_,_,_⟩:=yc3 BK647;obtain ⟨Ao67,co67,eo67⟩:=Kd.N_slice HO642.out;subst eo67;obtain ⟨Ao68,co68,eo68⟩:=Kd.N_slice HO645.out;subst eo68))
        have n0_ : Aside0 (Kd.N (Kd.slice 3 (Kd.int .i64)) 49 (((w63.setCell ⟨gb647,0,none⟩ (.bool false)).setCell ⟨gb647,1,none⟩ (.slice Ao67 t640.length co67)).setCell ⟨gb647,2,none⟩ (.slice Ao68 t643.length co68)) w.heap.size (fun k_=>some k_≠(.slice Ao41 y613.length co41 : Value).ownBlock∧some k_≠(.slice Ao46 t617.length co46 : Value).ownBlock∧some k_≠(.slice Ao51 t622.length co51 : Value).ownBlock∧some k_≠(.slice Ao52 t625.length co52 : Value).ownBlock∧some k_≠(.slice Ao60 y630.length co60 : Value).ownBlock∧some k_≠(.slice Ao61 y636.length co61 : Value).ownBlock∧some k_≠(.slice Ao67 t640.length co67 : Value).ownBlock∧some k_≠(.slice Ao68 t643.length co68 : Value).ownBlock∧k_≠gb616∧k_≠gb629∧k_≠gb647) (.slice Ao42 y592.length co42) y592):=⟨by (with_reducible repeat (first|apply Kd.N_alloc|apply Kd.N_drewN|apply Kd.N_drew));exact Kd.N_mono (Kd.N_far (p:=⟨gb647,2,none⟩) (Kd.N_far (p:=⟨gb647,1,none⟩) (Kd.N_far (p:=⟨gb647,0,none⟩) (Kd.N_mono HO594.out (fun k_ hk=>(⟨hk,hk.2⟩ : _∧k_≠gb647))) (fun _ hk=>hk.2) (.bool false)) (fun _ hk=>hk.2) (.slice Ao67 t640.length co67)) (fun _ hk=>hk.2) (.slice Ao68 t643.length co68)) (fun _ hk=>⟨hk.1.1.1.1.1.1.1.1.1.1.1.1.2,⟨hk.1.1.1.1.1.1.1.1.1.1.2,⟨hk.1.1.1.1.1.1.1.1.1.2,⟨hk.1.1.1.1.1.1.1.1.2,⟨hk.1.1.1.1.1.1.2,⟨hk.1.1.1.1.2,⟨hk.1.1.1.2,⟨hk.1.1.2,⟨hk.1.1.1.1.1.1.1.1.1.1.1.2,⟨hk.1.1.1.1.1.1.1.2,hk.1.2⟩⟩⟩⟩⟩⟩⟩⟩⟩⟩)⟩
        have n1_ : Aside0 (Kd.N (Kd.slice 49 (Kd.slice 3 (Kd.int .i64))) 22 (((w63.setCell ⟨gb647,0,none⟩ (.bool false)).setCell ⟨gb647,1,none⟩ (.slice Ao67 t640.length co67)).setCell ⟨gb647,2,none⟩ (.slice Ao68 t643.length co68)) w.heap.size (fun k_=>some k_≠(.slice Ao42 y592.length co42 : Value).ownBlock∧some k_≠(.slice Ao46 t617.length co46 : Value).ownBlock∧some k_≠(.slice Ao51 t622.length co51 : Value).ownBlock∧some k_≠(.slice Ao52 t625.length co52 : Value).ownBlock∧some k_≠(.slice Ao60 y630.length co60 : Value).ownBlock∧some k_≠(.slice Ao61 y636.length co61 : Value).ownBlock∧some k_≠(.slice Ao67 t640.length co67 : Value).ownBlock∧some k_≠(.slice Ao68 t643.length co68 : Value).ownBlock∧k_≠gb616∧k_≠gb629∧k_≠gb647) (.slice Ao41 y613.length co41) y613):=⟨by (with_reducible repeat (first|apply Kd.N_alloc|apply Kd.N_drewN|apply Kd.N_drew));exact Kd.N_mono (Kd.N_far (p:=⟨gb647,2,none⟩) (Kd.N_far (p:=⟨gb647,1,none⟩) (Kd.N_far (p:=⟨gb647,0,none⟩) (Kd.N_mono HO615.out (fun k_ hk=>(⟨hk,hk.2⟩ : _∧k_≠gb647))) (fun _ hk=>hk.2) (.bool false)) (fun _ hk=>hk.2) (.slice Ao67 t640.length co67)) (fun _ hk=>hk.2) (.slice Ao68 t643.length co68)) (fun _ hk=>⟨hk.1.1.1.1.1.1.1.1.1.1.1.1,⟨hk.1.1.1.1.1.1.1.1.1.1.2,⟨hk.1.1.1.1.1.1.1.1.1.2,⟨hk.1.1.1.1.1.1.1.1.2,⟨hk.1.1.1.1.1.1.2,⟨hk.1.1.1.1.2,⟨hk.1.1.1.2,⟨hk.1.1.2,⟨hk.1.1.1.1.1.1.1.1.1.1.1.2,⟨hk.1.1.1.1.1.1.1.2,hk.1.2⟩⟩⟩⟩⟩⟩⟩⟩⟩⟩)⟩
        have n2_ : Aside0 (Kd.R (Kd.int .u8) 5 (((w63.setCell ⟨gb647,0,none⟩ (.bool false)).setCell ⟨gb647,1,none⟩ (.slice Ao67 t640.length co67)).setCell ⟨gb647,2,none⟩ (.slice Ao68 t643.length co68)) w.heap.size (fun k_=>some k_≠(.slice Ao60 y630.length co60 : Value).ownBlock) (.slice Ao46 t617.length co46) t617):=⟨by (with_reducible repeat (first|apply zo|apply zp|apply zq));exact zG (zH (p:=⟨gb647,2,none⟩) (zH (p:=⟨gb647,1,none⟩) (zH (p:=⟨gb647,0,none⟩) (Kd.R_types HO619.out BK647.out (by decide)) (fun _ hk=>hk.2) (.bool false)) (fun _ hk=>hk.2) (.slice Ao67 t640.length co67)) (fun _ hk=>hk.2) (.slice Ao68 t643.length co68)) (fun _ hk=>hk.1.2)⟩
        have n3_ : Aside0 (Kd.N (Kd.slice 3 (Kd.int .i64)) 49 (((w63.setCell ⟨gb647,0,none⟩ (.bool false)).setCell ⟨gb647,1,none⟩ (.slice Ao67 t640.length co67)).setCell ⟨gb647,2,none⟩ (.slice Ao68 t643.length co68)) w.heap.size (fun k_=>some k_≠(.slice Ao42 y592.length co42 : Value).ownBlock∧some k_≠(.slice Ao41 y613.length co41 : Value).ownBlock∧some k_≠(.slice Ao46 t617.length co46 : Value).ownBlock∧some k_≠(.slice Ao52 t625.length co52 : Value).ownBlock∧some k_≠(.slice Ao60 y630.length co60 : Value).ownBlock∧some k_≠(.slice Ao61 y636.length co61 : Value).ownBlock∧some k_≠(.slice Ao67 t640.length co67 : Value).ownBlock∧some k_≠(.slice Ao68 t643.length co68 : Value).ownBlock∧k_≠gb616∧k_≠gb629∧k_≠gb647) (.slice Ao51 t622.length co51) t622):=⟨by (with_reducible repeat (first|apply Kd.N_alloc|apply Kd.N_drewN|apply Kd.N_drew));exact Kd.N_mono (Kd.N_far (p:=⟨gb647,2,none⟩) (Kd.N_far (p:=⟨gb647,1,none⟩) (Kd.N_far (p:=⟨gb647,0,none⟩) (Kd.N_mono HO624.out (fun k_ hk=>(⟨hk,hk.2⟩ : _∧k_≠gb647))) (fun _ hk=>hk.2) (.bool false)) (fun _ hk=>hk.2) (.slice Ao67 t640.length co67)) (fun _ hk=>hk.2) (.slice Ao68 t643.length co68)) (fun _ hk=>⟨hk.1.1.1.1.1.1.1.1.2.1,⟨hk.1.1.1.1.1.1.1.1.2.2.1,⟨hk.1.1.1.1.1.1.1.1.2.2.2.1,⟨hk.1.1.1.1.1.1.1.1.1,⟨hk.1.1.1.1.1.1.2,⟨hk.1.1.1.1.2,⟨hk.1.1.1.2,⟨hk.1.1.2,⟨hk.1.1.1.1.1.1.1.1.2.2.2.2,⟨hk.1.1.1.1.1.1.1.2,hk.1.2⟩⟩⟩⟩⟩⟩⟩⟩⟩⟩)⟩
        have n4_ : Aside0 (Kd.N (Kd.slice 49 (Kd.slice 3 (Kd.int .i64))) 22 (((w63.setCell ⟨gb647,0,none⟩ (.bool false)).setCell ⟨gb647,1,none⟩ (.slice Ao67 t640.length co67)).setCell ⟨gb647,2,none⟩ (.slice Ao68 t643.length co68)) w.heap.size (fun k_=>some k_≠(.slice Ao42 y592.length co42 : Value).ownBlock∧some k_≠(.slice Ao41 y613.length co41 : Value).ownBlock∧some k_≠(.slice Ao46 t617.length co46 : Value).ownBlock∧some k_≠(.slice Ao51 t622.length co51 : Value).ownBlock∧some k_≠(.slice Ao60 y630.length co60 : Value).ownBlock∧some k_≠(.slice Ao61 y636.length co61 : Value).ownBlock∧some k_≠(.slice Ao67 t640.length co67 : Value).ownBlock∧some k_≠(.slice Ao68 t643.length co68 : Value).ownBlock∧k_≠gb616∧k_≠gb629∧k_≠gb647) (.slice Ao52 t625.length co52) t625):=⟨by (with_reducible repeat (first|apply Kd.N_alloc|apply Kd.N_drewN|apply Kd.N_drew));exact Kd.N_mono (Kd.N_far (p:=⟨gb647,2,none⟩) (Kd.N_far (p:=⟨gb647,1,none⟩) (Kd.N_far (p:=⟨gb647,0,none⟩) (Kd.N_mono HO627.out (fun k_ hk=>(⟨hk,hk.2⟩ : _∧k_≠gb647))) (fun _ hk=>hk.2) (.bool false)) (fun _ hk=>hk.2) (.slice Ao67 t640.length co67)) (fun _ hk=>hk.2) (.slice Ao68 t643.length co68)) (fun _ hk=>⟨hk.1.1.1.1.1.1.1.1.2.1,⟨hk.1.1.1.1.1.1.1.1.2.2.1,⟨hk.1.1.1.1.1.1.1.1.2.2.2.1,⟨hk.1.1.1.1.1.1.1.1.1,⟨hk.1.1.1.1.1.1.2,⟨hk.1.1.1.1.2,⟨hk.1.1.1.2,⟨hk.1.1.2,⟨hk.1.1.1.1.1.1.1.1.2.2.2.2,⟨hk.1.1.1.1.1.1.1.2,hk.1.2⟩⟩⟩⟩⟩⟩⟩⟩⟩⟩)⟩
        have n5_ : Aside0 (Kd.R (Kd.int .u8) 5 (((w63.setCell ⟨gb647,0,none⟩ (.bool false)).setCell ⟨gb647,1,none⟩ (.slice Ao67 t640.length co67)).setCell ⟨gb647,2,none⟩ (.slice Ao68 t643.length co68)) w.heap.size (fun k_=>some k_≠(.slice Ao46 t617.length co46 : Value).ownBlock) (.slice Ao60 y630.length co60) y630):=⟨by (with_reducible repeat (first|apply zo|apply zp|apply zq));exact zG (zH (p:=⟨gb647,2,none⟩) (zH (p:=⟨gb647,1,none⟩) (zH (p:=⟨gb647,0,none⟩) (Kd.R_types HO632.out BK647.out (by decide)) (fun _ hk=>hk.2) (.bool false)) (fun _ hk=>hk.2) (.slice Ao67 t640.length co67)) (fun _ hk=>hk.2) (.slice Ao68 t643.length co68)) (fun _ hk=>hk.1.2)⟩
        have n6_ : Aside0 (Kd.N (Kd.slice 3 (Kd.int .i64)) 49 (((w63.setCell ⟨gb647,0,none⟩ (.bool false)).setCell ⟨gb647,1,none⟩ (.slice Ao67 t640.length co67)).setCell ⟨gb647,2,none⟩ (.slice Ao68 t643.length co68)) w.heap.size (fun k_=>some k_≠(.slice Ao42 y592.length co42 : Value).ownBlock∧some k_≠(.slice Ao41 y613.length co41 : Value).ownBlock∧some k_≠(.slice Ao46 t617.length co46 : Value).ownBlock∧some k_≠(.slice Ao51 t622.length co51 : Value).ownBlock∧some k_≠(.slice Ao52 t625.length co52 : Value).ownBlock∧some k_≠(.slice Ao60 y630.length co60 : Value).ownBlock∧some k_≠(.slice Ao67 t640.length co67 : Value).ownBlock∧some k_≠(.slice Ao68 t643.length co68 : Value).ownBlock∧k_≠gb616∧k_≠gb629∧k_≠gb647) (.slice Ao61 y636.length co61) y636):=⟨by (with_reducible repeat (first|apply Kd.N_alloc|apply Kd.N_drewN|apply Kd.N_drew));exact Kd.N_mono (Kd.N_far (p:=⟨gb647,2,none⟩) (Kd.N_far (p:=⟨gb647,1,none⟩) (Kd.N_far (p:=⟨gb647,0,none⟩) (Kd.N_mono HO638.out (fun k_ hk=>(⟨hk,hk.2⟩ : _∧k_≠gb647))) (fun _ hk=>hk.2) (.bool false)) (fun _ hk=>hk.2) (.slice Ao67 t640.length co67)) (fun _ hk=>hk.2) (.slice Ao68 t643.length co68)) (fun _ hk=>⟨hk.1.1.1.1.1,⟨hk.1.1.1.1.2.1,⟨hk.1.1.1.1.2.2.1,⟨hk.1.1.1.1.2.2.2.1,⟨hk.1.1.1.1.2.2.2.2.1,⟨hk.1.1.1.1.2.2.2.2.2.1,⟨hk.1.1.1.2,⟨hk.1.1.2,⟨hk.1.1.1.1.2.2.2.2.2.2.1,⟨hk.1.1.1.1.2.2.2.2.2.2.2,hk.1.2⟩⟩⟩⟩⟩⟩⟩⟩⟩⟩)⟩
        have n7_ : Aside0 (Kd.N (Kd.slice 3 (Kd.int .i64)) 49 (((w63.setCell ⟨gb647,0,none⟩ (.bool false)).setCell ⟨gb647,1,none⟩ (.slice Ao67 t640.length co67)).setCell ⟨gb647,2,none⟩ (.slice Ao68 t643.length co68)) w.heap.size (fun k_=>some k_≠(.slice Ao42 y592.length co42 : Value).ownBlock∧some k_≠(.slice Ao41 y613.length co41 : Value).ownBlock∧some k_≠(.slice Ao46 t617.length co46 : Value).ownBlock∧some k_≠(.slice Ao51 t622.length co51 : Value).ownBlock∧some k_≠(.slice Ao52 t625.length co52 : Value).ownBlock∧some k_≠(.slice Ao60 y630.length co60 : Value).ownBlock∧some k_≠(.slice Ao61 y636.length co61 : Value).ownBlock∧some k_≠(.slice Ao68 t643.length co68 : Value).ownBlock∧k_≠gb616∧k_≠gb629∧k_≠gb647) (.slice Ao67 t640.length co67) t640):=⟨by (with_reducible repeat (first|apply Kd.N_alloc|apply Kd.N_drewN|apply Kd.N_drew));exact Kd.N_mono (Kd.N_far (p:=⟨gb647,2,none⟩) (Kd.N_far (p:=⟨gb647,1,none⟩) (Kd.N_far (p:=⟨gb647,0,none⟩) (Kd.N_mono HO642.out (fun k_ hk=>(⟨hk,hk.2⟩ : _∧k_≠gb647))) (fun _ hk=>hk.2) (.bool false)) (fun _ hk=>hk.2) (.slice Ao67 t640.length co67)) (fun _ hk=>hk.2) (.slice Ao68 t643.length co68)) (fun _ hk=>⟨hk.1.1.2.1,⟨hk.1.1.2.2.1,⟨hk.1.1.2.2.2.1,⟨hk.1.1.2.2.2.2.1,⟨hk.1.1.2.2.2.2.2.1,⟨hk.1.1.2.2.2.2.2.2.1,⟨hk.1.1.2.2.2.2.2.2.2.1,⟨hk.1.1.1,⟨hk.1.1.2.2.2.2.2.2.2.2.1,⟨hk.1.1.2.2.2.2.2.2.2.2.2,hk.1.2⟩⟩⟩⟩⟩⟩⟩⟩⟩⟩)⟩
        have n8_ : Aside0 (Kd.N (Kd.slice 49 (Kd.slice 3 (Kd.int .i64))) 22 (((w63.setCell ⟨gb647,0,none⟩ (.bool false)).setCell ⟨gb647,1,none⟩ (.slice Ao67 t640.length co67)).setCell ⟨gb647,2,none⟩ (.slice Ao68 t643.length co68)) w.heap.size (fun k_=>some k_≠(.slice Ao42 y592.length co42 : Value).ownBlock∧some k_≠(.slice Ao41 y613.length co41 : Value).ownBlock∧some k_≠(.slice Ao46 t617.length co46 : Value).ownBlock∧some k_≠(.slice Ao51 t622.length co51 : Value).ownBlock∧some k_≠(.slice Ao52 t625.length co52 : Value).ownBlock∧some k_≠(.slice Ao60 y630.length co60 : Value).ownBlock∧some k_≠(.slice Ao61 y636.length co61 : Value).ownBlock∧some k_≠(.slice Ao67 t640.length co67 : Value).ownBlock∧k_≠gb616∧k_≠gb629∧k_≠gb647) (.slice Ao68 t643.length co68) t643):=⟨by (with_reducible repeat (first|apply Kd.N_alloc|apply Kd.N_drewN|apply Kd.N_drew));exact Kd.N_mono (Kd.N_far (p:=⟨gb647,2,none⟩) (Kd.N_far (p:=⟨gb647,1,none⟩) (Kd.N_far (p:=⟨gb647,0,none⟩) (Kd.N_mono HO645.out (fun k_ hk=>(⟨hk,hk.2⟩ : _∧k_≠gb647))) (fun _ hk=>hk.2) (.bool false)) (fun _ hk=>hk.2) (.slice Ao67 t640.length co67)) (fun _ hk=>hk.2) (.slice Ao68 t643.length co68)) (fun _ hk=>⟨hk.1.1.2.1,⟨hk.1.1.2.2.1,⟨hk.1.1.2.2.2.1,⟨hk.1.1.2.2.2.2.1,⟨hk.1.1.2.2.2.2.2.1,⟨hk.1.1.2.2.2.2.2.2.1,⟨hk.1.1.2.2.2.2.2.2.2.1,⟨hk.1.1.1,⟨hk.1.1.2.2.2.2.2.2.2.2.1,⟨hk.1.1.2.2.2.2.2.2.2.2.2,hk.1.2⟩⟩⟩⟩⟩⟩⟩⟩⟩⟩)⟩
        have n9_ : Aside0 ((((w63.setCell ⟨gb647,0,none⟩ (.bool false)).setCell ⟨gb647,1,none⟩ (.slice Ao67 t640.length co67)).setCell ⟨gb647,2,none⟩ (.slice Ao68 t643.length co68)).heap[gb616]? = some (.cells #[.bool true, .slice Ao42 y592.length co42, .slice Ao41 y613.length co41] 25 (0,0))):=⟨yk BK616⟩
        have n10_ : Aside0 ((((w63.setCell ⟨gb647,0,none⟩ (.bool false)).setCell ⟨gb647,1,none⟩ (.slice Ao67 t640.length co67)).setCell ⟨gb647,2,none⟩ (.slice Ao68 t643.length co68)).heap[gb629]? = some (.cells #[.bool t621, .slice Ao51 t622.length co51, .slice Ao52 t625.length co52] 25 (0,0))):=⟨yk BK629⟩
        have n11_ : Aside0 ((((w63.setCell ⟨gb647,0,none⟩ (.bool false)).setCell ⟨gb647,1,none⟩ (.slice Ao67 t640.length co67)).setCell ⟨gb647,2,none⟩ (.slice Ao68 t643.length co68)).heap[gb647]? = some (.cells #[.bool false, .slice Ao67 t640.length co67, .slice Ao68 t643.length co68] 25 (0,0))):=⟨yk BK647⟩
        have n12_ : Aside0 (Below w.heap.size w (((w63.setCell ⟨gb647,0,none⟩ (.bool false)).setCell ⟨gb647,1,none⟩ (.slice Ao67 t640.length co67)).setCell ⟨gb647,2,none⟩ (.slice Ao68 t643.length co68))):=⟨yhb⟩
        (try clear HO594)
        (try clear HO615)
        (try clear HO619)
        (try clear HO624)
        (try clear HO627)
        (try clear HO632)
        (try clear HO638)
        (try clear HO642)
        (try clear HO645)
        (try clear BK616)
        (try clear BK629)
        (try clear BK647)
        (try clear HB)
        generalize (((w63.setCell ⟨gb647,0,none⟩ (.bool false)).setCell ⟨gb647,1,none⟩ (.slice Ao67 t640.length co67)).setCell ⟨gb647,2,none⟩ (.slice Ao68 t643.length co68))=w69 at n0_ n1_ n2_ n3_ n4_ n5_ n6_ n7_ n8_ n9_ n10_ n11_ n12_ ⊢
        have HO594:=n0_;have HO615:=n1_;have HO619:=n2_;have HO624:=n3_;have HO627:=n4_;have HO632:=n5_;have HO638:=n6_;have HO642:=n7_;have HO645:=n8_;have BK616:=n9_;have BK629:=n10_;have BK647:=n11_;have HB:=n12_;clear n0_ n1_ n2_ n3_ n4_ n5_ n6_ n7_ n8_ n9_ n10_ n11_ n12_
        replace HO594:=zm (Kd.N_drew HO594.out)
        replace HO615:=zm (Kd.N_drew HO615.out)
        replace HO619:=zm (zq HO619.out)
        replace HO624:=zm (Kd.N_drew HO624.out)
        replace HO627:=zm (Kd.N_drew HO627.out)
        replace HO632:=zm (zq HO632.out)
        replace HO638:=zm (Kd.N_drew HO638.out)
        replace HO642:=zm (Kd.N_drew HO642.out)
        replace HO645:=zm (Kd.N_drew HO645.out)
        replace BK616:=zm (zj BK616.out)
        replace BK629:=zm (zj BK629.out)
        replace BK647:=zm (zj BK647.out)
        replace HB:=zm (zf HB.out)
        refine start_ (n:=39) (S:=fun w' => w'.cell? ⟨gb629,0,none⟩=some (.bool t621)∧w'.cell? ⟨gb629,1,none⟩=some (.slice Ao51 t622.length co51)∧w'.cell? ⟨gb629,2,none⟩=some (.slice Ao52 t625.length co52)∧w'.cell? ⟨gb616,0,none⟩=some (.bool true)∧w'.cell? ⟨gb616,1,none⟩=some (.slice Ao42 y592.length co42)∧w'.cell? ⟨gb616,2,none⟩=some (.slice Ao41 y613.length co41)∧w'.cell? ⟨gb647,0,none⟩=some (.bool false)∧w'.cell? ⟨gb647,1,none⟩=some (.slice Ao67 t640.length co67)∧w'.cell? ⟨gb647,2,none⟩=some (.slice Ao68 t643.length co68)) (ds := []) #[false,false,false,false,false,false,false,false,false,false,false,false,false,false,false,false,false,false,false,false,false,false,false,false,false,false,false,false,false,false,false,false,false,false,false,false,false,false,false] (by kernel_rfl) rfl rfl ⟨(zs BK629.out 0).trans rfl,(zs BK629.out 1).trans rfl,(zs BK629.out 2).trans rfl,(zs BK616.out 0).trans rfl,(zs BK616.out 1).trans rfl,(zs BK616.out 2).trans rfl,(zs BK647.out 0).trans rfl,(zs BK647.out 1).trans rfl,(zs BK647.out 2).trans rfl⟩ (fun hHeld => ?_);refine with_tabW psalterylaw13_knows.tab5 psalterylaw13_knows.bits5 (fun HT_ HW_ => ?_)
        generalize w69.drew=w70 at HO594 HO615 HO619 HO624 HO627 HO632 HO638 HO642 HO645 BK616 BK629 BK647 HB hHeld ⊢
        refine yp 0 35 HT_ ?_
        refine yp 1 36 HT_ ?_
        refine yp 2 37 HT_ ?_
        refine yp 3 38 HT_ ?_
        refine yp 4 39 HT_ ?_
        refine yp 5 40 HT_ ?_
        refine yp 6 41 HT_ ?_
        refine yp 7 42 HT_ ?_
        refine yl 8 43 HT_ HW_ hHeld ?_
        refine yl 10 45 HT_ HW_ hHeld ?_
        refine yw 9 44 HT_ (fun K hK => ?_)
        refine ygs Try.func14 #[.agg #[.bool t621, .slice Ao51 t622.length co51, .slice Ao52 t625.length co52]] ?_
        with_reducible refine (psalterylaw13_As.calls t621 (fun k_=>(some k_≠(.slice Ao42 y592.length co42 : Value).ownBlock∧(some k_≠(.slice Ao41 y613.length co41 : Value).ownBlock∧(some k_≠(.slice Ao46 t617.length co46 : Value).ownBlock∧(some k_≠(.slice Ao52 t625.length co52 : Value).ownBlock∧(some k_≠(.slice Ao60 y630.length co60 : Value).ownBlock∧(some k_≠(.slice Ao61 y636.length co61 : Value).ownBlock∧(some k_≠(.slice Ao67 t640.length co67 : Value).ownBlock∧(some k_≠(.slice Ao68 t643.length co68 : Value).ownBlock∧(k_≠gb616∧(k_≠gb629∧k_≠gb647))))))))))) _ _ t622 (fun k_=>(some k_≠(.slice Ao42 y592.length co42 : Value).ownBlock∧(some k_≠(.slice Ao41 y613.length co41 : Value).ownBlock∧(some k_≠(.slice Ao46 t617.length co46 : Value).ownBlock∧(some k_≠(.slice Ao51 t622.length co51 : Value).ownBlock∧(some k_≠(.slice Ao60 y630.length co60 : Value).ownBlock∧(some k_≠(.slice Ao61 y636.length co61 : Value).ownBlock∧(some k_≠(.slice Ao67 t640.length co67 : Value).ownBlock∧(some k_≠(.slice Ao68 t643.length co68 : Value).ownBlock∧(k_≠gb616∧(k_≠gb629∧k_≠gb647))))))))))) _ _ t625 t648 t649 t652 _ ?side1 ?side2 A6.out).mono ?_
        (case side1=>exact Kd.N_V (HO624.out))
        (case side2=>exact Kd.N_V (HO627.out))
        rintro e w71 ⟨v650,v653,rfl,ho0,ho1,hb⟩
        refine ⟨_,rfl, ?_⟩
        replace HO624:=yNb HO624 hb
        replace HO627:=yNb HO627 hb
        have HO651:=zm (Kd.V_lower (zy (ok' := fun k_=>some k_≠(.slice Ao42 y592.length co42 : Value).ownBlock∧some k_≠(.slice Ao41 y613.length co41 : Value).ownBlock∧some k_≠(.slice Ao46 t617.length co46 : Value).ownBlock∧some k_≠(.slice Ao60 y630.length co60 : Value).ownBlock∧some k_≠(.slice Ao61 y636.length co61 : Value).ownBlock∧some k_≠(.slice Ao67 t640.length co67 : Value).ownBlock∧some k_≠(.slice Ao68 t643.length co68 : Value).ownBlock∧k_≠gb616∧k_≠gb629∧k_≠gb647) ho0 (fun k_ hk_=>⟨Or.elim hk_ (fun hs_=>Or.elim hs_ (fun hs_=>hs_.1) (fun hs_=>hs_.1)) (fun hn_=>(Kd.fresh' (Kd.N_lt (yr HO594)) k_ hn_)),Or.elim hk_ (fun hs_=>Or.elim hs_ (fun hs_=>hs_.2.1) (fun hs_=>hs_.2.1)) (fun hn_=>(Kd.fresh' (Kd.N_lt (yr HO615)) k_ hn_)),Or.elim hk_ (fun hs_=>Or.elim hs_ (fun hs_=>hs_.2.2.1) (fun hs_=>hs_.2.2.1)) (fun hn_=>(Kd.fresh' (Kd.R_lt (yr HO619)) k_ hn_)),Or.elim hk_ (fun hs_=>Or.elim hs_ (fun hs_=>hs_.2.2.2.2.1) (fun hs_=>hs_.2.2.2.2.1)) (fun hn_=>(Kd.fresh' (Kd.R_lt (yr HO632)) k_ hn_)),Or.elim hk_ (fun hs_=>Or.elim hs_ (fun hs_=>hs_.2.2.2.2.2.1) (fun hs_=>hs_.2.2.2.2.2.1)) (fun hn_=>(Kd.fresh' (Kd.N_lt (yr HO638)) k_ hn_)),Or.elim hk_ (fun hs_=>Or.elim hs_ (fun hs_=>hs_.2.2.2.2.2.2.1) (fun hs_=>hs_.2.2.2.2.2.2.1)) (fun hn_=>(Kd.fresh' (Kd.N_lt (yr HO642)) k_ hn_)),Or.elim hk_ (fun hs_=>Or.elim hs_ (fun hs_=>hs_.2.2.2.2.2.2.2.1) (fun hs_=>hs_.2.2.2.2.2.2.2.1)) (fun hn_=>(Kd.fresh' (Kd.N_lt (yr HO645)) k_ hn_)),Or.elim hk_ (fun hs_=>Or.elim hs_ (fun hs_=>hs_.2.2.2.2.2.2.2.2.1) (fun hs_=>hs_.2.2.2.2.2.2.2.2.1)) (fun hn_=>(Kd.freshB (yk BK616) k_ hn_)),Or.elim hk_ (fun hs_=>Or.elim hs_ (fun hs_=>hs_.2.2.2.2.2.2.2.2.2.1) (fun hs_=>hs_.2.2.2.2.2.2.2.2.2.1)) (fun hn_=>(Kd.freshB (yk BK629) k_ hn_)),Or.elim hk_ (fun hs_=>Or.elim hs_ (fun hs_=>hs_.2.2.2.2.2.2.2.2.2.2) (fun hs_=>hs_.2.2.2.2.2.2.2.2.2.2)) (fun hn_=>(Kd.freshB (yk BK647) k_ hn_))⟩)) (zE yhb))
        have HO654:=zm (Kd.V_lower (zy (ok' := fun k_=>some k_≠(.slice Ao42 y592.length co42 : Value).ownBlock∧some k_≠(.slice Ao41 y613.length co41 : Value).ownBlock∧some k_≠(.slice Ao46 t617.length co46 : Value).ownBlock∧some k_≠(.slice Ao60 y630.length co60 : Value).ownBlock∧some k_≠(.slice Ao61 y636.length co61 : Value).ownBlock∧some k_≠(.slice Ao67 t640.length co67 : Value).ownBlock∧some k_≠(.slice Ao68 t643.length co68 : Value).ownBlock∧k_≠gb616∧k_≠gb629∧k_≠gb647) ho1 (fun k_ hk_=>⟨Or.elim hk_ (fun hs_=>Or.elim hs_ (fun hs_=>hs_.1) (fun hs_=>hs_.1)) (fun hn_=>(Kd.fresh' (Kd.N_lt (yr HO594)) k_ hn_)),Or.elim hk_ (fun hs_=>Or.elim hs_ (fun hs_=>hs_.2.1) (fun hs_=>hs_.2.1)) (fun hn_=>(Kd.fresh' (Kd.N_lt (yr HO615)) k_ hn_)),Or.elim hk_ (fun hs_=>Or.elim hs_ (fun hs_=>hs_.2.2.1) (fun hs_=>hs_.2.2.1)) (fun hn_=>(Kd.fresh' (Kd.R_lt (yr HO619)) k_ hn_)),Or.elim hk_ (fun hs_=>Or.elim hs_ (fun hs_=>hs_.2.2.2.2.1) (fun hs_=>hs_.2.2.2.2.1)) (fun hn_=>(Kd.fresh' (Kd.R_lt (yr HO632)) k_ hn_)),Or.elim hk_ (fun hs_=>Or.elim hs_ (fun hs_=>hs_.2.2.2.2.2.1) (fun hs_=>hs_.2.2.2.2.2.1)) (fun hn_=>(Kd.fresh' (Kd.N_lt (yr HO638)) k_ hn_)),Or.elim hk_ (fun hs_=>Or.elim hs_ (fun hs_=>hs_.2.2.2.2.2.2.1) (fun hs_=>hs_.2.2.2.2.2.2.1)) (fun hn_=>(Kd.fresh' (Kd.N_lt (yr HO642)) k_ hn_)),Or.elim hk_ (fun hs_=>Or.elim hs_ (fun hs_=>hs_.2.2.2.2.2.2.2.1) (fun hs_=>hs_.2.2.2.2.2.2.2.1)) (fun hn_=>(Kd.fresh' (Kd.N_lt (yr HO645)) k_ hn_)),Or.elim hk_ (fun hs_=>Or.elim hs_ (fun hs_=>hs_.2.2.2.2.2.2.2.2.1) (fun hs_=>hs_.2.2.2.2.2.2.2.2.1)) (fun hn_=>(Kd.freshB (yk BK616) k_ hn_)),Or.elim hk_ (fun hs_=>Or.elim hs_ (fun hs_=>hs_.2.2.2.2.2.2.2.2.2.1) (fun hs_=>hs_.2.2.2.2.2.2.2.2.2.1)) (fun hn_=>(Kd.freshB (yk BK629) k_ hn_)),Or.elim hk_ (fun hs_=>Or.elim hs_ (fun hs_=>hs_.2.2.2.2.2.2.2.2.2.2) (fun hs_=>hs_.2.2.2.2.2.2.2.2.2.2)) (fun hn_=>(Kd.freshB (yk BK647) k_ hn_))⟩)) (zE yhb))
        replace HO594:=yNb HO594 hb
        replace HO615:=yNb HO615 hb
        replace HO619:=yRb HO619 hb
        replace HO632:=yRb HO632 hb
        replace HO638:=yNb HO638 hb
        replace HO642:=yNb HO642 hb
        replace HO645:=yNb HO645 hb
        replace BK616:=ybb BK616 hb
        replace BK629:=ybb BK629 hb
        replace BK647:=ybb BK647 hb
        replace HB:=ybs hb
        (try clear hb)
        (try clear hb2)
        (try clear hk)
        (try clear hi)
        (try clear ho0)
        (try clear ho1)
        refine hK.out _ _ ⟨(zs BK629.out 0).trans rfl,(zs BK629.out 1).trans rfl,(zs BK629.out 2).trans rfl,(zs BK616.out 0).trans rfl,(zs BK616.out 1).trans rfl,(zs BK616.out 2).trans rfl,(zs BK647.out 0).trans rfl,(zs BK647.out 1).trans rfl,(zs BK647.out 2).trans rfl⟩ (fun hHeld => ?_)
        clear hK K
        refine ym (some 44) ?_
        refine yw 11 46 HT_ (fun K hK => ?_)
        refine ygs Try.func14 #[.agg #[.bool true, .slice Ao42 y592.length co42, .slice Ao41 y613.length co41]] ?_
        with_reducible refine (psalterylaw13_As.calls true (fun k_=>(some k_≠(.slice Ao41 y613.length co41 : Value).ownBlock∧(some k_≠(.slice Ao46 t617.length co46 : Value).ownBlock∧(some k_≠(.slice Ao51 t622.length co51 : Value).ownBlock∧(some k_≠(.slice Ao52 t625.length co52 : Value).ownBlock∧(some k_≠(.slice Ao60 y630.length co60 : Value).ownBlock∧(some k_≠(.slice Ao61 y636.length co61 : Value).ownBlock∧(some k_≠(.slice Ao67 t640.length co67 : Value).ownBlock∧(some k_≠(.slice Ao68 t643.length co68 : Value).ownBlock∧(k_≠gb616∧(k_≠gb629∧k_≠gb647))))))))))) _ _ y592 (fun k_=>(some k_≠(.slice Ao42 y592.length co42 : Value).ownBlock∧(some k_≠(.slice Ao46 t617.length co46 : Value).ownBlock∧(some k_≠(.slice Ao51 t622.length co51 : Value).ownBlock∧(some k_≠(.slice Ao52 t625.length co52 : Value).ownBlock∧(some k_≠(.slice Ao60 y630.length co60 : Value).ownBlock∧(some k_≠(.slice Ao61 y636.length co61 : Value).ownBlock∧(some k_≠(.slice Ao67 t640.length co67 : Value).ownBlock∧(some k_≠(.slice Ao68 t643.length co68 : Value).ownBlock∧(k_≠gb616∧(k_≠gb629∧k_≠gb647))))))))))) _ _ y613 t655 t656 t659 _ ?side1 ?side2 A7.out).mono ?_
        (case side1=>exact Kd.N_V (HO594.out))
        (case side2=>exact Kd.N_V (HO615.out))
        rintro e w72 ⟨v657,v660,rfl,ho0,ho1,hb⟩
        refine ⟨_,rfl, ?_⟩
        replace HO594:=yNb HO594 hb
        replace HO615:=yNb HO615 hb
        replace HO651:=yVb HO651 hb
        replace HO654:=yVb HO654 hb
        have HO658:=zm (Kd.V_lower (zy (ok' := fun k_=>some k_≠(.slice Ao46 t617.length co46 : Value).ownBlock∧some k_≠(.slice Ao51 t622.length co51 : Value).ownBlock∧some k_≠(.slice Ao52 t625.length co52 : Value).ownBlock∧some k_≠(.slice Ao60 y630.length co60 : Value).ownBlock∧some k_≠(.slice Ao61 y636.length co61 : Value).ownBlock∧some k_≠(.slice Ao67 t640.length co67 : Value).ownBlock∧some k_≠(.slice Ao68 t643.length co68 : Value).ownBlock∧k_≠gb616∧k_≠gb629∧k_≠gb647) ho0 (fun k_ hk_=>⟨Or.elim hk_ (fun hs_=>Or.elim hs_ (fun hs_=>hs_.2.1) (fun hs_=>hs_.2.1)) (fun hn_=>(Kd.fresh' (Kd.R_lt (yr HO619)) k_ hn_)),Or.elim hk_ (fun hs_=>Or.elim hs_ (fun hs_=>hs_.2.2.1) (fun hs_=>hs_.2.2.1)) (fun hn_=>(Kd.fresh' (Kd.N_lt (yr HO624)) k_ hn_)),Or.elim hk_ (fun hs_=>Or.elim hs_ (fun hs_=>hs_.2.2.2.1) (fun hs_=>hs_.2.2.2.1)) (fun hn_=>(Kd.fresh' (Kd.N_lt (yr HO627)) k_ hn_)),Or.elim hk_ (fun hs_=>Or.elim hs_ (fun hs_=>hs_.2.2.2.2.1) (fun hs_=>hs_.2.2.2.2.1)) (fun hn_=>(Kd.fresh' (Kd.R_lt (yr HO632)) k_ hn_)),Or.elim hk_ (fun hs_=>Or.elim hs_ (fun hs_=>hs_.2.2.2.2.2.1) (fun hs_=>hs_.2.2.2.2.2.1)) (fun hn_=>(Kd.fresh' (Kd.N_lt (yr HO638)) k_ hn_)),Or.elim hk_ (fun hs_=>Or.elim hs_ (fun hs_=>hs_.2.2.2.2.2.2.1) (fun hs_=>hs_.2.2.2.2.2.2.1)) (fun hn_=>(Kd.fresh' (Kd.N_lt (yr HO642)) k_ hn_)),Or.elim hk_ (fun hs_=>Or.elim hs_ (fun hs_=>hs_.2.2.2.2.2.2.2.1) (fun hs_=>hs_.2.2.2.2.2.2.2.1)) (fun hn_=>(Kd.fresh' (Kd.N_lt (yr HO645)) k_ hn_)),Or.elim hk_ (fun hs_=>Or.elim hs_ (fun hs_=>hs_.2.2.2.2.2.2.2.2.1) (fun hs_=>hs_.2.2.2.2.2.2.2.2.1)) (fun hn_=>(Kd.freshB (yk BK616) k_ hn_)),Or.elim hk_ (fun hs_=>Or.elim hs_ (fun hs_=>hs_.2.2.2.2.2.2.2.2.2.1) (fun hs_=>hs_.2.2.2.2.2.2.2.2.2.1)) (fun hn_=>(Kd.freshB (yk BK629) k_ hn_)),Or.elim hk_ (fun hs_=>Or.elim hs_ (fun hs_=>hs_.2.2.2.2.2.2.2.2.2.2) (fun hs_=>hs_.2.2.2.2.2.2.2.2.2.2)) (fun hn_=>(Kd.freshB (yk BK647) k_ hn_))⟩)) (zE yhb))
        have HO661:=zm (Kd.V_lower (zy (ok' := fun k_=>some k_≠(.slice Ao46 t617.length co46 : Value).ownBlock∧some k_≠(.slice Ao51 t622.length co51 : Value).ownBlock∧some k_≠(.slice Ao52 t625.length co52 : Value).ownBlock∧some k_≠(.slice Ao60 y630.length co60 : Value).ownBlock∧some k_≠(.slice Ao61 y636.length co61 : Value).ownBlock∧some k_≠(.slice Ao67 t640.length co67 : Value).ownBlock∧some k_≠(.slice Ao68 t643.length co68 : Value).ownBlock∧k_≠gb616∧k_≠gb629∧k_≠gb647) ho1 (fun k_ hk_=>⟨Or.elim hk_ (fun hs_=>Or.elim hs_ (fun hs_=>hs_.2.1) (fun hs_=>hs_.2.1)) (fun hn_=>(Kd.fresh' (Kd.R_lt (yr HO619)) k_ hn_)),Or.elim hk_ (fun hs_=>Or.elim hs_ (fun hs_=>hs_.2.2.1) (fun hs_=>hs_.2.2.1)) (fun hn_=>(Kd.fresh' (Kd.N_lt (yr HO624)) k_ hn_)),Or.elim hk_ (fun hs_=>Or.elim hs_ (fun hs_=>hs_.2.2.2.1) (fun hs_=>hs_.2.2.2.1)) (fun hn_=>(Kd.fresh' (Kd.N_lt (yr HO627)) k_ hn_)),Or.elim hk_ (fun hs_=>Or.elim hs_ (fun hs_=>hs_.2.2.2.2.1) (fun hs_=>hs_.2.2.2.2.1)) (fun hn_=>(Kd.fresh' (Kd.R_lt (yr HO632)) k_ hn_)),Or.elim hk_ (fun hs_=>Or.elim hs_ (fun hs_=>hs_.2.2.2.2.2.1) (fun hs_=>hs_.2.2.2.2.2.1)) (fun hn_=>(Kd.fresh' (Kd.N_lt (yr HO638)) k_ hn_)),Or.elim hk_ (fun hs_=>Or.elim hs_ (fun hs_=>hs_.2.2.2.2.2.2.1) (fun hs_=>hs_.2.2.2.2.2.2.1)) (fun hn_=>(Kd.fresh' (Kd.N_lt (yr HO642)) k_ hn_)),Or.elim hk_ (fun hs_=>Or.elim hs_ (fun hs_=>hs_.2.2.2.2.2.2.2.1) (fun hs_=>hs_.2.2.2.2.2.2.2.1)) (fun hn_=>(Kd.fresh' (Kd.N_lt (yr HO645)) k_ hn_)),Or.elim hk_ (fun hs_=>Or.elim hs_ (fun hs_=>hs_.2.2.2.2.2.2.2.2.1) (fun hs_=>hs_.2.2.2.2.2.2.2.2.1)) (fun hn_=>(Kd.freshB (yk BK616) k_ hn_)),Or.elim hk_ (fun hs_=>Or.elim hs_ (fun hs_=>hs_.2.2.2.2.2.2.2.2.2.1) (fun hs_=>hs_.2.2.2.2.2.2.2.2.2.1)) (fun hn_=>(Kd.freshB (yk BK629) k_ hn_)),Or.elim hk_ (fun hs_=>Or.elim hs_ (fun hs_=>hs_.2.2.2.2.2.2.2.2.2.2) (fun hs_=>hs_.2.2.2.2.2.2.2.2.2.2)) (fun hn_=>(Kd.freshB (yk BK647) k_ hn_))⟩)) (zE yhb))
        replace HO619:=yRb HO619 hb
        replace HO624:=yNb HO624 hb
        replace HO627:=yNb HO627 hb
        replace HO632:=yRb HO632 hb
        replace HO638:=yNb HO638 hb
        replace HO642:=yNb HO642 hb
        replace HO645:=yNb HO645 hb
        replace BK616:=ybb BK616 hb
        replace BK629:=ybb BK629 hb
        replace BK647:=ybb BK647 hb
        replace HB:=ybs hb
        (try clear hb)
        (try clear hb2)
        (try clear hk)
        (try clear hi)
        (try clear ho0)
        (try clear ho1)
        obtain ⟨Ao73,co73,eo73⟩:=Kd.V_slice HO651.out
        (first|subst eo73|(injection eo73 with f1_ f2_ f3_;have f4_:=f1_.symm;have f5_:=f3_.symm;clear f1_ f2_ f3_;subst f4_;subst f5_))
        obtain ⟨Ao74,co74,eo74⟩:=Kd.V_slice HO654.out
        (first|subst eo74|(injection eo74 with f1_ f2_ f3_;have f4_:=f1_.symm;have f5_:=f3_.symm;clear f1_ f2_ f3_;subst f4_;subst f5_))
        obtain ⟨Ao75,co75,eo75⟩:=Kd.V_slice HO658.out
        (first|subst eo75|(injection eo75 with f1_ f2_ f3_;have f4_:=f1_.symm;have f5_:=f3_.symm;clear f1_ f2_ f3_;subst f4_;subst f5_))
        obtain ⟨Ao76,co76,eo76⟩:=Kd.V_slice HO661.out
        (first|subst eo76|(injection eo76 with f1_ f2_ f3_;have f4_:=f1_.symm;have f5_:=f3_.symm;clear f1_ f2_ f3_;subst f4_;subst f5_))
        refine hK.out _ _ ⟨(zs BK629.out 0).trans rfl,(zs BK629.out 1).trans rfl,(zs BK629.out 2).trans rfl,(zs BK616.out 0).trans rfl,(zs BK616.out 1).trans rfl,(zs BK616.out 2).trans rfl,(zs BK647.out 0).trans rfl,(zs BK647.out 1).trans rfl,(zs BK647.out 2).trans rfl⟩ (fun hHeld => ?_)
        clear hK K
        refine ym (some 46) ?_
        refine yw 12 47 HT_ (fun K hK => ?_)
        refine ygs Try.func22 #[.agg #[.bool t648, .slice Ao73 t649.length co73, .slice Ao74 t652.length co74], .agg #[.bool t655, .slice Ao75 t656.length co75, .slice Ao76 t659.length co76]] ?_
        with_reducible refine (psalteryref13_Same.calls k t648 _ _ t649 _ _ t652 t655 _ _ t656 _ _ t659 true _ ?side1 ?side2 ?side3 ?side4 ?side5 ?side6 ?side7 ?side8 A8.out).mono ?_
        (case side1=>exact yce (Kd.V_reads' HO651.out).2.2)
        (case side2=>exact (Kd.V_reads' HO651.out).2.1)
        (case side3=>exact yce (Kd.V_reads' HO654.out).2.2)
        (case side4=>exact (Kd.V_reads' HO654.out).2.1)
        (case side5=>exact yce (Kd.V_reads' HO658.out).2.2)
        (case side6=>exact (Kd.V_reads' HO658.out).2.1)
        (case side7=>exact yce (Kd.V_reads' HO661.out).2.2)
        (case side8=>exact (Kd.V_reads' HO661.out).2.1)
        rintro e w77 ⟨rfl,hb⟩
        refine ⟨_,rfl, ?_⟩
        replace HO594:=yNb HO594 hb
        replace HO615:=yNb HO615 hb
        replace HO619:=yRb HO619 hb
        replace HO624:=yNb HO624 hb
        replace HO627:=yNb HO627 hb
        replace HO632:=yRb HO632 hb
        replace HO638:=yNb HO638 hb
        replace HO642:=yNb HO642 hb
        replace HO645:=yNb HO645 hb
        replace HO651:=yVb HO651 hb
        replace HO654:=yVb HO654 hb
        replace HO658:=yVb HO658 hb
        replace HO661:=yVb HO661 hb
        replace BK616:=ybb BK616 hb
        replace BK629:=ybb BK629 hb
        replace BK647:=ybb BK647 hb
        replace HB:=ybs hb
        (try clear hb)
        (try clear hb2)
        (try clear hk)
        (try clear hi)
        refine hK.out _ _ ⟨(zs BK629.out 0).trans rfl,(zs BK629.out 1).trans rfl,(zs BK629.out 2).trans rfl,(zs BK616.out 0).trans rfl,(zs BK616.out 1).trans rfl,(zs BK616.out 2).trans rfl,(zs BK647.out 0).trans rfl,(zs BK647.out 1).trans rfl,(zs BK647.out 2).trans rfl⟩ (fun hHeld => ?_)
        clear hK K
        refine ym (some 47) ?_
        refine yp 13 48 HT_ ?_
        refine yp 14 49 HT_ ?_
        refine yp 15 50 HT_ ?_
        refine yp 16 51 HT_ ?_
        refine yp 17 52 HT_ ?_
        refine yp 18 53 HT_ ?_
        refine yp 19 54 HT_ ?_
        refine yl 20 55 HT_ HW_ hHeld ?_
        refine yp 21 56 HT_ ?_
        refine yp 22 57 HT_ ?_
        refine yp 23 58 HT_ ?_
        refine yp 24 59 HT_ ?_
        refine yl 25 60 HT_ HW_ hHeld ?_
        refine yw 26 61 HT_ (fun K hK => ?_)
        refine Kd.R_lit_step (Kd.int .i64) _ 3 ?hg (N:=61) ?hd (xs:=([6,0,0,1,2] : List Int)) (inner := [.int .i64 6, .int .i64 0, .int .i64 0, .int .i64 1, .int .i64 2]) (ok:=fun _=>True) (okp:=fun _=>True) ?hr ?hp (fun _ hk=>hk) trivial (Below.refl _ _) (Nat.le_refl _) (by simp) ?_;(case hd=>rfl);(case hg=>rfl);(case hr=>first|(go_simp;done)|(go_simp;rfl));(case hp=>exact (Reps.one (show Kd.M (Kd.int .i64) _ _ _ 6 [.int .i64 6] from rfl) (Reps.one (show Kd.M (Kd.int .i64) _ _ _ 0 [.int .i64 0] from rfl) (Reps.one (show Kd.M (Kd.int .i64) _ _ _ 0 [.int .i64 0] from rfl) (Reps.one (show Kd.M (Kd.int .i64) _ _ _ 1 [.int .i64 1] from rfl) (Reps.one (show Kd.M (Kd.int .i64) _ _ _ 2 [.int .i64 2] from rfl) (Reps.none _ _)))))))
        intro v664 w78 ho79 hb hg_ hnew_
        clear hg_ hnew_
        (first|rw [← Ny663.out] at ho79|(simp only [Int.reduceToNat] at ho79;rw [← Ny663.out] at ho79)|rw [show (List.replicate (Int.toNat 11) (0 : Int))=y663 from Ny663.out.symm] at ho79)
        replace HO594:=zm (Kd.N_elder' (yr HO594) (Kd.R_base ho79) hb)
        replace HO615:=zm (Kd.N_elder' (yr HO615) (Kd.R_base ho79) hb)
        replace HO619:=yRb HO619 hb
        replace HO624:=zm (Kd.N_elder' (yr HO624) (Kd.R_base ho79) hb)
        replace HO627:=zm (Kd.N_elder' (yr HO627) (Kd.R_base ho79) hb)
        replace HO632:=yRb HO632 hb
        replace HO638:=zm (Kd.N_elder' (yr HO638) (Kd.R_base ho79) hb)
        replace HO642:=zm (Kd.N_elder' (yr HO642) (Kd.R_base ho79) hb)
        replace HO645:=zm (Kd.N_elder' (yr HO645) (Kd.R_base ho79) hb)
        replace HO651:=zm (Kd.V_elder' (yr HO651) (Kd.R_base ho79) hb)
        replace HO654:=zm (Kd.V_elder' (yr HO654) (Kd.R_base ho79) hb)
        replace HO658:=zm (Kd.V_elder' (yr HO658) (Kd.R_base ho79) hb)
        replace HO661:=zm (Kd.V_elder' (yr HO661) (Kd.R_base ho79) hb)
        have HO665:=zm (Kd.R_lower ho79 (zE yhb))
        replace BK616:=ybb BK616 hb
        replace BK629:=ybb BK629 hb
        replace BK647:=ybb BK647 hb
        replace HB:=ybs hb
        clear hb ho79
        obtain ⟨Ao80,co80,eo80⟩:=Kd.R_slice HO665.out
        (first|subst eo80|(injection eo80 with f1_ f2_ f3_;have f4_:=f1_.symm;have f5_:=f3_.symm;clear f1_ f2_ f3_;subst f4_;subst f5_))
        refine hK.out _ _ ⟨(zs BK629.out 0).trans rfl,(zs BK629.out 1).trans rfl,(zs BK629.out 2).trans rfl,(zs BK616.out 0).trans rfl,(zs BK616.out 1).trans rfl,(zs BK616.out 2).trans rfl,(zs BK647.out 0).trans rfl,(zs BK647.out 1).trans rfl,(zs BK647.out 2).trans rfl⟩ (fun hHeld => ?_)
        clear hK K
        refine ym (some 61) ?_
        refine yw 27 62 HT_ (fun K hK => ?_)
        refine Kd.N_lit_step (Kd.slice 3 (Kd.int .i64)) _ 49 ?hg (N' := 62) ?hd (xs:=([y663] : List (List Int))) (inner := [.slice Ao80 y663.length co80]) (ok:=(fun k_=>some k_≠(.slice Ao42 y592.length co42 : Value).ownBlock∧some k_≠(.slice Ao41 y613.length co41 : Value).ownBlock∧some k_≠(.slice Ao46 t617.length co46 : Value).ownBlock∧some k_≠(.slice Ao51 t622.length co51 : Value).ownBlock∧some k_≠(.slice Ao52 t625.length co52 : Value).ownBlock∧some k_≠(.slice Ao60 y630.length co60 : Value).ownBlock∧some k_≠(.slice Ao61 y636.length co61 : Value).ownBlock∧some k_≠(.slice Ao67 t640.length co67 : Value).ownBlock∧some k_≠(.slice Ao68 t643.length co68 : Value).ownBlock∧k_≠gb616∧k_≠gb629∧k_≠gb647)) (okp:=(fun k_=>some k_≠(.slice Ao42 y592.length co42 : Value).ownBlock∧some k_≠(.slice Ao41 y613.length co41 : Value).ownBlock∧some k_≠(.slice Ao46 t617.length co46 : Value).ownBlock∧some k_≠(.slice Ao51 t622.length co51 : Value).ownBlock∧some k_≠(.slice Ao52 t625.length co52 : Value).ownBlock∧some k_≠(.slice Ao60 y630.length co60 : Value).ownBlock∧some k_≠(.slice Ao61 y636.length co61 : Value).ownBlock∧some k_≠(.slice Ao67 t640.length co67 : Value).ownBlock∧some k_≠(.slice Ao68 t643.length co68 : Value).ownBlock∧k_≠gb616∧k_≠gb629∧k_≠gb647)) ?hr ?hp (fun _ hk=>hk) ((show ∀ k_,w78.heap.size≤k_→(fun k_=>some k_≠(.slice Ao42 y592.length co42 : Value).ownBlock∧some k_≠(.slice Ao41 y613.length co41 : Value).ownBlock∧some k_≠(.slice Ao46 t617.length co46 : Value).ownBlock∧some k_≠(.slice Ao51 t622.length co51 : Value).ownBlock∧some k_≠(.slice Ao52 t625.length co52 : Value).ownBlock∧some k_≠(.slice Ao60 y630.length co60 : Value).ownBlock∧some k_≠(.slice Ao61 y636.length co61 : Value).ownBlock∧some k_≠(.slice Ao67 t640.length co67 : Value).ownBlock∧some k_≠(.slice Ao68 t643.length co68 : Value).ownBlock∧k_≠gb616∧k_≠gb629∧k_≠gb647) k_ from fun k_ hk=>⟨Kd.fresh' (Kd.N_lt (yr HO594)) k_ hk,Kd.fresh' (Kd.N_lt (yr HO615)) k_ hk,Kd.fresh' (Kd.R_lt (yr HO619)) k_ hk,Kd.fresh' (Kd.N_lt (yr HO624)) k_ hk,Kd.fresh' (Kd.N_lt (yr HO627)) k_ hk,Kd.fresh' (Kd.R_lt (yr HO632)) k_ hk,Kd.fresh' (Kd.N_lt (yr HO638)) k_ hk,Kd.fresh' (Kd.N_lt (yr HO642)) k_ hk,Kd.fresh' (Kd.N_lt (yr HO645)) k_ hk,Kd.freshB (yk BK616) k_ hk,Kd.freshB (yk BK629) k_ hk,Kd.freshB (yk BK647) k_ hk⟩) _ (Nat.le_refl _)) (Below.refl _ _) (Nat.le_refl _) (by simp) ?_;(case hd=>rfl);(case hg=>rfl);(case hr=>first|(go_simp;done)|(go_simp;rfl));(case hp=>exact (Reps.one (show Kd.FK (Kd.slice 3 (Kd.int .i64)) _ _ y663 [.slice Ao80 y663.length co80] from (Kd.FK_slice_mk (Kd.R_reads' (zG (ok' := (fun k_=>some k_≠(.slice Ao42 y592.length co42 : Value).ownBlock∧some k_≠(.slice Ao41 y613.length co41 : Value).ownBlock∧some k_≠(.slice Ao46 t617.length co46 : Value).ownBlock∧some k_≠(.slice Ao51 t622.length co51 : Value).ownBlock∧some k_≠(.slice Ao52 t625.length co52 : Value).ownBlock∧some k_≠(.slice Ao60 y630.length co60 : Value).ownBlock∧some k_≠(.slice Ao61 y636.length co61 : Value).ownBlock∧some k_≠(.slice Ao67 t640.length co67 : Value).ownBlock∧some k_≠(.slice Ao68 t643.length co68 : Value).ownBlock∧k_≠gb616∧k_≠gb629∧k_≠gb647)) (Kd.R_types (Kd.R_types (Kd.R_types (Kd.R_apart' (Kd.R_apart' (Kd.R_apart' (Kd.R_apart' (Kd.R_apart' (Kd.R_apart' (Kd.R_apart' (Kd.R_apart' (Kd.R_apart' (HO665.out) (Kd.N_typed HO594.out) (by decide)) (Kd.N_typed HO615.out) (by decide)) (Kd.R_typed HO619.out) (by decide)) (Kd.N_typed HO624.out) (by decide)) (Kd.N_typed HO627.out) (by decide)) (Kd.R_typed HO632.out) (by decide)) (Kd.N_typed HO638.out) (by decide)) (Kd.N_typed HO642.out) (by decide)) (Kd.N_typed HO645.out) (by decide)) BK616.out (by decide)) BK629.out (by decide)) BK647.out (by decide)) (fun k_ hk=>⟨hk.1.1.1.1.1.1.1.1.1.1.1.2,⟨hk.1.1.1.1.1.1.1.1.1.1.2,⟨hk.1.1.1.1.1.1.1.1.1.2,⟨hk.1.1.1.1.1.1.1.1.2,⟨hk.1.1.1.1.1.1.1.2,⟨hk.1.1.1.1.1.1.2,⟨hk.1.1.1.1.1.2,⟨hk.1.1.1.1.2,⟨hk.1.1.1.2,⟨hk.1.1.2,⟨hk.1.2,hk.2⟩⟩⟩⟩⟩⟩⟩⟩⟩⟩⟩))).2.1 (Kd.R_F (zG (ok' := (fun k_=>some k_≠(.slice Ao42 y592.length co42 : Value).ownBlock∧some k_≠(.slice Ao41 y613.length co41 : Value).ownBlock∧some k_≠(.slice Ao46 t617.length co46 : Value).ownBlock∧some k_≠(.slice Ao51 t622.length co51 : Value).ownBlock∧some k_≠(.slice Ao52 t625.length co52 : Value).ownBlock∧some k_≠(.slice Ao60 y630.length co60 : Value).ownBlock∧some k_≠(.slice Ao61 y636.length co61 : Value).ownBlock∧some k_≠(.slice Ao67 t640.length co67 : Value).ownBlock∧some k_≠(.slice Ao68 t643.length co68 : Value).ownBlock∧k_≠gb616∧k_≠gb629∧k_≠gb647)) (Kd.R_types (Kd.R_types (Kd.R_types (Kd.R_apart' (Kd.R_apart' (Kd.R_apart' (Kd.R_apart' (Kd.R_apart' (Kd.R_apart' (Kd.R_apart' (Kd.R_apart' (Kd.R_apart' (HO665.out) (Kd.N_typed HO594.out) (by decide)) (Kd.N_typed HO615.out) (by decide)) (Kd.R_typed HO619.out) (by decide)) (Kd.N_typed HO624.out) (by decide)) (Kd.N_typed HO627.out) (by decide)) (Kd.R_typed HO632.out) (by decide)) (Kd.N_typed HO638.out) (by decide)) (Kd.N_typed HO642.out) (by decide)) (Kd.N_typed HO645.out) (by decide)) BK616.out (by decide)) BK629.out (by decide)) BK647.out (by decide)) (fun k_ hk=>⟨hk.1.1.1.1.1.1.1.1.1.1.1.2,⟨hk.1.1.1.1.1.1.1.1.1.1.2,⟨hk.1.1.1.1.1.1.1.1.1.2,⟨hk.1.1.1.1.1.1.1.1.2,⟨hk.1.1.1.1.1.1.1.2,⟨hk.1.1.1.1.1.1.2,⟨hk.1.1.1.1.1.2,⟨hk.1.1.1.1.2,⟨hk.1.1.1.2,⟨hk.1.1.2,⟨hk.1.2,hk.2⟩⟩⟩⟩⟩⟩⟩⟩⟩⟩⟩))))) (Reps.none _ _)))
        intro v667 w81 ho82 hb hg_ hnew_
        clear hg_ hnew_
        (first|rw [← Ny666.out] at ho82|(simp only [Int.reduceToNat] at ho82;rw [← Ny666.out] at ho82)|rw [show (List.replicate (Int.toNat 11) (0 : Int))=y666 from Ny666.out.symm] at ho82)
        replace HO594:=zm (Kd.N_elder' (yr HO594) (Kd.N_base ho82) hb)
        replace HO615:=zm (Kd.N_elder' (yr HO615) (Kd.N_base ho82) hb)
        replace HO619:=yRb HO619 hb
        replace HO624:=zm (Kd.N_elder' (yr HO624) (Kd.N_base ho82) hb)
        replace HO627:=zm (Kd.N_elder' (yr HO627) (Kd.N_base ho82) hb)
        replace HO632:=yRb HO632 hb
        replace HO638:=zm (Kd.N_elder' (yr HO638) (Kd.N_base ho82) hb)
        replace HO642:=zm (Kd.N_elder' (yr HO642) (Kd.N_base ho82) hb)
        replace HO645:=zm (Kd.N_elder' (yr HO645) (Kd.N_base ho82) hb)
        replace HO651:=zm (Kd.V_elder' (yr HO651) (Kd.N_base ho82) hb)
        replace HO654:=zm (Kd.V_elder' (yr HO654) (Kd.N_base ho82) hb)
        replace HO658:=zm (Kd.V_elder' (yr HO658) (Kd.N_base ho82) hb)
        replace HO661:=zm (Kd.V_elder' (yr HO661) (Kd.N_base ho82) hb)
        have HO668:=zm (Kd.N_lower ho82 (zE yhb))
        replace BK616:=ybb BK616 hb
        replace BK629:=ybb BK629 hb
        replace BK647:=ybb BK647 hb
        replace HB:=ybs hb
        clear HO665;clear hb ho82
        obtain ⟨Ao83,co83,eo83⟩:=Kd.N_slice HO668.out
        (first|subst eo83|(injection eo83 with f1_ f2_ f3_;have f4_:=f1_.symm;have f5_:=f3_.symm;clear f1_ f2_ f3_;subst f4_;subst f5_))
        refine hK.out _ _ ⟨(zs BK629.out 0).trans rfl,(zs BK629.out 1).trans rfl,(zs BK629.out 2).trans rfl,(zs BK616.out 0).trans rfl,(zs BK616.out 1).trans rfl,(zs BK616.out 2).trans rfl,(zs BK647.out 0).trans rfl,(zs BK647.out 1).trans rfl,(zs BK647.out 2).trans rfl⟩ (fun hHeld => ?_)
        clear hK K
        refine ym (some 62) ?_
        refine yw 28 63 HT_ (fun K hK => ?_)
        refine ygs Try.func24 #[.slice Ao67 t640.length co67, .slice Ao83 y666.length co83] ?_
        with_reducible refine (psalteryref12_Same.calls k _ _ t640 _ _ y666 true _ ?side1 ?side2 ?side3 ?side4 A12.out).mono ?_
        (case side1=>exact yce (Kd.N_reads' HO642.out).2.2)
        (case side2=>exact (Kd.N_reads' HO642.out).2.1)
        (case side3=>exact yce (Kd.N_reads' HO668.out).2.2)
        (case side4=>exact (Kd.N_reads' HO668.out).2.1)
        rintro e w' ⟨rfl,⟨nd,rfl⟩⟩
        refine ⟨_,rfl, ?_⟩
        refine hK.out _ _ ⟨(zs BK629.out 0).trans rfl,(zs BK629.out 1).trans rfl,(zs BK629.out 2).trans rfl,(zs BK616.out 0).trans rfl,(zs BK616.out 1).trans rfl,(zs BK616.out 2).trans rfl,(zs BK647.out 0).trans rfl,(zs BK647.out 1).trans rfl,(zs BK647.out 2).trans rfl⟩ (fun hHeld => ?_)
        clear hK K
        refine ym (some 63) ?_
        refine yp 29 64 HT_ ?_
        refine yp 30 65 HT_ ?_
        refine yp 31 66 HT_ ?_
        refine yp 32 67 HT_ ?_
        refine yp 33 68 HT_ ?_
        refine yp 34 69 HT_ ?_
        refine yl 35 70 HT_ HW_ hHeld ?_
        refine yw 36 71 HT_ (fun K hK => ?_)
        refine ygs Try.func15 #[.int .i64 11, .int .i64 1, .agg #[.bool true, .slice Ao42 y592.length co42, .slice Ao41 y613.length co41]] ?_
        with_reducible refine (cpack_Right.calls k 11 1 true _ _ y592 _ _ y613 t670 _ ?side1 ?side2 ?side3 ?side4 A15.out).mono ?_
        (case side1=>exact yce (Kd.N_reads' HO594.out).2.2)
        (case side2=>exact (Kd.N_reads' HO594.out).2.1)
        (case side3=>exact yce (Kd.N_reads' HO615.out).2.2)
        (case side4=>exact (Kd.N_reads' HO615.out).2.1)
        rintro e w84 ⟨rfl,hb⟩
        refine ⟨_,rfl, ?_⟩
        replace HO594:=yNb HO594 hb
        replace HO615:=yNb HO615 hb
        replace HO619:=yRb HO619 hb
        replace HO624:=yNb HO624 hb
        replace HO627:=yNb HO627 hb
        replace HO632:=yRb HO632 hb
        replace HO638:=yNb HO638 hb
        replace HO642:=yNb HO642 hb
        replace HO645:=yNb HO645 hb
        replace HO651:=yVb HO651 hb
        replace HO654:=yVb HO654 hb
        replace HO658:=yVb HO658 hb
        replace HO661:=yVb HO661 hb
        replace HO668:=yNb HO668 hb
        replace BK616:=ybb BK616 hb
        replace BK629:=ybb BK629 hb
        replace BK647:=ybb BK647 hb
        replace HB:=ybs hb
        (try clear hb)
        (try clear hb2)
        (try clear hk)
        (try clear hi)
        refine hK.out _ _ ⟨(zs BK629.out 0).trans rfl,(zs BK629.out 1).trans rfl,(zs BK629.out 2).trans rfl,(zs BK616.out 0).trans rfl,(zs BK616.out 1).trans rfl,(zs BK616.out 2).trans rfl,(zs BK647.out 0).trans rfl,(zs BK647.out 1).trans rfl,(zs BK647.out 2).trans rfl⟩ (fun hHeld => ?_)
        clear hK K
        refine ym (some 71) ?_
        refine yp 37 72 HT_ ?_
        refine yp 38 0 HT_ ?_
        refine done_ (done_of HT_.out (by kernel_rfl)) ?_
        try go_wp2
        go_ret
        exact ⟨ye,yhb⟩
       ·
        rw [if_neg c14] at H
        have c14b0 : (t646 == 0)=false:=beq_eq_false_iff_ne.mpr c14
        have c14b1 : (t646 != 0)=true:=bne_iff_ne.mpr c14
        exact absurd H (by simp)
      ·
       replace c13:=Bool.eq_false_iff.mpr c13
       subst c13
       rw [ynf] at H
       exact absurd H (by simp)
    ·
     rw [if_neg c10] at H
     have c10b0 : (t628 == 0)=false:=beq_eq_false_iff_ne.mpr c10
     have c10b1 : (t628 != 0)=true:=bne_iff_ne.mpr c10
     exact absurd H (by simp)
   ·
    replace c9:=Bool.eq_false_iff.mpr c9
    subst c9
    rw [ynf] at H
    exact absurd H (by simp)
  ·
   rw [if_neg c5] at H
   have c5b0 : (t620 == 0)=false:=beq_eq_false_iff_ne.mpr c5
   have c5b1 : (t620 != 0)=true:=bne_iff_ne.mpr c5
   exact absurd H (by simp)
 ·
  rw [if_neg c4] at H
  have c4b0 : ((t617.length : Int) == 11)=false:=beq_eq_false_iff_ne.mpr c4
  have c4b1 : ((t617.length : Int) != 11)=true:=bne_iff_ne.mpr c4
  exact absurd H (by simp)

end Go.Proofs.Ytnmbndkojpjkmaa.Prt

namespace Go.Proofs.Ytnmbndkojpjkmaa.Prt
open Go.RowKit Go.Proofs.YtnmbndkojpjkmaaW.PrintWords Go.Proofs.YtnmbndkojpjkmaaW.PrintLast Go.Proofs.YtnmbndkojpjkmaaW.PrintMore
attribute [local go_sem] max2_int min2_int max_two min_two max_three min_three max_four min_four   -- for this text's walks alone
set_option linter.unusedVariables false
set_option linter.unusedSimpArgs false

/-! ### psalteryref06_Size: function 80 -/
def psalteryref06_Size.l0 : Nat→Int→Int→Option (Int)
 | 0,_,_=>none
 | k+1,x0,x3=>if x3≤12 then (if x0=x3 then (some x3) else (if x0=(wrap64 (-x3)) then (some x3) else (psalteryref06_Size.l0 k x0 (wrap64 (x3+1))))) else (some 13)
def psalteryref06_Size.f (k : Nat) (a0 : Int) : Option (Int):=psalteryref06_Size.l0 k a0 0
theorem psalteryref06_Size.mono_l : ∀ k,(∀ y0 y1,LeO (psalteryref06_Size.l0 k y0 y1) (psalteryref06_Size.l0 (k+1) y0 y1))
 | 0=>fun _ _ r h=>by simp [psalteryref06_Size.l0] at h
 | k+1=>by
  have ih0:=psalteryref06_Size.mono_l k
  ·
   intro y0 y1
   unfold psalteryref06_Size.l0
   repeat' first
   | (with_reducible exact ih0 _ _)
   | (with_reducible exact LeO.refl _)
   | (with_reducible exact LeO.none _)
   | (with_reducible refine LeO.ite ?_ ?_)
   | (with_reducible refine LeO.bind ?_ (fun _ => ?_))
   | exact ih0 _ _
   | exact LeO.none _
   | refine LeO.ite ?_ ?_
   | refine LeO.bind ?_ (fun _ => ?_)
theorem psalteryref06_Size.mono : ∀ a0 k,LeO (psalteryref06_Size.f k a0) (psalteryref06_Size.f (k+1) a0):=by
 intro a0 k
 have ih0:=psalteryref06_Size.mono_l k
 unfold psalteryref06_Size.f
 repeat' first
   | (with_reducible exact ih0 _ _)
   | (with_reducible exact LeO.refl _)
   | (with_reducible exact LeO.none _)
   | (with_reducible refine LeO.ite ?_ ?_)
   | (with_reducible refine LeO.bind ?_ (fun _ => ?_))
   | exact ih0 _ _
   | exact LeO.none _
   | refine LeO.ite ?_ ?_
   | refine LeO.bind ?_ (fun _ => ?_)
set_option maxHeartbeats 8000000 in
set_option maxRecDepth 100000 in
theorem psalteryref06_Size.calls (k : Nat) (a0 : Int) (r : Int) (w : World) (h : psalteryref06_Size.f k a0=some r) :
  Calls Try.prog 80 #[.int .i64 a0] w fun e w' => e=.returned (.int .i64 r)∧Drawn0 w w' := by
 have H : (psalteryref06_Size.l0 k a0 0)=some r:=h
 clear h
 have H' := zm H
 clear H
 go_enter Try.func80,Try.ntmps80
 go_wp2
 go_loopg [3] k (fun kq v3 w' => ∃ (x3_1 : Int),v3=.int .i64 x3_1∧Aside0 (psalteryref06_Size.l0 kq a0 x3_1=some r)∧Aside0 (kq≤k)∧Drawn0 w w')
 case atStart=>exact ⟨(0),yq,H',⟨Nat.le_refl _⟩,yd⟩
 case round =>
  clear H'
  obtain ⟨x3_1,rfl,HA,HK1,⟨m1,rfl⟩⟩:=hrel
  cases gk with
  | zero=>exact absurd HA.out (by simp [psalteryref06_Size.l0])
  | succ k1 =>
   have H:=HA.out;clear HA
   simp only [psalteryref06_Size.l0] at H
   by_cases c2 : x3_1≤12
   ·
    rw [if_pos c2] at H
    have c2b0 : decide (x3_1≤12)=true:=decide_eq_true c2
    clear c2
    by_cases c3 : a0=x3_1
    ·
     rw [if_pos c3] at H
     have c3b0 : (a0 == x3_1)=true:=beq_iff_eq.mpr c3
     have c3b1 : (a0 != x3_1)=false:=bne_eq_false_iff_eq.mpr c3
     clear c3
     obtain rfl:=Option.some.inj H
     go_wp2
     go_ret
     exact ⟨yq,yd⟩
    ·
     rw [if_neg c3] at H
     have c3b0 : (a0 == x3_1)=false:=beq_eq_false_iff_ne.mpr c3
     have c3b1 : (a0 != x3_1)=true:=bne_iff_ne.mpr c3
     by_cases c4 : a0=(wrap64 (-x3_1))
     ·
      rw [if_pos c4] at H
      have c4b0 : (a0 == (wrap64 (-x3_1)))=true:=beq_iff_eq.mpr c4
      have c4b1 : (a0 != (wrap64 (-x3_1)))=false:=bne_eq_false_iff_eq.mpr c4
      clear c4
      obtain rfl:=Option.some.inj H
      go_wp2
      go_ret
      exact ⟨yq,yd⟩
     ·
      rw [if_neg c4] at H
      have c4b0 : (a0 == (wrap64 (-x3_1)))=false:=beq_eq_false_iff_ne.mpr c4
      have c4b1 : (a0 != (wrap64 (-x3_1)))=true:=bne_iff_ne.mpr c4
      have H' := zm H
      clear H
      go_wp2
      go_roundg k1
      case measure=>have:=HK1.out;omega
      case rel=>exact ⟨(wrap64 (x3_1+1)),yq,H',⟨by have:=HK1.out;omega⟩,yd⟩
   ·
    rw [if_neg c2] at H
    have c2b0 : decide (x3_1≤12)=false:=decide_eq_false c2
    clear c2
    obtain rfl:=Option.some.inj H
    go_wp2
    go_ret
    exact ⟨yq,yd⟩

end Go.Proofs.Ytnmbndkojpjkmaa.Prt

namespace Go.Proofs.Ytnmbndkojpjkmaa.Prt
open Go.RowKit Go.Proofs.YtnmbndkojpjkmaaW.PrintWords Go.Proofs.YtnmbndkojpjkmaaW.PrintLast Go.Proofs.YtnmbndkojpjkmaaW.PrintMore
attribute [local go_sem] max2_int min2_int max_two min_two max_three min_three max_four min_four   -- for this text's walks alone
set_option linter.unusedVariables false
set_option linter.unusedSimpArgs false

/-! ### psalteryref06_Pulses: function 40 -/
def psalteryref06_Pulses.l0 : Nat→List Int→Int→Int→Option (Int)
 | 0,_,_,_=>none
 | k+1,x0,x3,x4=>if x4 < (x0.length : Int) then (if 0≤x4 then ((psalteryref06_Size.f k (rd x0 x4)).bind fun t676=>(psalteryref06_Pulses.l0 k x0 (wrap64 (x3+t676)) (wrap64 (x4+1)))) else (none)) else (some x3)
def psalteryref06_Pulses.f (k : Nat) (l0 : List Int) : Option (Int):=psalteryref06_Pulses.l0 k l0 0 0
theorem psalteryref06_Pulses.mono_l : ∀ k,(∀ y0 y1 y2,LeO (psalteryref06_Pulses.l0 k y0 y1 y2) (psalteryref06_Pulses.l0 (k+1) y0 y1 y2))
 | 0=>fun _ _ _ r h=>by simp [psalteryref06_Pulses.l0] at h
 | k+1=>by
  have ih0:=psalteryref06_Pulses.mono_l k
  ·
   intro y0 y1 y2
   unfold psalteryref06_Pulses.l0
   repeat' first
   | (with_reducible exact ih0 _ _ _)
   | (with_reducible exact psalteryref06_Size.mono _ _)
   | (with_reducible exact LeO.refl _)
   | (with_reducible exact LeO.none _)
   | (with_reducible refine LeO.ite ?_ ?_)
   | (with_reducible refine LeO.bind ?_ (fun _ => ?_))
   | exact ih0 _ _ _
   | exact psalteryref06_Size.mono _ _
   | exact LeO.none _
   | refine LeO.ite ?_ ?_
   | refine LeO.bind ?_ (fun _ => ?_)
theorem psalteryref06_Pulses.mono : ∀ a0 k,LeO (psalteryref06_Pulses.f k a0) (psalteryref06_Pulses.f (k+1) a0):=by
 intro a0 k
 have ih0:=psalteryref06_Pulses.mono_l k
 unfold psalteryref06_Pulses.f
 repeat' first
   | (with_reducible exact ih0 _ _ _)
   | (with_reducible exact psalteryref06_Size.mono _ _)
   | (with_reducible exact LeO.refl _)
   | (with_reducible exact LeO.none _)
   | (with_reducible refine LeO.ite ?_ ?_)
   | (with_reducible refine LeO.bind ?_ (fun _ => ?_))
   | exact ih0 _ _ _
   | exact psalteryref06_Size.mono _ _
   | exact LeO.none _
   | refine LeO.ite ?_ ?_
   | refine LeO.bind ?_ (fun _ => ?_)
set_option maxHeartbeats 8000000 in
set_option maxRecDepth 100000 in
theorem psalteryref06_Pulses.calls (k : Nat) (A0 : Option Addr) (c0 : Nat) (l0 : List Int) (r : Int) (w : World) (hr0 : Kd.C (Kd.int .i64) w A0 l0.length l0) (hc0 : l0.length≤c0) (h : psalteryref06_Pulses.f k l0=some r) :
  Calls Try.prog 40 #[.slice A0 l0.length c0] w fun e w' => e=.returned (.int .i64 r)∧Drawn0 w w' := by
 have HR0:=zm hr0;have HC0:=zm hc0;clear hr0 hc0
 have H : (psalteryref06_Pulses.l0 k l0 0 0)=some r:=h
 clear h
 have H' := zm H
 clear H
 go_enter Try.func40,Try.ntmps40
 go_wp2
 go_loopg [3,4] k (fun kq v3 v4 w' => ∃ (x3_1 : Int) (x4_1 : Int),v3=.int .i64 x3_1∧v4=.int .i64 x4_1∧Aside0 (psalteryref06_Pulses.l0 kq l0 x3_1 x4_1=some r)∧Aside0 (kq≤k)∧Drawn0 w w')
 case atStart=>exact ⟨(0),(0),yq,yq,H',⟨Nat.le_refl _⟩,yd⟩
 case round =>
  clear H'
  obtain ⟨x3_1,x4_1,rfl,rfl,HA,HK1,⟨m1,rfl⟩⟩:=hrel
  cases gk with
  | zero=>exact absurd HA.out (by simp [psalteryref06_Pulses.l0])
  | succ k1 =>
   have H:=HA.out;clear HA
   simp only [psalteryref06_Pulses.l0] at H
   by_cases c2 : x4_1 < (l0.length : Int)
   ·
    rw [if_pos c2] at H
    have c2b0 : decide (x4_1 < (l0.length : Int))=true:=decide_eq_true c2
    clear c2
    by_cases c3 : 0≤x4_1
    ·
     rw [if_pos c3] at H
     have c3b0 : decide (0≤x4_1)=true:=decide_eq_true c3
     clear c3
     obtain ⟨t676,A4,H⟩:=ybi H
     have H' := zm H
     clear H
     have p675 : 0≤(x4_1 : Int):=yt
     have q675 : x4_1 < (l0.length : Int):=yt
     obtain ⟨ad675,e675,hx675_0⟩:=Kd.at_int HR0.out x4_1 p675 q675
     cases e675
     replace p675:=eq_true p675
     replace q675:=eq_true q675
     go_wp2_with (first|((with_reducible refine gate_callee (f:=80) rfl ?_);refine ygl 16 Try.func80 #[.int .i64 (rd l0 x4_1)] ?_;(with_reducible refine (psalteryref06_Size.calls k1 (rd l0 x4_1) t676 _ A4.out).mono ?_);rintro e w' ⟨rfl,⟨nd,rfl⟩⟩;refine ⟨_,rfl, ?_⟩))
     go_roundg k1
     case measure=>have:=HK1.out;omega
     case rel=>exact ⟨(wrap64 (x3_1+t676)),(wrap64 (x4_1+1)),yq,yq,H',⟨by have:=HK1.out;omega⟩,yd⟩
    ·
     rw [if_neg c3] at H
     exact absurd H (by simp)
   ·
    rw [if_neg c2] at H
    have c2b0 : decide (x4_1 < (l0.length : Int))=false:=decide_eq_false c2
    clear c2
    obtain rfl:=Option.some.inj H
    go_wp2
    go_ret
    exact ⟨yq,yd⟩

end Go.Proofs.Ytnmbndkojpjkmaa.Prt

namespace Go.Proofs.Ytnmbndkojpjkmaa.Prt
open Go.RowKit Go.Proofs.YtnmbndkojpjkmaaW.PrintWords Go.Proofs.YtnmbndkojpjkmaaW.PrintLast Go.Proofs.YtnmbndkojpjkmaaW.PrintMore
attribute [local go_sem] max2_int min2_int max_two min_two max_three min_three max_four min_four   -- for this text's walks alone
set_option linter.unusedVariables false
set_option linter.unusedSimpArgs false

/-! ### psalteryref10_Width: function 46 -/
def psalteryref10_Width.j0 : Nat→Int→Bool→Option (Int)
 | 0,_,_=>none
 | k+1,x3,x4=>if x4=true then (some 1) else (if x3=2 then (some 2) else (if x3=3 then (some 4) else (if x3=4 then (some 8) else (some 0))))
def psalteryref10_Width.f (k : Nat) (a0 : Int) : Option (Int):=if a0=0 then (psalteryref10_Width.j0 k a0 (a0 == 0)) else (psalteryref10_Width.j0 k a0 (a0 == 1))
theorem psalteryref10_Width.mono_l : ∀ k,(∀ y0 y1,LeO (psalteryref10_Width.j0 k y0 y1) (psalteryref10_Width.j0 (k+1) y0 y1))
 | 0=>fun _ _ r h=>by simp [psalteryref10_Width.j0] at h
 | k+1=>by
  have ih0:=psalteryref10_Width.mono_l k
  ·
   intro y0 y1
   unfold psalteryref10_Width.j0
   repeat' first
   | (with_reducible exact ih0 _ _)
   | (with_reducible exact LeO.refl _)
   | (with_reducible exact LeO.none _)
   | (with_reducible refine LeO.ite ?_ ?_)
   | (with_reducible refine LeO.bind ?_ (fun _ => ?_))
   | exact ih0 _ _
   | exact LeO.none _
   | refine LeO.ite ?_ ?_
   | refine LeO.bind ?_ (fun _ => ?_)
theorem psalteryref10_Width.mono : ∀ a0 k,LeO (psalteryref10_Width.f k a0) (psalteryref10_Width.f (k+1) a0):=by
 intro a0 k
 have ih0:=psalteryref10_Width.mono_l k
 unfold psalteryref10_Width.f
 repeat' first
   | (with_reducible exact ih0 _ _)
   | (with_reducible exact LeO.refl _)
   | (with_reducible exact LeO.none _)
   | (with_reducible refine LeO.ite ?_ ?_)
   | (with_reducible refine LeO.bind ?_ (fun _ => ?_))
   | exact ih0 _ _
   | exact LeO.none _
   | refine LeO.ite ?_ ?_
   | refine LeO.bind ?_ (fun _ => ?_)
set_option maxHeartbeats 8000000 in
set_option maxRecDepth 100000 in
theorem psalteryref10_Width.calls (k : Nat) (a0 : Int) (r : Int) (w : World) (h : psalteryref10_Width.f k a0=some r) :
  Calls Try.prog 46 #[.int .i64 a0] w fun e w' => e=.returned (.int .i64 r)∧Drawn0 w w' := by
 have H : (if a0=0 then (psalteryref10_Width.j0 k a0 (a0 == 0)) else (psalteryref10_Width.j0 k a0 (a0 == 1)))=some r:=h
 clear h;have HC2:=zm H;clear H
 go_enter Try.func46,Try.ntmps46
 go_upto_if 4 with (fail)
 go_cut [4] (fun v4 wc => ∃ (kq : Nat) (x4_1 : Bool),v4=.bool x4_1∧Aside0 (psalteryref10_Width.j0 kq a0 x4_1=some r)∧Aside0 (kq≤k)∧Drawn0 w wc)
 case first =>
  have H:=HC2.out;clear HC2
  by_cases c3 : a0=0
  ·
   rw [if_pos c3] at H
   have c3b0 : (a0 == 0)=true:=beq_iff_eq.mpr c3
   have c3b1 : (a0 != 0)=false:=bne_eq_false_iff_eq.mpr c3
   clear c3
   (first|rw [c3b0]|(simp only [i64_w,i32_w];rw [c3b0])|skip)
   have H' := zm H
   clear H
   go_wp2
   go_meet
   case rel=>exact ⟨_,((a0 == 0)),yq,H',⟨yo⟩,yd⟩
  ·
   rw [if_neg c3] at H
   have c3b0 : (a0 == 0)=false:=beq_eq_false_iff_ne.mpr c3
   have c3b1 : (a0 != 0)=true:=bne_iff_ne.mpr c3
   (first|rw [c3b0]|(simp only [i64_w,i32_w];rw [c3b0])|skip)
   have H' := zm H
   clear H
   go_wp2
   go_meet
   case rel=>exact ⟨_,((a0 == 1)),yq,H',⟨yo⟩,yd⟩
 case rest =>
  clear HC2
  obtain ⟨kq,x4_1,rfl,HA,HJ1,⟨mc1,rfl⟩⟩:=hcut
  cases kq with
  | zero=>exact absurd HA.out (by simp [psalteryref10_Width.j0])
  | succ kj1 =>
   have H:=HA.out;clear HA
   simp only [psalteryref10_Width.j0] at H
   by_cases c4 : x4_1=true
   ·
    subst c4
    rw [if_pos rfl] at H
    obtain rfl:=Option.some.inj H
    go_wp2
    go_ret
    exact ⟨yq,yd⟩
   ·
    replace c4:=Bool.eq_false_iff.mpr c4
    subst c4
    rw [ynf] at H
    by_cases c5 : a0=2
    ·
     rw [if_pos c5] at H
     have c5b0 : (a0 == 2)=true:=beq_iff_eq.mpr c5
     have c5b1 : (a0 != 2)=false:=bne_eq_false_iff_eq.mpr c5
     clear c5
     obtain rfl:=Option.some.inj H
     go_wp2
     go_ret
     exact ⟨yq,yd⟩
    ·
     rw [if_neg c5] at H
     have c5b0 : (a0 == 2)=false:=beq_eq_false_iff_ne.mpr c5
     have c5b1 : (a0 != 2)=true:=bne_iff_ne.mpr c5
     by_cases c6 : a0=3
     ·
      rw [if_pos c6] at H
      have c6b0 : (a0 == 3)=true:=beq_iff_eq.mpr c6
      have c6b1 : (a0 != 3)=false:=bne_eq_false_iff_eq.mpr c6
      clear c6
      obtain rfl:=Option.some.inj H
      go_wp2
      go_ret
      exact ⟨yq,yd⟩
     ·
      rw [if_neg c6] at H
      have c6b0 : (a0 == 3)=false:=beq_eq_false_iff_ne.mpr c6
      have c6b1 : (a0 != 3)=true:=bne_iff_ne.mpr c6
      by_cases c7 : a0=4
      ·
       rw [if_pos c7] at H
       have c7b0 : (a0 == 4)=true:=beq_iff_eq.mpr c7
       have c7b1 : (a0 != 4)=false:=bne_eq_false_iff_eq.mpr c7
       clear c7
       obtain rfl:=Option.some.inj H
       go_wp2
       go_ret
       exact ⟨yq,yd⟩
      ·
       rw [if_neg c7] at H
       have c7b0 : (a0 == 4)=false:=beq_eq_false_iff_ne.mpr c7
       have c7b1 : (a0 != 4)=true:=bne_iff_ne.mpr c7
       obtain rfl:=Option.some.inj H
       go_wp2
       go_ret
       exact ⟨yq,yd⟩

end Go.Proofs.Ytnmbndkojpjkmaa.Prt

namespace Go.Proofs.Ytnmbndkojpjkmaa.Prt
open Go.RowKit Go.Proofs.YtnmbndkojpjkmaaW.PrintWords Go.Proofs.YtnmbndkojpjkmaaW.PrintLast Go.Proofs.YtnmbndkojpjkmaaW.PrintMore
attribute [local go_sem] max2_int min2_int max_two min_two max_three min_three max_four min_four   -- for this text's walks alone
set_option linter.unusedVariables false
set_option linter.unusedSimpArgs false

/-! ### psalteryref11_Right: function 47 -/
def psalteryref11_Right.l0 : Nat→List Int→Bool→Int→Option (Bool)
 | 0,_,_,_=>none
 | k+1,x0,x3,x4=>if x4 < (x0.length : Int) then (if x3=true then (if 0≤x4 then (if (rd x0 x4) ≥ 0 then (psalteryref11_Right.l0 k x0 (decide ((rd x0 x4)≤44)) (wrap64 (x4+1))) else (psalteryref11_Right.l0 k x0 false (wrap64 (x4+1)))) else (none)) else (psalteryref11_Right.l0 k x0 false (wrap64 (x4+1)))) else (some x3)
def psalteryref11_Right.f (k : Nat) (l0 : List Int) : Option (Bool):=psalteryref11_Right.l0 k l0 ((l0.length : Int) == 5) 0
theorem psalteryref11_Right.mono_l : ∀ k,(∀ y0 y1 y2,LeO (psalteryref11_Right.l0 k y0 y1 y2) (psalteryref11_Right.l0 (k+1) y0 y1 y2))
 | 0=>fun _ _ _ r h=>by simp [psalteryref11_Right.l0] at h
 | k+1=>by
  have ih0:=psalteryref11_Right.mono_l k
  ·
   intro y0 y1 y2
   unfold psalteryref11_Right.l0
   repeat' first
   | (with_reducible exact ih0 _ _ _)
   | (with_reducible exact LeO.refl _)
   | (with_reducible exact LeO.none _)
   | (with_reducible refine LeO.ite ?_ ?_)
   | (with_reducible refine LeO.bind ?_ (fun _ => ?_))
   | exact ih0 _ _ _
   | exact LeO.none _
   | refine LeO.ite ?_ ?_
   | refine LeO.bind ?_ (fun _ => ?_)
theorem psalteryref11_Right.mono : ∀ a0 k,LeO (psalteryref11_Right.f k a0) (psalteryref11_Right.f (k+1) a0):=by
 intro a0 k
 have ih0:=psalteryref11_Right.mono_l k
 unfold psalteryref11_Right.f
 repeat' first
   | (with_reducible exact ih0 _ _ _)
   | (with_reducible exact LeO.refl _)
   | (with_reducible exact LeO.none _)
   | (with_reducible refine LeO.ite ?_ ?_)
   | (with_reducible refine LeO.bind ?_ (fun _ => ?_))
   | exact ih0 _ _ _
   | exact LeO.none _
   | refine LeO.ite ?_ ?_
   | refine LeO.bind ?_ (fun _ => ?_)
set_option maxHeartbeats 8000000 in
set_option maxRecDepth 100000 in
theorem psalteryref11_Right.calls (k : Nat) (A0 : Option Addr) (c0 : Nat) (l0 : List Int) (r : Bool) (w : World) (hr0 : Kd.C (Kd.int .i64) w A0 l0.length l0) (hc0 : l0.length≤c0) (h : psalteryref11_Right.f k l0=some r) :
  Calls Try.prog 47 #[.slice A0 l0.length c0] w fun e w' => e=.returned (.bool r)∧Drawn0 w w' := by
 have HR0:=zm hr0;have HC0:=zm hc0;clear hr0 hc0
 have H : (psalteryref11_Right.l0 k l0 ((l0.length : Int) == 5) 0)=some r:=h
 clear h
 have H' := zm H
 clear H
 go_enter Try.func47,Try.ntmps47
 go_wp2
 go_loopg [3,4] k (fun kq v3 v4 w' => ∃ (x3_1 : Bool) (x4_1 : Int),v3=.bool x3_1∧v4=.int .i64 x4_1∧Aside0 (psalteryref11_Right.l0 kq l0 x3_1 x4_1=some r)∧Aside0 (kq≤k)∧Drawn0 w w')
 case atStart=>exact ⟨(((l0.length : Int) == 5)),(0),yq,yq,H',⟨Nat.le_refl _⟩,yd⟩
 case round =>
  clear H'
  obtain ⟨x3_1,x4_1,rfl,rfl,HA,HK1,⟨m1,rfl⟩⟩:=hrel
  cases gk with
  | zero=>exact absurd HA.out (by simp [psalteryref11_Right.l0])
  | succ k1 =>
   have H:=HA.out;clear HA
   simp only [psalteryref11_Right.l0] at H
   by_cases c2 : x4_1 < (l0.length : Int)
   ·
    rw [if_pos c2] at H
    have c2b0 : decide (x4_1 < (l0.length : Int))=true:=decide_eq_true c2
    clear c2
    by_cases c3 : x3_1=true
    ·
     subst c3
     rw [if_pos rfl] at H
     by_cases c4 : 0≤x4_1
     ·
      rw [if_pos c4] at H
      have c4b0 : decide (0≤x4_1)=true:=decide_eq_true c4
      clear c4
      by_cases c5 : (rd l0 x4_1) ≥ 0
      ·
       rw [if_pos c5] at H
       have c5b0 : decide (0≤(rd l0 x4_1))=true:=decide_eq_true c5
       clear c5
       have H' := zm H
       clear H
       have p671 : 0≤(x4_1 : Int):=yt
       have q671 : x4_1 < (l0.length : Int):=yt
       obtain ⟨ad671,e671,hx671_0⟩:=Kd.at_int HR0.out x4_1 p671 q671
       cases e671
       replace p671:=eq_true p671
       replace q671:=eq_true q671
       have p672 : 0≤(x4_1 : Int):=yt
       have q672 : x4_1 < (l0.length : Int):=yt
       obtain ⟨ad672,e672,hx672_0⟩:=Kd.at_int HR0.out x4_1 p672 q672
       obtain rfl : ad671=ad672:=(by injection e672)
       replace p672:=eq_true p672
       replace q672:=eq_true q672
       go_wp2
       go_roundg k1
       case measure=>have:=HK1.out;omega
       case rel=>exact ⟨(decide ((rd l0 x4_1)≤44)),(wrap64 (x4_1+1)),yq,yq,H',⟨by have:=HK1.out;omega⟩,yd⟩
      ·
       rw [if_neg c5] at H
       have c5b0 : decide (0≤(rd l0 x4_1))=false:=decide_eq_false c5
       clear c5
       have H' := zm H
       clear H
       have p671 : 0≤(x4_1 : Int):=yt
       have q671 : x4_1 < (l0.length : Int):=yt
       obtain ⟨ad671,e671,hx671_0⟩:=Kd.at_int HR0.out x4_1 p671 q671
       cases e671
       replace p671:=eq_true p671
       replace q671:=eq_true q671
       go_wp2
       go_roundg k1
       case measure=>have:=HK1.out;omega
       case rel=>exact ⟨(false),(wrap64 (x4_1+1)),yq,yq,H',⟨by have:=HK1.out;omega⟩,yd⟩
     ·
      rw [if_neg c4] at H
      exact absurd H (by simp)
    ·
     replace c3:=Bool.eq_false_iff.mpr c3
     subst c3
     rw [ynf] at H
     have H' := zm H
     clear H
     go_wp2
     go_roundg k1
     case measure=>have:=HK1.out;omega
     case rel=>exact ⟨(false),(wrap64 (x4_1+1)),yq,yq,H',⟨by have:=HK1.out;omega⟩,yd⟩
   ·
    rw [if_neg c2] at H
    have c2b0 : decide (x4_1 < (l0.length : Int))=false:=decide_eq_false c2
    clear c2
    obtain rfl:=Option.some.inj H
    go_wp2
    go_ret
    exact ⟨yq,yd⟩

end Go.Proofs.Ytnmbndkojpjkmaa.Prt

namespace Go.Proofs.Ytnmbndkojpjkmaa.Prt
open Go.RowKit Go.Proofs.YtnmbndkojpjkmaaW.PrintWords Go.Proofs.YtnmbndkojpjkmaaW.PrintLast Go.Proofs.YtnmbndkojpjkmaaW.PrintMore
attribute [local go_sem] max2_int min2_int max_two min_two max_three min_three max_four min_four   -- for this text's walks alone
set_option linter.unusedVariables false
set_option linter.unusedSimpArgs false

/-! ### psalteryref12_Fair: function 17 -/
def psalteryref12_Fair.l0 : Nat→List (List Int)→Int→Option (Bool)
 | 0,_,_=>none
 | k+1,x1,x5=>if x5 < (x1.length : Int) then (if 0≤x5 then ((psalteryref11_Right.f k (rd_L1 x1 x5)).bind fun t674=>(if t674=true then (psalteryref12_Fair.l0 k x1 (wrap64 (x5+1))) else (some false))) else (none)) else (some true)
def psalteryref12_Fair.f (k : Nat) (a0 : Int) (l1 : List (List Int)) : Option (Bool):=if (l1.length : Int)=a0 then (psalteryref12_Fair.l0 k l1 0) else (some false)
theorem psalteryref12_Fair.mono_l : ∀ k,(∀ y0 y1,LeO (psalteryref12_Fair.l0 k y0 y1) (psalteryref12_Fair.l0 (k+1) y0 y1))
 | 0=>fun _ _ r h=>by simp [psalteryref12_Fair.l0] at h
 | k+1=>by
  have ih0:=psalteryref12_Fair.mono_l k
  ·
   intro y0 y1
   unfold psalteryref12_Fair.l0
   repeat' first
   | (with_reducible exact ih0 _ _)
   | (with_reducible exact psalteryref11_Right.mono _ _)
   | (with_reducible exact LeO.refl _)
   | (with_reducible exact LeO.none _)
   | (with_reducible refine LeO.ite ?_ ?_)
   | (with_reducible refine LeO.bind ?_ (fun _ => ?_))
   | exact ih0 _ _
   | exact psalteryref11_Right.mono _ _
   | exact LeO.none _
   | refine LeO.ite ?_ ?_
   | refine LeO.bind ?_ (fun _ => ?_)
theorem psalteryref12_Fair.mono : ∀ a0 a1 k,LeO (psalteryref12_Fair.f k a0 a1) (psalteryref12_Fair.f (k+1) a0 a1):=by
 intro a0 a1 k
 have ih0:=psalteryref12_Fair.mono_l k
 unfold psalteryref12_Fair.f
 repeat' first
   | (with_reducible exact ih0 _ _)
   | (with_reducible exact psalteryref11_Right.mono _ _)
   | (with_reducible exact LeO.refl _)
   | (with_reducible exact LeO.none _)
   | (with_reducible refine LeO.ite ?_ ?_)
   | (with_reducible refine LeO.bind ?_ (fun _ => ?_))
   | exact ih0 _ _
   | exact psalteryref11_Right.mono _ _
   | exact LeO.none _
   | refine LeO.ite ?_ ?_
   | refine LeO.bind ?_ (fun _ => ?_)
set_option maxHeartbeats 8000000 in
set_option maxRecDepth 100000 in
theorem psalteryref12_Fair.calls (k : Nat) (a0 : Int) (A1 : Option Addr) (c1 : Nat) (l1 : List (List Int)) (r : Bool) (w : World) (hr1 : Kd.C (Kd.slice 3 (Kd.int .i64)) w A1 l1.length l1) (hc1 : l1.length≤c1) (h : psalteryref12_Fair.f k a0 l1=some r) :
  Calls Try.prog 17 #[.int .i64 a0, .slice A1 l1.length c1] w fun e w' => e=.returned (.bool r)∧Drawn0 w w' := by
 have HR1:=zm hr1;have HC1:=zm hc1;clear hr1 hc1
 have H : (if (l1.length : Int)=a0 then (psalteryref12_Fair.l0 k l1 0) else (some false))=some r:=h
 clear h
 by_cases c3 : (l1.length : Int)=a0
 ·
  rw [if_pos c3] at H
  have c3b0 : ((l1.length : Int) == a0)=true:=beq_iff_eq.mpr c3
  have c3b1 : ((l1.length : Int) != a0)=false:=bne_eq_false_iff_eq.mpr c3
  clear c3
  have H' := zm H
  clear H
  go_enter Try.func17,Try.ntmps17
  go_wp2
  go_loopg [5] k (fun kq v5 w' => ∃ (x5_1 : Int),v5=.int .i64 x5_1∧Aside0 (psalteryref12_Fair.l0 kq l1 x5_1=some r)∧Aside0 (kq≤k)∧Drawn0 w w')
  case atStart=>exact ⟨(0),yq,H',⟨Nat.le_refl _⟩,yd⟩
  case round =>
   clear H'
   try clear c1
   try clear c3
   try clear c3b0
   try clear c3b1
   obtain ⟨x5_1,rfl,HA,HK1,⟨m1,rfl⟩⟩:=hrel
   cases gk with
   | zero=>exact absurd HA.out (by simp [psalteryref12_Fair.l0])
   | succ k1 =>
    have H:=HA.out;clear HA
    simp only [psalteryref12_Fair.l0] at H
    by_cases c4 : x5_1 < (l1.length : Int)
    ·
     rw [if_pos c4] at H
     have c4b0 : decide (x5_1 < (l1.length : Int))=true:=decide_eq_true c4
     clear c4
     by_cases c5 : 0≤x5_1
     ·
      rw [if_pos c5] at H
      have c5b0 : decide (0≤x5_1)=true:=decide_eq_true c5
      clear c5
      obtain ⟨t674,A6,H⟩:=ybi H
      by_cases c7 : t674=true
      ·
       subst c7
       rw [if_pos rfl] at H
       have H' := zm H
       clear H
       have p673 : 0≤(x5_1 : Int):=yt
       have q673 : x5_1 < (l1.length : Int):=yt
       obtain ⟨ad673,A673_0,c673_0,e673,hx673_0,hl673_0,hi673_0⟩:=at_L1 HR1.out x5_1 p673 q673
       cases e673
       have HR673_0:=zm hi673_0;have HC673_0:=zm hl673_0;clear hi673_0 hl673_0
       replace p673:=eq_true p673
       replace q673:=eq_true q673
       go_wp2_with (first|((with_reducible refine gate_callee (f:=47) rfl ?_);refine ygl 20 Try.func47 #[.slice A673_0 (rd_L1 l1 x5_1).length c673_0] ?_;(with_reducible refine (psalteryref11_Right.calls k1 _ _ (rd_L1 l1 x5_1) true _ ?side1 HC673_0.out A6.out).mono ?_);(case side1=>exact yce HR673_0.out);rintro e w' ⟨rfl,⟨nd,rfl⟩⟩;refine ⟨_,rfl, ?_⟩))
       go_roundg k1
       case measure=>have:=HK1.out;omega
       case rel=>exact ⟨(wrap64 (x5_1+1)),yq,H',⟨by have:=HK1.out;omega⟩,yd⟩
      ·
       replace c7:=Bool.eq_false_iff.mpr c7
       subst c7
       rw [ynf] at H
       obtain rfl:=Option.some.inj H
       have p673 : 0≤(x5_1 : Int):=yt
       have q673 : x5_1 < (l1.length : Int):=yt
       obtain ⟨ad673,A673_0,c673_0,e673,hx673_0,hl673_0,hi673_0⟩:=at_L1 HR1.out x5_1 p673 q673
       cases e673
       have HR673_0:=zm hi673_0;have HC673_0:=zm hl673_0;clear hi673_0 hl673_0
       replace p673:=eq_true p673
       replace q673:=eq_true q673
       go_wp2_with (first|((with_reducible refine gate_callee (f:=47) rfl ?_);refine ygl 20 Try.func47 #[.slice A673_0 (rd_L1 l1 x5_1).length c673_0] ?_;(with_reducible refine (psalteryref11_Right.calls k1 _ _ (rd_L1 l1 x5_1) false _ ?side1 HC673_0.out A6.out).mono ?_);(case side1=>exact yce HR673_0.out);rintro e w' ⟨rfl,⟨nd,rfl⟩⟩;refine ⟨_,rfl, ?_⟩))
       go_ret
       exact ⟨yq,yd⟩
     ·
      rw [if_neg c5] at H
      exact absurd H (by simp)
    ·
     rw [if_neg c4] at H
     have c4b0 : decide (x5_1 < (l1.length : Int))=false:=decide_eq_false c4
     clear c4
     obtain rfl:=Option.some.inj H
     go_wp2
     go_ret
     exact ⟨yq,yd⟩
 ·
  rw [if_neg c3] at H
  have c3b0 : ((l1.length : Int) == a0)=false:=beq_eq_false_iff_ne.mpr c3
  have c3b1 : ((l1.length : Int) != a0)=true:=bne_iff_ne.mpr c3
  obtain rfl:=Option.some.inj H
  go_enter Try.func17,Try.ntmps17
  go_wp2
  go_ret
  exact ⟨yq,yd⟩

end Go.Proofs.Ytnmbndkojpjkmaa.Prt

namespace Go.Proofs.Ytnmbndkojpjkmaa.Prt
open Go.RowKit Go.Proofs.YtnmbndkojpjkmaaW.PrintWords Go.Proofs.YtnmbndkojpjkmaaW.PrintLast Go.Proofs.YtnmbndkojpjkmaaW.PrintMore
attribute [local go_sem] max2_int min2_int max_two min_two max_three min_three max_four min_four   -- for this text's walks alone
set_option linter.unusedVariables false
set_option linter.unusedSimpArgs false

/-! ### psalteryref12_More: function 96 -/
def psalteryref12_More.f (l0 : List Int) (a1 : Int) : Option (List Int):=(some (([] : List Int) : List Int)).bind fun y677=>(if y677.length+l0.length < 17592186044416 then ((some (y677 ++ l0 : List Int)).bind fun y680=>(if 0≤a1 then (if a1 < (y680.length : Int) then (some (y680.set (a1 : Int).toNat (wrap64 ((rd y680 a1)+1)))) else (none)) else (none))) else (none))
set_option maxHeartbeats 8000000 in
set_option maxRecDepth 100000 in
theorem psalteryref12_More.calls (A0 : Option Addr) (c0 : Nat) (l0 : List Int) (a1 : Int) (r : List Int) (w : World) (hr0 : Kd.C (Kd.int .i64) w A0 l0.length l0) (hc0 : l0.length≤c0) (h : psalteryref12_More.f l0 a1=some r) :
  Calls Try.prog 96 #[.slice A0 l0.length c0, .int .i64 a1] w fun e w' => ∃ v0_ : Value,e=.returned (v0_)∧Kd.R (Kd.int .i64) 3 w' w.heap.size (fun _=>True) v0_ r∧Below w.heap.size w w' := by
 have HR0:=zm hr0;have HC0:=zm hc0;clear hr0 hc0;have HB:=zm (Below.refl w.heap.size w)
 have H : ((some (([] : List Int) : List Int)).bind fun y677=>(if y677.length+l0.length < 17592186044416 then ((some (y677 ++ l0 : List Int)).bind fun y680=>(if 0≤a1 then (if a1 < (y680.length : Int) then (some (y680.set (a1 : Int).toNat (wrap64 ((rd y680 a1)+1)))) else (none)) else (none))) else (none)))=some r:=h
 clear h
 obtain ⟨y677,hy677⟩ : ∃ y_ : List Int,y_=(([] : List Int)):=⟨_,rfl⟩
 replace H : (if y677.length+l0.length < 17592186044416 then ((some (y677 ++ l0 : List Int)).bind fun y680=>(if 0≤a1 then (if a1 < (y680.length : Int) then (some (y680.set (a1 : Int).toNat (wrap64 ((rd y680 a1)+1)))) else (none)) else (none))) else (none))=some r:=yrw hy677 H
 have Ny677:=zm hy677;clear hy677
 by_cases c3 : y677.length+l0.length < 17592186044416
 ·
  rw [if_pos c3] at H
  have LMc3:=zm c3;clear c3
  obtain ⟨y680,hy680⟩ : ∃ y_ : List Int,y_=(y677 ++ l0):=⟨_,rfl⟩
  replace H : (if 0≤a1 then (if a1 < (y680.length : Int) then (some (y680.set (a1 : Int).toNat (wrap64 ((rd y680 a1)+1)))) else (none)) else (none))=some r:=yrw hy680 H
  have Ny680:=zm hy680;clear hy680
  by_cases c4 : 0≤a1
  ·
   rw [if_pos c4] at H
   have c4b0 : decide (0≤a1)=true:=decide_eq_true c4
   clear c4
   by_cases c5 : a1 < (y680.length : Int)
   ·
    rw [if_pos c5] at H
    have c5b0 : decide (a1 < (y680.length : Int))=true:=decide_eq_true c5
    clear c5
    obtain ⟨y684,hy684⟩ : ∃ y_ : List Int,y_=(y680.set (a1 : Int).toNat (wrap64 ((rd y680 a1)+1))):=⟨_,rfl⟩
    replace H : (some y684)=some r:=yrw hy684 H
    have Ny684:=zm hy684;clear hy684
    obtain rfl:=Option.some.inj H
    go_enter Try.func96,Try.ntmps96
    go_wp2_with (first|((with_reducible refine gate_dst (N:=6) rfl ?_);refine Kd.R_lit (Kd.int .i64) _ 3 ?hg (N:=6) ?hd (xs:=([] : List Int)) (inner := []) (ok:=fun _=>True) (okp:=fun _=>True) ?hr ?hp (fun _ hk=>hk) trivial (Below.refl _ _) (Nat.le_refl _) (by simp) ?_;(case hd=>rfl);(case hg=>rfl);(case hr=>first|(go_simp;done)|(go_simp;rfl));(case hp=>exact (Reps.none _ _));intro v678 w7 ho8 hb hg_ hnew_;clear hg_ hnew_;(first|rw [← Ny677.out] at ho8|(simp only [Int.reduceToNat] at ho8;rw [← Ny677.out] at ho8));have HO679:=zm (Kd.R_lower ho8 (zE yhb));replace HB:=ybs hb;clear hb ho8)|((with_reducible refine gate_builtin (b:=.append) (xs := #[.tmp 6, .tmp 7]) rfl ?_);at_builtin;refine Kd.R_append_rows (Kd.int .i64) (w0:=w) w.heap.size rfl (.tmp 6) (.tmp 7) 49 3 (.int .i64 0) 8 rfl Try.underlying49 info3 rfl (by decide) (by omega) v678 y677 l0 _ _ _ (fun _=>True) (fun _=>False) rfl rfl ?aO ?aR (fun _ _ h=>h) (fun _ h=>h.elim) ?aF ?aB ?aS ?aL ?_;(case aR=>exact ycb HR0);(case aB=>exact yhb);(case aF=>exact (fun _ _=>trivial));(case aO=>exact (yr HO679));(case aS=>exact (zE yhb));(case aL=>have:=LMc3.out;omega);intro v681 w9 ho hb hg hat;rw [← Ny680.out] at ho;replace HB:=zm (hb);have HO682:=zm (ho);clear HO679;clear ho hb hg hat;obtain ⟨Ao10,co10,eo10⟩:=Kd.R_slice HO682.out;subst eo10;have p683 : 0≤(a1 : Int):=yt;have q683 : a1 < (y680.length : Int):=yt;obtain ⟨ad683,e683,hx683_0⟩:=Kd.at_int (Kd.R_reads' HO682.out).2.2 a1 p683 q683;cases e683;replace p683:=eq_true p683;replace q683:=eq_true q683;have p6 : 0≤(a1 : Int):=yt;have q6 : (a1 : Int) < ((y680.length : Int) : Int):=yt;obtain ⟨go6,co6,eo6,gb6,gl6,cl6,HG6⟩:=Kd.R_form HO682.out (by omega);(first|cases eo6|(injection eo6 with ea_ en_ ec_;(first|subst ea_|(injection ea_ with ea_;subst ea_));subst ec_;clear en_));have GB6:=zm gb6;have GG6:=zm HG6;clear gb6 gl6 HG6;(first|simp only [add_plain] at hx683_0|skip);obtain ⟨hx6_0,hf6_0⟩:=Kd.R_celln 0 HO682.out (a1 : Int) p6 q6;replace p6:=eq_true p6;replace q6:=eq_true q6;obtain ⟨hy11_,hz11_⟩:=Kd.R_celln 0 HO682.out (a1 : Int) (yt) (yt);have HP11:=Kd.R_putg HO682.out (a1 : Int) (wrap64 ((rd y680 a1)+1)))|((with_reducible refine gate_store (t:=3) (p:=16) rfl ?_);refine store_event (t:=3) (p:=16) (v := ?vo_w12) (w1:=(w9.setCell ⟨go6,(a1 : Int).toNat,none⟩ (.int .i64 (wrap64 ((rd y680 a1)+1))))) ?hg ?ho ?hn ?hr ?_;(case ho=>rfl);(case hg=>rfl);(case hn=>rfl);(case hr=>first|(go_simp;done)|(go_simp;rfl));intro w12 hw;have hg : w9.grownBy w12 (some go6):=(by rw [hw];exact HP11.2);have hp_ : Kd.R (Kd.int .i64) 3 w12 w.heap.size (fun _=>True) (.slice (some ⟨go6,0,none⟩) y680.length co10) y684:=(by rw [hw,Ny684.out];exact HP11.1);clear HP11;replace HO682:=zm (hp_);replace HB:=zm ((by rw [hw];exact zk (HB.out) GB6.out : Below w.heap.size w w12));clear hg hw hp_))
    go_ret
    exact ⟨_,ye,yr HO682,yhb⟩
   ·
    rw [if_neg c5] at H
    exact absurd H (by simp)
  ·
   rw [if_neg c4] at H
   exact absurd H (by simp)
 ·
  rw [if_neg c3] at H
  exact absurd H (by simp)

end Go.Proofs.Ytnmbndkojpjkmaa.Prt

namespace Go.Proofs.Ytnmbndkojpjkmaa.Prt
open Go.RowKit Go.Proofs.YtnmbndkojpjkmaaW.PrintWords Go.Proofs.YtnmbndkojpjkmaaW.PrintLast Go.Proofs.YtnmbndkojpjkmaaW.PrintMore
attribute [local go_sem] max2_int min2_int max_two min_two max_three min_three max_four min_four   -- for this text's walks alone
set_option linter.unusedVariables false
set_option linter.unusedSimpArgs false

/-! ### psalteryref03_Log2: function 102 -/
def psalteryref03_Log2.f : Nat→Int→Option (Int)
 | 0,_=>none
 | k+1,a0=>if a0=0 then (some (-1)) else ((psalteryref03_Log2.f k (IntKind.u64.wrap (Int.tdiv a0 2))).bind fun t700=>(some (wrap64 (1+t700))))
theorem psalteryref03_Log2.mono_l : ∀ k,(∀ y0,LeO (psalteryref03_Log2.f k y0) (psalteryref03_Log2.f (k+1) y0))
 | 0=>fun _ r h=>by simp [psalteryref03_Log2.f] at h
 | k+1=>by
  have ih0:=psalteryref03_Log2.mono_l k
  ·
   intro y0
   unfold psalteryref03_Log2.f
   repeat' first
   | (with_reducible exact ih0 _)
   | (with_reducible exact LeO.refl _)
   | (with_reducible exact LeO.none _)
   | (with_reducible refine LeO.ite ?_ ?_)
   | (with_reducible refine LeO.bind ?_ (fun _ => ?_))
   | exact ih0 _
   | exact LeO.none _
   | refine LeO.ite ?_ ?_
   | refine LeO.bind ?_ (fun _ => ?_)
theorem psalteryref03_Log2.mono : ∀ a0 k,LeO (psalteryref03_Log2.f k a0) (psalteryref03_Log2.f (k+1) a0):=by
 intro a0 k
 have ih0:=psalteryref03_Log2.mono_l k
 exact ih0 a0
set_option maxHeartbeats 8000000 in
set_option maxRecDepth 100000 in
theorem psalteryref03_Log2.calls (k : Nat) : ∀ (a0 : Int) (r : Int) (w : World) (h : psalteryref03_Log2.f k a0=some r),
  Calls Try.prog 102 #[.int .u64 a0] w fun e w' => e=.returned (.int .i64 r)∧Drawn0 w w' := by
 induction k using Nat.strongRecOn with
 | _ k ih =>
 intro a0 r w h
 cases k with
 | zero=>exact absurd h (by simp [psalteryref03_Log2.f])
 | succ k =>
 simp only [psalteryref03_Log2.f] at h
 have H : (if a0=0 then (some (-1)) else ((psalteryref03_Log2.f k (IntKind.u64.wrap (Int.tdiv a0 2))).bind fun t700=>(some (wrap64 (1+t700)))))=some r:=h
 clear h
 by_cases c2 : a0=0
 ·
  rw [if_pos c2] at H
  have c2b0 : (a0 == 0)=true:=beq_iff_eq.mpr c2
  have c2b1 : (a0 != 0)=false:=bne_eq_false_iff_eq.mpr c2
  clear c2
  obtain rfl:=Option.some.inj H
  go_enter Try.func102,Try.ntmps102
  go_wp2
  go_ret
  exact ⟨yq,yd⟩
 ·
  rw [if_neg c2] at H
  have c2b0 : (a0 == 0)=false:=beq_eq_false_iff_ne.mpr c2
  have c2b1 : (a0 != 0)=true:=bne_iff_ne.mpr c2
  obtain ⟨t700,A3,H⟩:=ybi H
  obtain rfl:=Option.some.inj H
  go_enter Try.func102,Try.ntmps102
  go_wp2_with (first|((with_reducible refine gate_callee (f:=102) rfl ?_);refine ygl 7 Try.func102 #[.int .u64 (IntKind.u64.wrap (Int.tdiv a0 2))] ?_;(with_reducible refine (ih k (by omega) (IntKind.u64.wrap (Int.tdiv a0 2)) t700 _ A3.out).mono ?_);rintro e w' ⟨rfl,⟨nd,rfl⟩⟩;refine ⟨_,rfl, ?_⟩))
  go_ret
  exact ⟨yq,yd⟩

end Go.Proofs.Ytnmbndkojpjkmaa.Prt

namespace Go.Proofs.Ytnmbndkojpjkmaa.Prt
open Go.RowKit Go.Proofs.YtnmbndkojpjkmaaW.PrintWords Go.Proofs.YtnmbndkojpjkmaaW.PrintLast Go.Proofs.YtnmbndkojpjkmaaW.PrintMore
attribute [local go_sem] max2_int min2_int max_two min_two max_three min_three max_four min_four   -- for this text's walks alone
set_option linter.unusedVariables false
set_option linter.unusedSimpArgs false

/-! ### psalteryref06_Row: function 81 -/
mutual
def psalteryref06_Row.l0 : Nat→Int→List Int→Int→Option (List Int)
 | 0,_,_,_=>none
 | k+1,x0,x3,x4=>if x4≤12 then (if x4=0 then (if x3.length < 17592186044416 then (psalteryref06_Row.l0 k x0 (x3 ++ [1]) (wrap64 (x4+1))) else (none)) else (if x3.length < 17592186044416 then (psalteryref06_Row.l0 k x0 (x3 ++ [0]) (wrap64 (x4+1))) else (none))) else (psalteryref06_Row.l1 k x0 x3 0)
def psalteryref06_Row.l1 : Nat→Int→List Int→Int→Option (List Int)
 | 0,_,_,_=>none
 | k+1,x0,x3,x5=>if x5 < x0 then (psalteryref06_Row.l2 k x0 x3 x5 ([] : List Int) 0) else (some x3)
def psalteryref06_Row.l2 : Nat→Int→List Int→Int→List Int→Int→Option (List Int)
 | 0,_,_,_,_,_=>none
 | k+1,x0,x3,x5,x6,x7=>if x7≤12 then (if 0≤x7 then (if x7 < (x3.length : Int) then (psalteryref06_Row.l3 k x0 x3 x5 x6 x7 (rd x3 x7) 1) else (none)) else (none)) else (psalteryref06_Row.l1 k x0 x6 (wrap64 (x5+1)))
def psalteryref06_Row.l3 : Nat→Int→List Int→Int→List Int→Int→Int→Int→Option (List Int)
 | 0,_,_,_,_,_,_,_=>none
 | k+1,x0,x3,x5,x6,x7,x8,x9=>if x9≤x7 then (if 0≤(wrap64 (x7 - x9)) then (if (wrap64 (x7 - x9)) < (x3.length : Int) then (psalteryref06_Row.l3 k x0 x3 x5 x6 x7 (IntKind.u64.wrap (x8+(IntKind.u64.wrap (2 * (rd x3 (wrap64 (x7 - x9))))))) (wrap64 (x9+1))) else (none)) else (none)) else (if x6.length < 17592186044416 then (psalteryref06_Row.l2 k x0 x3 x5 (x6 ++ [x8]) (wrap64 (x7+1))) else (none))
end
def psalteryref06_Row.f (k : Nat) (a0 : Int) : Option (List Int):=psalteryref06_Row.l0 k a0 ([] : List Int) 0
theorem psalteryref06_Row.mono_l : ∀ k,(∀ y0 y1 y2,LeO (psalteryref06_Row.l0 k y0 y1 y2) (psalteryref06_Row.l0 (k+1) y0 y1 y2))∧(∀ y0 y1 y2,LeO (psalteryref06_Row.l1 k y0 y1 y2) (psalteryref06_Row.l1 (k+1) y0 y1 y2))∧(∀ y0 y1 y2 y3 y4,LeO (psalteryref06_Row.l2 k y0 y1 y2 y3 y4) (psalteryref06_Row.l2 (k+1) y0 y1 y2 y3 y4))∧(∀ y0 y1 y2 y3 y4 y5 y6,LeO (psalteryref06_Row.l3 k y0 y1 y2 y3 y4 y5 y6) (psalteryref06_Row.l3 (k+1) y0 y1 y2 y3 y4 y5 y6))
 | 0=>⟨fun _ _ _ r h=>by simp [psalteryref06_Row.l0] at h,fun _ _ _ r h=>by simp [psalteryref06_Row.l1] at h,fun _ _ _ _ _ r h=>by simp [psalteryref06_Row.l2] at h,fun _ _ _ _ _ _ _ r h=>by simp [psalteryref06_Row.l3] at h⟩
 | k+1=>by
  obtain ⟨ih0,ih1,ih2,ih3⟩:=psalteryref06_Row.mono_l k
  refine ⟨?_, ?_, ?_, ?_⟩
  ·
   intro y0 y1 y2
   unfold psalteryref06_Row.l0
   repeat' first
   | (with_reducible exact ih0 _ _ _)
   | (with_reducible exact ih1 _ _ _)
   | (with_reducible exact ih2 _ _ _ _ _)
   | (with_reducible exact ih3 _ _ _ _ _ _ _)
   | (with_reducible exact LeO.refl _)
   | (with_reducible exact LeO.none _)
   | (with_reducible refine LeO.ite ?_ ?_)
   | (with_reducible refine LeO.bind ?_ (fun _ => ?_))
   | exact ih0 _ _ _
   | exact ih1 _ _ _
   | exact ih2 _ _ _ _ _
   | exact ih3 _ _ _ _ _ _ _
   | exact LeO.none _
   | refine LeO.ite ?_ ?_
   | refine LeO.bind ?_ (fun _ => ?_)
  ·
   intro y0 y1 y2
   unfold psalteryref06_Row.l1
   repeat' first
   | (with_reducible exact ih0 _ _ _)
   | (with_reducible exact ih1 _ _ _)
   | (with_reducible exact ih2 _ _ _ _ _)
   | (with_reducible exact ih3 _ _ _ _ _ _ _)
   | (with_reducible exact LeO.refl _)
   | (with_reducible exact LeO.none _)
   | (with_reducible refine LeO.ite ?_ ?_)
   | (with_reducible refine LeO.bind ?_ (fun _ => ?_))
   | exact ih0 _ _ _
   | exact ih1 _ _ _
   | exact ih2 _ _ _ _ _
   | exact ih3 _ _ _ _ _ _ _
   | exact LeO.none _
   | refine LeO.ite ?_ ?_
   | refine LeO.bind ?_ (fun _ => ?_)
  ·
   intro y0 y1 y2 y3 y4
   unfold psalteryref06_Row.l2
   repeat' first
   | (with_reducible exact ih0 _ _ _)
   | (with_reducible exact ih1 _ _ _)
   | (with_reducible exact ih2 _ _ _ _ _)
   | (with_reducible exact ih3 _ _ _ _ _ _ _)
   | (with_reducible exact LeO.refl _)
   | (with_reducible exact LeO.none _)
   | (with_reducible refine LeO.ite ?_ ?_)
   | (with_reducible refine LeO.bind ?_ (fun _ => ?_))
   | exact ih0 _ _ _
   | exact ih1 _ _ _
   | exact ih2 _ _ _ _ _
   | exact ih3 _ _ _ _ _ _ _
   | exact LeO.none _
   | refine LeO.ite ?_ ?_
   | refine LeO.bind ?_ (fun _ => ?_)
  ·
   intro y0 y1 y2 y3 y4 y5 y6
   unfold psalteryref06_Row.l3
   repeat' first
   | (with_reducible exact ih0 _ _ _)
   | (with_reducible exact ih1 _ _ _)
   | (with_reducible exact ih2 _ _ _ _ _)
   | (with_reducible exact ih3 _ _ _ _ _ _ _)
   | (with_reducible exact LeO.refl _)
   | (with_reducible exact LeO.none _)
   | (with_reducible refine LeO.ite ?_ ?_)
   | (with_reducible refine LeO.bind ?_ (fun _ => ?_))
   | exact ih0 _ _ _
   | exact ih1 _ _ _
   | exact ih2 _ _ _ _ _
   | exact ih3 _ _ _ _ _ _ _
   | exact LeO.none _
   | refine LeO.ite ?_ ?_
   | refine LeO.bind ?_ (fun _ => ?_)
theorem psalteryref06_Row.mono : ∀ a0 k,LeO (psalteryref06_Row.f k a0) (psalteryref06_Row.f (k+1) a0):=by
 intro a0 k
 obtain ⟨ih0,ih1,ih2,ih3⟩:=psalteryref06_Row.mono_l k
 unfold psalteryref06_Row.f
 repeat' first
   | (with_reducible exact ih0 _ _ _)
   | (with_reducible exact ih1 _ _ _)
   | (with_reducible exact ih2 _ _ _ _ _)
   | (with_reducible exact ih3 _ _ _ _ _ _ _)
   | (with_reducible exact LeO.refl _)
   | (with_reducible exact LeO.none _)
   | (with_reducible refine LeO.ite ?_ ?_)
   | (with_reducible refine LeO.bind ?_ (fun _ => ?_))
   | exact ih0 _ _ _
   | exact ih1 _ _ _
   | exact ih2 _ _ _ _ _
   | exact ih3 _ _ _ _ _ _ _
   | exact LeO.none _
   | refine LeO.ite ?_ ?_
   | refine LeO.bind ?_ (fun _ => ?_)
set_option maxHeartbeats 8000000 in
set_option maxRecDepth 100000 in
theorem psalteryref06_Row.calls (k : Nat) (a0 : Int) (r : List Int) (w : World) (h : psalteryref06_Row.f k a0=some r) :
  Calls Try.prog 81 #[.int .i64 a0] w fun e w' => ∃ v0_ : Value,e=.returned (v0_)∧Kd.R (Kd.int .u64) 51 w' w.heap.size (fun _=>True) v0_ r∧Below w.heap.size w w' := by
 have HB:=zm (Below.refl w.heap.size w)
 have H : (psalteryref06_Row.l0 k a0 ([] : List Int) 0)=some r:=h
 clear h
 have H' := zm H
 clear H
 go_enter Try.func81,Try.ntmps81
 go_wp2
 go_loopg [3,4] k (fun kq v3 v4 w' => ∃ (x3_1 : List Int) (x4_1 : Int),v4=.int .i64 x4_1∧Aside0 (psalteryref06_Row.l0 kq a0 x3_1 x4_1=some r)∧Aside0 (kq≤k)∧Aside0 (Kd.R (Kd.int .u64) 51 w' w.heap.size (fun _=>True) v3 x3_1)∧Aside0 (Below w.heap.size w w'))
 case atStart=>exact ⟨(([] : List Int)),(0),yq,H',⟨Nat.le_refl _⟩,⟨yn⟩,⟨yhb⟩⟩
 case round =>
  clear H'
  obtain ⟨x3_1,x4_1,rfl,HA,HK1,HO_3,HB⟩:=hrel
  cases gk with
  | zero=>exact absurd HA.out (by simp [psalteryref06_Row.l0])
  | succ k1 =>
   have H:=HA.out;clear HA
   simp only [psalteryref06_Row.l0] at H
   by_cases c2 : x4_1≤12
   ·
    rw [if_pos c2] at H
    have c2b0 : decide (x4_1≤12)=true:=decide_eq_true c2
    clear c2
    by_cases c3 : x4_1=0
    ·
     rw [if_pos c3] at H
     have c3b0 : (x4_1 == 0)=true:=beq_iff_eq.mpr c3
     have c3b1 : (x4_1 != 0)=false:=bne_eq_false_iff_eq.mpr c3
     clear c3
     by_cases c4 : x3_1.length < 17592186044416
     ·
      rw [if_pos c4] at H
      have LMc4:=zm c4;clear c4
      obtain ⟨y685,hy685⟩ : ∃ y_ : List Int,y_=(x3_1 ++ [1]):=⟨_,rfl⟩
      replace H : (psalteryref06_Row.l0 k1 a0 y685 (wrap64 (x4_1+1)))=some r:=yrw hy685 H
      have Ny685:=zm hy685;clear hy685
      have H' := zm H
      clear H
      go_wp2_with (first|((with_reducible refine gate_builtin (b:=.append) (xs := #[.tmp 16, .tmp 17]) rfl ?_);at_builtin;refine Kd.R_append (Kd.int .u64) (w0:=w) w.heap.size rfl (.tmp 16) (.tmp 17) 126 51 (.int .u64 0) 8 rfl Try.underlying126 info51 rfl (by decide) (by omega) u3 x3_1 1 [.int .u64 1] (fun _=>True) (fun _=>False) rfl rfl ?aP (fun _ hk=>hk.elim) ?aF ?aO ?aB ?aS ?aL ?_;(case aP=>exact rfl);(case aB=>exact yhb);(case aF=>exact (fun _ _=>trivial));(case aO=>exact (yr HO_3));(case aS=>exact (zE yhb));(case aL=>have:=LMc4.out;omega);intro v686 w5 ho hb hg hat;rw [← Ny685.out] at ho;replace HB:=zm (hb);have HO687:=zm (ho);clear HO_3;clear ho hb hg hat))
      go_roundg k1
      case measure=>have:=HK1.out;omega
      case rel=>exact ⟨(y685),(wrap64 (x4_1+1)),yq,H',⟨by have:=HK1.out;omega⟩,⟨yr HO687⟩,⟨yhb⟩⟩
     ·
      rw [if_neg c4] at H
      exact absurd H (by simp)
    ·
     rw [if_neg c3] at H
     have c3b0 : (x4_1 == 0)=false:=beq_eq_false_iff_ne.mpr c3
     have c3b1 : (x4_1 != 0)=true:=bne_iff_ne.mpr c3
     by_cases c6 : x3_1.length < 17592186044416
     ·
      rw [if_pos c6] at H
      have LMc6:=zm c6;clear c6
      obtain ⟨y688,hy688⟩ : ∃ y_ : List Int,y_=(x3_1 ++ [0]):=⟨_,rfl⟩
      replace H : (psalteryref06_Row.l0 k1 a0 y688 (wrap64 (x4_1+1)))=some r:=yrw hy688 H
      have Ny688:=zm hy688;clear hy688
      have H' := zm H
      clear H
      go_wp2_with (first|((with_reducible refine gate_builtin (b:=.append) (xs := #[.tmp 19, .tmp 20]) rfl ?_);at_builtin;refine Kd.R_append (Kd.int .u64) (w0:=w) w.heap.size rfl (.tmp 19) (.tmp 20) 126 51 (.int .u64 0) 8 rfl Try.underlying126 info51 rfl (by decide) (by omega) u3 x3_1 0 [.int .u64 0] (fun _=>True) (fun _=>False) rfl rfl ?aP (fun _ hk=>hk.elim) ?aF ?aO ?aB ?aS ?aL ?_;(case aP=>exact rfl);(case aB=>exact yhb);(case aF=>exact (fun _ _=>trivial));(case aO=>exact (yr HO_3));(case aS=>exact (zE yhb));(case aL=>have:=LMc6.out;omega);intro v689 w7 ho hb hg hat;rw [← Ny688.out] at ho;replace HB:=zm (hb);have HO690:=zm (ho);clear HO_3;clear ho hb hg hat))
      go_roundg k1
      case measure=>have:=HK1.out;omega
      case rel=>exact ⟨(y688),(wrap64 (x4_1+1)),yq,H',⟨by have:=HK1.out;omega⟩,⟨yr HO690⟩,⟨yhb⟩⟩
     ·
      rw [if_neg c6] at H
      exact absurd H (by simp)
   ·
    rw [if_neg c2] at H
    have c2b0 : decide (x4_1≤12)=false:=decide_eq_false c2
    clear c2
    have H' := zm H
    clear H
    go_wp2
    go_loopg [3,5] k1 (fun kq v3 v5 w' => ∃ (x3_2 : List Int) (x5_2 : Int),v5=.int .i64 x5_2∧Aside0 (psalteryref06_Row.l1 kq a0 x3_2 x5_2=some r)∧Aside0 (kq≤k1)∧Aside0 (Kd.R (Kd.int .u64) 51 w' w.heap.size (fun _=>True) v3 x3_2)∧Aside0 (Below w.heap.size w w'))
    case atStart=>exact ⟨(x3_1),(0),yq,H',⟨Nat.le_refl _⟩,⟨yr HO_3⟩,⟨yhb⟩⟩
    case round =>
     clear H'
     try clear c2
     try clear c2b0
     try clear c3
     obtain ⟨x3_2,x5_2,rfl,HA,HK2,HO_3,HB⟩:=hrel
     cases gk with
     | zero=>exact absurd HA.out (by simp [psalteryref06_Row.l1])
     | succ k2 =>
      have H:=HA.out;clear HA
      simp only [psalteryref06_Row.l1] at H
      by_cases c8 : x5_2 < a0
      ·
       rw [if_pos c8] at H
       have c8b0 : decide (x5_2 < a0)=true:=decide_eq_true c8
       clear c8
       have H' := zm H
       clear H
       go_wp2
       go_loopg [6,7] k2 (fun kq v6 v7 w' => ∃ (x6_3 : List Int) (x7_3 : Int),v7=.int .i64 x7_3∧Aside0 (psalteryref06_Row.l2 kq a0 x3_2 x5_2 x6_3 x7_3=some r)∧Aside0 (kq≤k2)∧Aside0 (Kd.R (Kd.int .u64) 51 w' w.heap.size (fun k_=>some k_≠(v6 : Value).ownBlock) u3 x3_2)∧Aside0 (Kd.R (Kd.int .u64) 51 w' w.heap.size (fun k_=>some k_≠(u3 : Value).ownBlock) v6 x6_3)∧Aside0 (Below w.heap.size w w'))
       case atStart=>exact ⟨(([] : List Int)),(0),yq,H',⟨Nat.le_refl _⟩,⟨by (with_reducible repeat (first|apply zo|apply zp|apply zq));exact zG HO_3.out (fun _ hk=>(by simp [Value.ownBlock]))⟩,⟨yn⟩,⟨yhb⟩⟩
       case round =>
        clear H'
        try clear c2
        try clear c2b0
        try clear c3
        try clear c8
        try clear c8b0
        obtain ⟨x6_3,x7_3,rfl,HA,HK3,HO_3,HO_6,HB⟩:=hrel
        cases gk with
        | zero=>exact absurd HA.out (by simp [psalteryref06_Row.l2])
        | succ k3 =>
         have H:=HA.out;clear HA
         simp only [psalteryref06_Row.l2] at H
         by_cases c9 : x7_3≤12
         ·
          rw [if_pos c9] at H
          have c9b0 : decide (x7_3≤12)=true:=decide_eq_true c9
          clear c9
          by_cases c10 : 0≤x7_3
          ·
           rw [if_pos c10] at H
           have c10b0 : decide (0≤x7_3)=true:=decide_eq_true c10
           clear c10
           by_cases c11 : x7_3 < (x3_2.length : Int)
           ·
            rw [if_pos c11] at H
            have c11b0 : decide (x7_3 < (x3_2.length : Int))=true:=decide_eq_true c11
            clear c11
            have H' := zm H
            clear H
            obtain ⟨Ao12,co12,eo12⟩:=Kd.R_slice HO_3.out
            subst eo12
            have p691 : 0≤(x7_3 : Int):=yt
            have q691 : x7_3 < (x3_2.length : Int):=yt
            obtain ⟨ad691,e691,hx691_0⟩:=Kd.at_int (Kd.R_reads' HO_3.out).2.2 x7_3 p691 q691
            cases e691
            replace p691:=eq_true p691
            replace q691:=eq_true q691
            go_wp2
            go_loopg [8,9] k3 (fun kq v8 v9 w' => ∃ (x8_4 : Int) (x9_4 : Int),v8=.int .u64 x8_4∧v9=.int .i64 x9_4∧Aside0 (psalteryref06_Row.l3 kq a0 x3_2 x5_2 x6_3 x7_3 x8_4 x9_4=some r)∧Aside0 (kq≤k3)∧Aside0 (Kd.R (Kd.int .u64) 51 w' w.heap.size (fun k_=>some k_≠(u6 : Value).ownBlock) (.slice (some ad691) x3_2.length co12) x3_2)∧Aside0 (Kd.R (Kd.int .u64) 51 w' w.heap.size (fun k_=>some k_≠((.slice (some ad691) x3_2.length co12) : Value).ownBlock) u6 x6_3)∧Aside0 (Below w.heap.size w w'))
            case atStart=>exact ⟨(rd x3_2 x7_3),(1),yq,yq,H',⟨Nat.le_refl _⟩,⟨yr HO_3⟩,⟨yr HO_6⟩,⟨yhb⟩⟩
            case round =>
             clear H'
             try clear c2
             try clear c2b0
             try clear c3
             try clear c8
             try clear c8b0
             try clear c9
             try clear c9b0
             try clear c10
             try clear c10b0
             try clear c11
             try clear c11b0
             try clear hx691_0
             try clear p691
             try clear q691
             obtain ⟨x8_4,x9_4,rfl,rfl,HA,HK4,HO_3,HO_6,HB⟩:=hrel
             cases gk with
             | zero=>exact absurd HA.out (by simp [psalteryref06_Row.l3])
             | succ k4 =>
              have H:=HA.out;clear HA
              simp only [psalteryref06_Row.l3] at H
              by_cases c13 : x9_4≤x7_3
              ·
               rw [if_pos c13] at H
               have c13b0 : decide (x9_4≤x7_3)=true:=decide_eq_true c13
               clear c13
               obtain ⟨ji14,hji14⟩ : ∃ j_ : Int,(wrap64 (x7_3 - x9_4))=j_:=⟨_,rfl⟩
               replace H : (if 0≤(ji14) then (if (ji14) < (x3_2.length : Int) then (psalteryref06_Row.l3 k4 a0 x3_2 x5_2 x6_3 x7_3 (IntKind.u64.wrap (x8_4+(IntKind.u64.wrap (2 * (rd x3_2 (ji14)))))) (wrap64 (x9_4+1))) else (none)) else (none))=some r:=by first|(rw [hji14] at H;exact H)|(simp only [hji14] at H ⊢; exact H)
               have hji14w : (IntKind.i64.wrap (x7_3 - x9_4))=ji14:=(i64_w _).trans hji14
               by_cases c15 : 0≤(ji14)
               ·
                rw [if_pos c15] at H
                have c15b0 : decide (0≤(ji14))=true:=decide_eq_true c15
                clear c15
                by_cases c16 : (ji14) < (x3_2.length : Int)
                ·
                 rw [if_pos c16] at H
                 have c16b0 : decide ((ji14) < (x3_2.length : Int))=true:=decide_eq_true c16
                 clear c16
                 have H' := zm H
                 clear H
                 have p692 : 0≤((ji14) : Int):=yt
                 have q692 : (ji14) < (x3_2.length : Int):=yt
                 obtain ⟨ad692,e692,hx692_0⟩:=Kd.at_int (Kd.R_reads' HO_3.out).2.2 (ji14) p692 q692
                 obtain rfl : ad691=ad692:=(by injection e692)
                 replace p692:=eq_true p692
                 replace q692:=eq_true q692
                 go_wp2
                 go_roundg k4
                 case measure=>have:=HK1.out;have:=HK2.out;have:=HK3.out;have:=HK4.out;omega
                 case rel=>exact ⟨(IntKind.u64.wrap (x8_4+(IntKind.u64.wrap (2 * (rd x3_2 (ji14)))))),(wrap64 (x9_4+1)),(by first|rfl|(simp;done)|(simp only [← hji14] <;> (first|rfl|simp))|(simp [*];done)),yq,H',⟨by have:=HK1.out;have:=HK2.out;have:=HK3.out;have:=HK4.out;omega⟩,⟨yr HO_3⟩,⟨yr HO_6⟩,⟨yhb⟩⟩
                ·
                 rw [if_neg c16] at H
                 exact absurd H (by simp)
               ·
                rw [if_neg c15] at H
                exact absurd H (by simp)
              ·
               rw [if_neg c13] at H
               have c13b0 : decide (x9_4≤x7_3)=false:=decide_eq_false c13
               clear c13
               by_cases c17 : x6_3.length < 17592186044416
               ·
                rw [if_pos c17] at H
                have LMc17:=zm c17;clear c17
                obtain ⟨y693,hy693⟩ : ∃ y_ : List Int,y_=(x6_3 ++ [x8_4]):=⟨_,rfl⟩
                replace H : (psalteryref06_Row.l2 k4 a0 x3_2 x5_2 y693 (wrap64 (x7_3+1)))=some r:=yrw hy693 H
                have Ny693:=zm hy693;clear hy693
                have H' := zm H
                clear H
                go_wp2_with (first|((with_reducible refine gate_builtin (b:=.append) (xs := #[.tmp 49, .tmp 51]) rfl ?_);at_builtin;refine Kd.R_append (Kd.int .u64) (w0:=w) w.heap.size rfl (.tmp 49) (.tmp 51) 126 51 (.int .u64 0) 8 rfl Try.underlying126 info51 rfl (by decide) (by omega) u6 x6_3 x8_4 [.int .u64 x8_4] (fun k_=>some k_≠(.slice (some ad691) x3_2.length co12 : Value).ownBlock) (fun _=>False) rfl rfl ?aP (fun _ hk=>hk.elim) ?aF ?aO ?aB ?aS ?aL ?_;(case aP=>exact rfl);(case aB=>exact yhb);(case aF=>exact (fun k_ hk=>Kd.fresh' (Kd.R_lt (yr HO_3)) k_ hk));(case aO=>exact (yr HO_6));(case aS=>exact (zE yhb));(case aL=>have:=LMc17.out;omega);intro v694 w18 ho hb hg hat;rw [← Ny693.out] at ho;replace HO_3:=zm (Kd.R_after (ok:=(fun _=>True)) (by (with_reducible repeat (first|apply zo|apply zp|apply zq));exact zG HO_3.out (fun _ hk=>⟨trivial,hk⟩)) hg hat);replace HB:=zm (hb);have HO695:=zm (ho);clear HO_6;clear ho hb hg hat))
                go_roundg k4
                case measure=>have:=HK1.out;have:=HK2.out;have:=HK3.out;have:=HK4.out;omega
                case rel=>exact ⟨(y693),(wrap64 (x7_3+1)),yq,H',⟨by have:=HK1.out;have:=HK2.out;have:=HK3.out;have:=HK4.out;omega⟩,⟨by (with_reducible repeat (first|apply zo|apply zp|apply zq));exact zG HO_3.out (fun _ hk=>hk.2)⟩,⟨yr HO695⟩,⟨yhb⟩⟩
               ·
                rw [if_neg c17] at H
                exact absurd H (by simp)
           ·
            rw [if_neg c11] at H
            exact absurd H (by simp)
          ·
           rw [if_neg c10] at H
           exact absurd H (by simp)
         ·
          rw [if_neg c9] at H
          have c9b0 : decide (x7_3≤12)=false:=decide_eq_false c9
          clear c9
          have H' := zm H
          clear H
          go_wp2
          go_roundg k3
          case measure=>have:=HK1.out;have:=HK2.out;have:=HK3.out;omega
          case rel=>exact ⟨(x6_3),(wrap64 (x5_2+1)),yq,H',⟨by have:=HK1.out;have:=HK2.out;have:=HK3.out;omega⟩,⟨by (with_reducible repeat (first|apply zo|apply zp|apply zq));exact zG HO_6.out (fun _ hk=>trivial)⟩,⟨yhb⟩⟩
      ·
       rw [if_neg c8] at H
       have c8b0 : decide (x5_2 < a0)=false:=decide_eq_false c8
       clear c8
       obtain rfl:=Option.some.inj H
       go_wp2
       go_ret
       exact ⟨_,ye,yr HO_3,yhb⟩

end Go.Proofs.Ytnmbndkojpjkmaa.Prt

namespace Go.Proofs.Ytnmbndkojpjkmaa.Prt
open Go.RowKit Go.Proofs.YtnmbndkojpjkmaaW.PrintWords Go.Proofs.YtnmbndkojpjkmaaW.PrintLast Go.Proofs.YtnmbndkojpjkmaaW.PrintMore
attribute [local go_sem] max2_int min2_int max_two min_two max_three min_three max_four min_four   -- for this text's walks alone
set_option linter.unusedVariables false
set_option linter.unusedSimpArgs false

/-! ### psalteryref06_Count: function 43 -/
def psalteryref06_Count.f (k : Nat) (a0 : Int) (a1 : Int) : Option (Int):=(psalteryref06_Row.f k a0).bind fun t696=>(if 0≤a1 then (if a1 < (t696.length : Int) then (some (rd t696 a1)) else (none)) else (none))
theorem psalteryref06_Count.mono : ∀ a0 a1 k,LeO (psalteryref06_Count.f k a0 a1) (psalteryref06_Count.f (k+1) a0 a1):=by
 intro a0 a1 k
 unfold psalteryref06_Count.f
 repeat' first
   | (with_reducible exact psalteryref06_Row.mono _ _)
   | (with_reducible exact LeO.refl _)
   | (with_reducible exact LeO.none _)
   | (with_reducible refine LeO.ite ?_ ?_)
   | (with_reducible refine LeO.bind ?_ (fun _ => ?_))
   | exact psalteryref06_Row.mono _ _
   | exact LeO.none _
   | refine LeO.ite ?_ ?_
   | refine LeO.bind ?_ (fun _ => ?_)
set_option maxHeartbeats 8000000 in
set_option maxRecDepth 100000 in
theorem psalteryref06_Count.calls (k : Nat) (a0 : Int) (a1 : Int) (r : Int) (w : World) (h : psalteryref06_Count.f k a0 a1=some r) :
  Calls Try.prog 43 #[.int .i64 a0, .int .i64 a1] w fun e w' => e=.returned (.int .u64 r)∧Below w.heap.size w w' := by
 have HB:=zm (Below.refl w.heap.size w)
 have H : ((psalteryref06_Row.f k a0).bind fun t696=>(if 0≤a1 then (if a1 < (t696.length : Int) then (some (rd t696 a1)) else (none)) else (none)))=some r:=h
 clear h
 obtain ⟨t696,A3,H⟩:=ybi H
 by_cases c4 : 0≤a1
 ·
  rw [if_pos c4] at H
  have c4b0 : decide (0≤a1)=true:=decide_eq_true c4
  clear c4
  by_cases c5 : a1 < (t696.length : Int)
  ·
   rw [if_pos c5] at H
   have c5b0 : decide (a1 < (t696.length : Int))=true:=decide_eq_true c5
   clear c5
   obtain rfl:=Option.some.inj H
   go_enter Try.func43,Try.ntmps43
   go_wp2_with (first|((with_reducible refine gate_callee (f:=81) rfl ?_);refine ygl 6 Try.func81 #[.int .i64 a0] ?_;(with_reducible refine (psalteryref06_Row.calls k a0 t696 _ A3.out).mono ?_);rintro e w6 ⟨v697,rfl,ho0,hb⟩;refine ⟨_,rfl, ?_⟩;have HO698:=zm (Kd.R_lower ho0 (zE yhb));replace HB:=ybs hb;(try clear hb);(try clear hb2);(try clear hk);(try clear hi);(try clear ho0);obtain ⟨Ao7,co7,eo7⟩:=Kd.R_slice HO698.out;subst eo7;have p699 : 0≤(a1 : Int):=yt;have q699 : a1 < (t696.length : Int):=yt;obtain ⟨ad699,e699,hx699_0⟩:=Kd.at_int (Kd.R_reads' HO698.out).2.2 a1 p699 q699;cases e699;replace p699:=eq_true p699;replace q699:=eq_true q699))
   go_ret
   exact ⟨ye,yhb⟩
  ·
   rw [if_neg c5] at H
   exact absurd H (by simp)
 ·
  rw [if_neg c4] at H
  exact absurd H (by simp)

end Go.Proofs.Ytnmbndkojpjkmaa.Prt

namespace Go.Proofs.Ytnmbndkojpjkmaa.Prt
open Go.RowKit Go.Proofs.YtnmbndkojpjkmaaW.PrintWords Go.Proofs.YtnmbndkojpjkmaaW.PrintLast Go.Proofs.YtnmbndkojpjkmaaW.PrintMore
attribute [local go_sem] max2_int min2_int max_two min_two max_three min_three max_four min_four   -- for this text's walks alone
set_option linter.unusedVariables false
set_option linter.unusedSimpArgs false

/-! ### psalteryref06_Cost: function 101 -/
def psalteryref06_Cost.f (k : Nat) (a0 : Int) (a1 : Int) : Option (Int):=(psalteryref06_Count.f k a0 a1).bind fun t701=>(if (IntKind.u64.wrap (t701 - 1)) < 65536 then ((psalteryref03_Log2.f k (IntKind.u64.wrap (t701 - 1))).bind fun t702=>(some (wrap64 (1+t702)))) else ((psalteryref03_Log2.f k (IntKind.u64.wrap (Int.tdiv (IntKind.u64.wrap (t701 - 1)) 65536))).bind fun t703=>(some (wrap64 (17+t703)))))
theorem psalteryref06_Cost.mono : ∀ a0 a1 k,LeO (psalteryref06_Cost.f k a0 a1) (psalteryref06_Cost.f (k+1) a0 a1):=by
 intro a0 a1 k
 unfold psalteryref06_Cost.f
 repeat' first
   | (with_reducible exact psalteryref03_Log2.mono _ _)
   | (with_reducible exact psalteryref06_Count.mono _ _ _)
   | (with_reducible exact LeO.refl _)
   | (with_reducible exact LeO.none _)
   | (with_reducible refine LeO.ite ?_ ?_)
   | (with_reducible refine LeO.bind ?_ (fun _ => ?_))
   | exact psalteryref03_Log2.mono _ _
   | exact psalteryref06_Count.mono _ _ _
   | exact LeO.none _
   | refine LeO.ite ?_ ?_
   | refine LeO.bind ?_ (fun _ => ?_)
set_option maxHeartbeats 8000000 in
set_option maxRecDepth 100000 in
theorem psalteryref06_Cost.calls (k : Nat) (a0 : Int) (a1 : Int) (r : Int) (w : World) (h : psalteryref06_Cost.f k a0 a1=some r) :
  Calls Try.prog 101 #[.int .i64 a0, .int .i64 a1] w fun e w' => e=.returned (.int .i64 r)∧Below w.heap.size w w' := by
 have HB:=zm (Below.refl w.heap.size w)
 have H : ((psalteryref06_Count.f k a0 a1).bind fun t701=>(if (IntKind.u64.wrap (t701 - 1)) < 65536 then ((psalteryref03_Log2.f k (IntKind.u64.wrap (t701 - 1))).bind fun t702=>(some (wrap64 (1+t702)))) else ((psalteryref03_Log2.f k (IntKind.u64.wrap (Int.tdiv (IntKind.u64.wrap (t701 - 1)) 65536))).bind fun t703=>(some (wrap64 (17+t703))))))=some r:=h
 clear h
 obtain ⟨t701,A3,H⟩:=ybi H
 by_cases c4 : (IntKind.u64.wrap (t701 - 1)) < 65536
 ·
  rw [if_pos c4] at H
  have c4b0 : decide ((IntKind.u64.wrap (t701 - 1)) < 65536)=true:=decide_eq_true c4
  clear c4
  obtain ⟨t702,A5,H⟩:=ybi H
  obtain rfl:=Option.some.inj H
  go_enter Try.func101,Try.ntmps101
  go_wp2_with (first|((with_reducible refine gate_callee (f:=43) rfl ?_);refine ygl 8 Try.func43 #[.int .i64 a0, .int .i64 a1] ?_;(with_reducible refine (psalteryref06_Count.calls k a0 a1 t701 _ A3.out).mono ?_);rintro e w6 ⟨rfl,hb⟩;refine ⟨_,rfl, ?_⟩;replace HB:=ybs hb;(try clear hb);(try clear hb2);(try clear hk);(try clear hi))|((with_reducible refine gate_callee (f:=102) rfl ?_);refine ygl 13 Try.func102 #[.int .u64 (IntKind.u64.wrap (t701 - 1))] ?_;(with_reducible refine (psalteryref03_Log2.calls k (IntKind.u64.wrap (t701 - 1)) t702 _ A5.out).mono ?_);rintro e w' ⟨rfl,⟨nd,rfl⟩⟩;refine ⟨_,rfl, ?_⟩))
  go_ret
  exact ⟨ye,yhb⟩
 ·
  rw [if_neg c4] at H
  have c4b0 : decide ((IntKind.u64.wrap (t701 - 1)) < 65536)=false:=decide_eq_false c4
  clear c4
  obtain ⟨t703,A7,H⟩:=ybi H
  obtain rfl:=Option.some.inj H
  go_enter Try.func101,Try.ntmps101
  go_wp2_with (first|((with_reducible refine gate_callee (f:=43) rfl ?_);refine ygl 8 Try.func43 #[.int .i64 a0, .int .i64 a1] ?_;(with_reducible refine (psalteryref06_Count.calls k a0 a1 t701 _ A3.out).mono ?_);rintro e w8 ⟨rfl,hb⟩;refine ⟨_,rfl, ?_⟩;replace HB:=ybs hb;(try clear hb);(try clear hb2);(try clear hk);(try clear hi))|((with_reducible refine gate_callee (f:=102) rfl ?_);refine ygl 17 Try.func102 #[.int .u64 (IntKind.u64.wrap (Int.tdiv (IntKind.u64.wrap (t701 - 1)) 65536))] ?_;(with_reducible refine (psalteryref03_Log2.calls k (IntKind.u64.wrap (Int.tdiv (IntKind.u64.wrap (t701 - 1)) 65536)) t703 _ A7.out).mono ?_);rintro e w' ⟨rfl,⟨nd,rfl⟩⟩;refine ⟨_,rfl, ?_⟩))
  go_ret
  exact ⟨ye,yhb⟩

end Go.Proofs.Ytnmbndkojpjkmaa.Prt

namespace Go.Proofs.Ytnmbndkojpjkmaa.Prt
open Go.RowKit Go.Proofs.YtnmbndkojpjkmaaW.PrintWords Go.Proofs.YtnmbndkojpjkmaaW.PrintLast Go.Proofs.YtnmbndkojpjkmaaW.PrintMore
attribute [local go_sem] max2_int min2_int max_two min_two max_three min_three max_four min_four   -- for this text's walks alone
set_option linter.unusedVariables false
set_option linter.unusedSimpArgs false

/-! ### psalteryref12_Spent: function 99 -/
def psalteryref12_Spent.l0 : Nat→List Int→Int→Int→Option (Int)
 | 0,_,_,_=>none
 | k+1,x0,x3,x4=>if x4 < 5 then ((psalteryref10_Width.f k x4).bind fun t704=>(if 0≤x4 then (if x4 < (x0.length : Int) then ((psalteryref06_Cost.f k t704 (rd x0 x4)).bind fun t706=>(psalteryref12_Spent.l0 k x0 (wrap64 (x3+t706)) (wrap64 (x4+1)))) else (none)) else (none))) else (some x3)
def psalteryref12_Spent.f (k : Nat) (l0 : List Int) : Option (Int):=psalteryref12_Spent.l0 k l0 0 0
theorem psalteryref12_Spent.mono_l : ∀ k,(∀ y0 y1 y2,LeO (psalteryref12_Spent.l0 k y0 y1 y2) (psalteryref12_Spent.l0 (k+1) y0 y1 y2))
 | 0=>fun _ _ _ r h=>by simp [psalteryref12_Spent.l0] at h
 | k+1=>by
  have ih0:=psalteryref12_Spent.mono_l k
  ·
   intro y0 y1 y2
   unfold psalteryref12_Spent.l0
   repeat' first
   | (with_reducible exact ih0 _ _ _)
   | (with_reducible exact psalteryref06_Cost.mono _ _ _)
   | (with_reducible exact psalteryref10_Width.mono _ _)
   | (with_reducible exact LeO.refl _)
   | (with_reducible exact LeO.none _)
   | (with_reducible refine LeO.ite ?_ ?_)
   | (with_reducible refine LeO.bind ?_ (fun _ => ?_))
   | exact ih0 _ _ _
   | exact psalteryref06_Cost.mono _ _ _
   | exact psalteryref10_Width.mono _ _
   | exact LeO.none _
   | refine LeO.ite ?_ ?_
   | refine LeO.bind ?_ (fun _ => ?_)
theorem psalteryref12_Spent.mono : ∀ a0 k,LeO (psalteryref12_Spent.f k a0) (psalteryref12_Spent.f (k+1) a0):=by
 intro a0 k
 have ih0:=psalteryref12_Spent.mono_l k
 unfold psalteryref12_Spent.f
 repeat' first
   | (with_reducible exact ih0 _ _ _)
   | (with_reducible exact psalteryref06_Cost.mono _ _ _)
   | (with_reducible exact psalteryref10_Width.mono _ _)
   | (with_reducible exact LeO.refl _)
   | (with_reducible exact LeO.none _)
   | (with_reducible refine LeO.ite ?_ ?_)
   | (with_reducible refine LeO.bind ?_ (fun _ => ?_))
   | exact ih0 _ _ _
   | exact psalteryref06_Cost.mono _ _ _
   | exact psalteryref10_Width.mono _ _
   | exact LeO.none _
   | refine LeO.ite ?_ ?_
   | refine LeO.bind ?_ (fun _ => ?_)
def psalteryref12_Spent.T5 : Bool × List (List Nat × List Nat):=(true, [([], []),([], []),([1], [1]),([], []),([], []),([3,4], [3,4]),([5], [5]),([2,6,2], [2,6]),([0,7], [0,7]),([8,7,0,1,2,3,4,5,6,7,8], [0,8])])
def psalteryref12_Spent.B5 : List Nat := [0,0,2,0,0,24,56,126,255,511]
theorem psalteryref12_Spent.tab5 : rtab .any (opsOf Try.f99 5)=psalteryref12_Spent.T5:=by kernel_rfl
theorem psalteryref12_Spent.bits5 : waitsOk psalteryref12_Spent.T5.2 psalteryref12_Spent.B5=true:=by kernel_rfl
set_option maxHeartbeats 8000000 in
set_option maxRecDepth 100000 in
theorem psalteryref12_Spent.calls (k : Nat) (A0 : Option Addr) (c0 : Nat) (l0 : List Int) (r : Int) (w : World) (hr0 : Kd.C (Kd.int .i64) w A0 l0.length l0) (hc0 : l0.length≤c0) (h : psalteryref12_Spent.f k l0=some r) :
  Calls Try.prog 99 #[.slice A0 l0.length c0] w fun e w' => e=.returned (.int .i64 r)∧Below w.heap.size w w' := by
 have HR0:=zm hr0;have HC0:=zm hc0;clear hr0 hc0;have HB:=zm (Below.refl w.heap.size w)
 have H : (psalteryref12_Spent.l0 k l0 0 0)=some r:=h
 clear h
 have H' := zm H
 clear H
 go_enter Try.func99,Try.ntmps99
 go_wp2
 go_loopg [3,4] k (fun kq v3 v4 w' => ∃ (x3_1 : Int) (x4_1 : Int),v3=.int .i64 x3_1∧v4=.int .i64 x4_1∧Aside0 (psalteryref12_Spent.l0 kq l0 x3_1 x4_1=some r)∧Aside0 (kq≤k)∧Aside0 (Below w.heap.size w w'))
 case atStart=>exact ⟨(0),(0),yq,yq,H',⟨Nat.le_refl _⟩,⟨yhb⟩⟩
 case round =>
  clear H'
  obtain ⟨x3_1,x4_1,rfl,rfl,HA,HK1,HB⟩:=hrel
  cases gk with
  | zero=>exact absurd HA.out (by simp [psalteryref12_Spent.l0])
  | succ k1 =>
   have H:=HA.out;clear HA
   simp only [psalteryref12_Spent.l0] at H
   by_cases c2 : x4_1 < 5
   ·
    rw [if_pos c2] at H
    have c2b0 : decide (x4_1 < 5)=true:=decide_eq_true c2
    clear c2
    obtain ⟨t704,A3,H⟩:=ybi H
    by_cases c4 : 0≤x4_1
    ·
     rw [if_pos c4] at H
     have c4b0 : decide (0≤x4_1)=true:=decide_eq_true c4
     clear c4
     by_cases c5 : x4_1 < (l0.length : Int)
     ·
      rw [if_pos c5] at H
      have c5b0 : decide (x4_1 < (l0.length : Int))=true:=decide_eq_true c5
      clear c5
      obtain ⟨t706,A6,H⟩:=ybi H
      have H' := zm H
      clear H
      try go_wp2
      replace HB:=zm (zf HB.out)
      have p705 : 0≤(x4_1 : Int):=yt
      have q705 : x4_1 < (l0.length : Int):=yt
      obtain ⟨ad705,e705,hx705_0⟩:=Kd.at_int HR0.out x4_1 p705 q705
      have hw705_0:=hx705_0
      cases e705
      replace hx705_0:=(HB.out.cell (zb w _ hx705_0)).trans hx705_0
      replace p705:=eq_true p705
      replace q705:=eq_true q705
      refine start_ (n:=10) (S:=fun w' => w'.cell? (ad705.add (x4_1).toNat)=some (.int .i64 (rd l0 x4_1))) (ds := []) #[false,false,false,false,false,false,false,false,false,false] (by kernel_rfl) rfl rfl (((HB.out.cell (zb w _ hw705_0)).trans hw705_0)) (fun hHeld => ?_);refine with_tabW psalteryref12_Spent.tab5 psalteryref12_Spent.bits5 (fun HT_ HW_ => ?_)
      generalize wr.drew=w7 at HB hx705_0 hHeld ⊢
      refine yp 0 9 HT_ ?_
      refine yp 1 10 HT_ ?_
      refine yp 3 12 HT_ ?_
      refine yp 4 13 HT_ ?_
      refine yp 5 14 HT_ ?_
      refine yl 6 15 HT_ HW_ hHeld ?_
      refine yw 2 11 HT_ (fun K hK => ?_)
      refine ygs Try.func46 #[.int .i64 x4_1] ?_
      with_reducible refine (psalteryref10_Width.calls k1 x4_1 t704 _ A3.out).mono ?_
      rintro e w' ⟨rfl,⟨nd,rfl⟩⟩
      refine ⟨_,rfl, ?_⟩
      refine hK.out _ _ (((HB.out.cell (zb w _ hw705_0)).trans hw705_0)) (fun hHeld => ?_)
      clear hK K
      refine ym (some 11) ?_
      refine yw 7 16 HT_ (fun K hK => ?_)
      refine ygs Try.func101 #[.int .i64 t704, .int .i64 (rd l0 x4_1)] ?_
      with_reducible refine (psalteryref06_Cost.calls k1 t704 (rd l0 x4_1) t706 _ A6.out).mono ?_
      rintro e w8 ⟨rfl,hb⟩
      refine ⟨_,rfl, ?_⟩
      replace HB:=ybs hb
      (try clear hb)
      (try clear hb2)
      (try clear hk)
      (try clear hi)
      refine hK.out _ _ (((HB.out.cell (zb w _ hw705_0)).trans hw705_0)) (fun hHeld => ?_)
      clear hK K
      refine ym (some 16) ?_
      refine yp 8 17 HT_ ?_
      refine yp 9 3 HT_ ?_
      refine done_ (done_of HT_.out (by kernel_rfl)) ?_
      try go_wp2
      go_roundg k1
      case measure=>have:=HK1.out;omega
      case rel=>exact ⟨(wrap64 (x3_1+t706)),(wrap64 (x4_1+1)),yq,yq,H',⟨by have:=HK1.out;omega⟩,⟨yhb⟩⟩
     ·
      rw [if_neg c5] at H
      exact absurd H (by simp)
    ·
     rw [if_neg c4] at H
     exact absurd H (by simp)
   ·
    rw [if_neg c2] at H
    have c2b0 : decide (x4_1 < 5)=false:=decide_eq_false c2
    clear c2
    obtain rfl:=Option.some.inj H
    go_wp2
    go_ret
    exact ⟨ye,yhb⟩

end Go.Proofs.Ytnmbndkojpjkmaa.Prt

namespace Go.Proofs.Ytnmbndkojpjkmaa.Prt
open Go.RowKit Go.Proofs.YtnmbndkojpjkmaaW.PrintWords Go.Proofs.YtnmbndkojpjkmaaW.PrintLast Go.Proofs.YtnmbndkojpjkmaaW.PrintMore
attribute [local go_sem] max2_int min2_int max_two min_two max_three min_three max_four min_four   -- for this text's walks alone
set_option linter.unusedVariables false
set_option linter.unusedSimpArgs false

/-! ### psalteryref12_May: function 95 -/
def psalteryref12_May.j0 : Nat→List Int→Int→Int→Bool→Option (Bool)
 | 0,_,_,_,_=>none
 | k+1,x1,x2,x3,x32=>if x32=true then (some false) else ((psalteryref12_More.f x1 x2).bind fun t711=>((psalteryref12_Spent.f k t711).bind fun t714=>(some (decide (t714≤x3)))))
def psalteryref12_May.f (k : Nat) (l0 : List Int) (l1 : List Int) (a2 : Int) (a3 : Int) : Option (Bool):=if 0≤a2 then (if a2 < (l0.length : Int) then (if (rd l0 a2) < 1 then (psalteryref12_May.j0 k l1 a2 a3 true) else (if a2 < (l1.length : Int) then (if (rd l1 a2) ≥ 12 then (psalteryref12_May.j0 k l1 a2 a3 true) else ((psalteryref10_Width.f k a2).bind fun t709=>(if t709=1 then (psalteryref12_May.j0 k l1 a2 a3 (decide ((rd l1 a2) > 0))) else (psalteryref12_May.j0 k l1 a2 a3 false)))) else (none))) else (none)) else (none)
theorem psalteryref12_May.mono_l : ∀ k,(∀ y0 y1 y2 y3,LeO (psalteryref12_May.j0 k y0 y1 y2 y3) (psalteryref12_May.j0 (k+1) y0 y1 y2 y3))
 | 0=>fun _ _ _ _ r h=>by simp [psalteryref12_May.j0] at h
 | k+1=>by
  have ih0:=psalteryref12_May.mono_l k
  ·
   intro y0 y1 y2 y3
   unfold psalteryref12_May.j0
   repeat' first
   | (with_reducible exact ih0 _ _ _ _)
   | (with_reducible exact psalteryref10_Width.mono _ _)
   | (with_reducible exact psalteryref12_Spent.mono _ _)
   | (with_reducible exact LeO.refl _)
   | (with_reducible exact LeO.none _)
   | (with_reducible refine LeO.ite ?_ ?_)
   | (with_reducible refine LeO.bind ?_ (fun _ => ?_))
   | exact ih0 _ _ _ _
   | exact psalteryref10_Width.mono _ _
   | exact psalteryref12_Spent.mono _ _
   | exact LeO.none _
   | refine LeO.ite ?_ ?_
   | refine LeO.bind ?_ (fun _ => ?_)
theorem psalteryref12_May.mono : ∀ a0 a1 a2 a3 k,LeO (psalteryref12_May.f k a0 a1 a2 a3) (psalteryref12_May.f (k+1) a0 a1 a2 a3):=by
 intro a0 a1 a2 a3 k
 have ih0:=psalteryref12_May.mono_l k
 unfold psalteryref12_May.f
 repeat' first
   | (with_reducible exact ih0 _ _ _ _)
   | (with_reducible exact psalteryref10_Width.mono _ _)
   | (with_reducible exact psalteryref12_Spent.mono _ _)
   | (with_reducible exact LeO.refl _)
   | (with_reducible exact LeO.none _)
   | (with_reducible refine LeO.ite ?_ ?_)
   | (with_reducible refine LeO.bind ?_ (fun _ => ?_))
   | exact ih0 _ _ _ _
   | exact psalteryref10_Width.mono _ _
   | exact psalteryref12_Spent.mono _ _
   | exact LeO.none _
   | refine LeO.ite ?_ ?_
   | refine LeO.bind ?_ (fun _ => ?_)
set_option maxHeartbeats 8000000 in
set_option maxRecDepth 100000 in
theorem psalteryref12_May.calls (k : Nat) (A0 : Option Addr) (c0 : Nat) (l0 : List Int) (A1 : Option Addr) (c1 : Nat) (l1 : List Int) (a2 : Int) (a3 : Int) (r : Bool) (w : World) (hr0 : Kd.C (Kd.int .i64) w A0 l0.length l0) (hc0 : l0.length≤c0) (hr1 : Kd.C (Kd.int .i64) w A1 l1.length l1) (hc1 : l1.length≤c1) (h : psalteryref12_May.f k l0 l1 a2 a3=some r) :
  Calls Try.prog 95 #[.slice A0 l0.length c0, .slice A1 l1.length c1, .int .i64 a2, .int .i64 a3] w fun e w' => e=.returned (.bool r)∧Below w.heap.size w w' := by
 have HR0:=zm hr0;have HC0:=zm hc0;clear hr0 hc0;have HR1:=zm hr1;have HC1:=zm hc1;clear hr1 hc1;have HB:=zm (Below.refl w.heap.size w)
 have H : (if 0≤a2 then (if a2 < (l0.length : Int) then (if (rd l0 a2) < 1 then (psalteryref12_May.j0 k l1 a2 a3 true) else (if a2 < (l1.length : Int) then (if (rd l1 a2) ≥ 12 then (psalteryref12_May.j0 k l1 a2 a3 true) else ((psalteryref10_Width.f k a2).bind fun t709=>(if t709=1 then (psalteryref12_May.j0 k l1 a2 a3 (decide ((rd l1 a2) > 0))) else (psalteryref12_May.j0 k l1 a2 a3 false)))) else (none))) else (none)) else (none))=some r:=h
 clear h;have HC5:=zm H;clear H
 go_enter Try.func95,Try.ntmps95
 go_upto_region 1 with (fail)
 go_cut [32] (fun v32 wc => ∃ (kq : Nat) (x32_4 : Bool),v32=.bool x32_4∧Aside0 (psalteryref12_May.j0 kq l1 a2 a3 x32_4=some r)∧Aside0 (kq≤k)∧Aside0 (Below w.heap.size w wc))
 case first =>
  have H:=HC5.out;clear HC5
  by_cases c6 : 0≤a2
  ·
   rw [if_pos c6] at H
   have c6b0 : decide (0≤a2)=true:=decide_eq_true c6
   clear c6
   (first|rw [c6b0]|(simp only [i64_w,i32_w];rw [c6b0])|skip)
   by_cases c7 : a2 < (l0.length : Int)
   ·
    rw [if_pos c7] at H
    have c7b0 : decide (a2 < (l0.length : Int))=true:=decide_eq_true c7
    clear c7
    by_cases c8 : (rd l0 a2) < 1
    ·
     rw [if_pos c8] at H
     have c8b0 : decide ((rd l0 a2) < 1)=true:=decide_eq_true c8
     clear c8
     have H' := zm H
     clear H
     have p707 : 0≤(a2 : Int):=yt
     have q707 : a2 < (l0.length : Int):=yt
     obtain ⟨ad707,e707,hx707_0⟩:=Kd.at_int HR0.out a2 p707 q707
     cases e707
     replace hx707_0:=(HB.out.cell (zb w _ hx707_0)).trans hx707_0
     replace p707:=eq_true p707
     replace q707:=eq_true q707
     go_wp2
     go_meet
     case rel=>exact ⟨_,(true),yq,H',⟨yo⟩,⟨yhb⟩⟩
    ·
     rw [if_neg c8] at H
     have c8b0 : decide ((rd l0 a2) < 1)=false:=decide_eq_false c8
     clear c8
     by_cases c9 : a2 < (l1.length : Int)
     ·
      rw [if_pos c9] at H
      have c9b0 : decide (a2 < (l1.length : Int))=true:=decide_eq_true c9
      clear c9
      by_cases c10 : (rd l1 a2) ≥ 12
      ·
       rw [if_pos c10] at H
       have c10b0 : decide (12≤(rd l1 a2))=true:=decide_eq_true c10
       clear c10
       have H' := zm H
       clear H
       have p707 : 0≤(a2 : Int):=yt
       have q707 : a2 < (l0.length : Int):=yt
       obtain ⟨ad707,e707,hx707_0⟩:=Kd.at_int HR0.out a2 p707 q707
       cases e707
       replace hx707_0:=(HB.out.cell (zb w _ hx707_0)).trans hx707_0
       replace p707:=eq_true p707
       replace q707:=eq_true q707
       have p708 : 0≤(a2 : Int):=yt
       have q708 : a2 < (l1.length : Int):=yt
       obtain ⟨ad708,e708,hx708_0⟩:=Kd.at_int HR1.out a2 p708 q708
       cases e708
       replace hx708_0:=(HB.out.cell (zb w _ hx708_0)).trans hx708_0
       replace p708:=eq_true p708
       replace q708:=eq_true q708
       go_wp2
       go_meet
       case rel=>exact ⟨_,(true),yq,H',⟨yo⟩,⟨yhb⟩⟩
      ·
       rw [if_neg c10] at H
       have c10b0 : decide (12≤(rd l1 a2))=false:=decide_eq_false c10
       clear c10
       obtain ⟨t709,A11,H⟩:=ybi H
       by_cases c12 : t709=1
       ·
        rw [if_pos c12] at H
        have c12b0 : (t709 == 1)=true:=beq_iff_eq.mpr c12
        have c12b1 : (t709 != 1)=false:=bne_eq_false_iff_eq.mpr c12
        clear c12
        have H' := zm H
        clear H
        have p707 : 0≤(a2 : Int):=yt
        have q707 : a2 < (l0.length : Int):=yt
        obtain ⟨ad707,e707,hx707_0⟩:=Kd.at_int HR0.out a2 p707 q707
        cases e707
        replace hx707_0:=(HB.out.cell (zb w _ hx707_0)).trans hx707_0
        replace p707:=eq_true p707
        replace q707:=eq_true q707
        have p708 : 0≤(a2 : Int):=yt
        have q708 : a2 < (l1.length : Int):=yt
        obtain ⟨ad708,e708,hx708_0⟩:=Kd.at_int HR1.out a2 p708 q708
        cases e708
        replace hx708_0:=(HB.out.cell (zb w _ hx708_0)).trans hx708_0
        replace p708:=eq_true p708
        replace q708:=eq_true q708
        go_wp2_with (first|(go_at_call 46;(with_reducible refine (psalteryref10_Width.calls k a2 t709 _ A11.out).mono ?_);rintro e w' ⟨rfl,⟨nd,rfl⟩⟩;have p710 : 0≤(a2 : Int):=yt;have q710 : a2 < (l1.length : Int):=yt;obtain ⟨ad710,e710,hx710_0⟩:=Kd.at_int HR1.out a2 p710 q710;obtain rfl : ad708=ad710:=(by injection e710);replace hx710_0:=(HB.out.cell (zb w _ hx710_0)).trans hx710_0;replace p710:=eq_true p710;replace q710:=eq_true q710))
        go_meet
        case rel=>exact ⟨_,(decide ((rd l1 a2) > 0)),yq,H',⟨yo⟩,⟨yhb⟩⟩
       ·
        rw [if_neg c12] at H
        have c12b0 : (t709 == 1)=false:=beq_eq_false_iff_ne.mpr c12
        have c12b1 : (t709 != 1)=true:=bne_iff_ne.mpr c12
        have H' := zm H
        clear H
        have p707 : 0≤(a2 : Int):=yt
        have q707 : a2 < (l0.length : Int):=yt
        obtain ⟨ad707,e707,hx707_0⟩:=Kd.at_int HR0.out a2 p707 q707
        cases e707
        replace hx707_0:=(HB.out.cell (zb w _ hx707_0)).trans hx707_0
        replace p707:=eq_true p707
        replace q707:=eq_true q707
        have p708 : 0≤(a2 : Int):=yt
        have q708 : a2 < (l1.length : Int):=yt
        obtain ⟨ad708,e708,hx708_0⟩:=Kd.at_int HR1.out a2 p708 q708
        cases e708
        replace hx708_0:=(HB.out.cell (zb w _ hx708_0)).trans hx708_0
        replace p708:=eq_true p708
        replace q708:=eq_true q708
        go_wp2_with (first|(go_at_call 46;(with_reducible refine (psalteryref10_Width.calls k a2 t709 _ A11.out).mono ?_);rintro e w' ⟨rfl,⟨nd,rfl⟩⟩))
        go_meet
        case rel=>exact ⟨_,(false),yq,H',⟨yo⟩,⟨yhb⟩⟩
     ·
      rw [if_neg c9] at H
      exact absurd H (by simp)
   ·
    rw [if_neg c7] at H
    exact absurd H (by simp)
  ·
   rw [if_neg c6] at H
   exact absurd H (by simp)
 case rest =>
  clear HC5
  try clear c1
  obtain ⟨kq,x32_4,rfl,HA,HJ4,HB⟩:=hcut
  cases kq with
  | zero=>exact absurd HA.out (by simp [psalteryref12_May.j0])
  | succ kj4 =>
   have H:=HA.out;clear HA
   simp only [psalteryref12_May.j0] at H
   by_cases c13 : x32_4=true
   ·
    subst c13
    rw [if_pos rfl] at H
    obtain rfl:=Option.some.inj H
    go_wp2
    go_ret
    exact ⟨ye,yhb⟩
   ·
    replace c13:=Bool.eq_false_iff.mpr c13
    subst c13
    rw [ynf] at H
    obtain ⟨t711,A14,H⟩:=ybi H
    obtain ⟨t714,A15,H⟩:=ybi H
    obtain rfl:=Option.some.inj H
    go_wp2_with (first|((with_reducible refine gate_callee (f:=96) rfl ?_);refine ygl 35 Try.func96 #[.slice A1 l1.length c1, .int .i64 a2] ?_;(with_reducible refine (psalteryref12_More.calls _ _ l1 a2 t711 _ ?side1 HC1.out A14.out).mono ?_);(case side1=>exact ycb HR1);rintro e w16 ⟨v712,rfl,ho0,hb⟩;refine ⟨_,rfl, ?_⟩;have HO713:=zm (Kd.R_lower ho0 (zE yhb));replace HB:=ybs hb;(try clear hb);(try clear hb2);(try clear hk);(try clear hi);(try clear ho0);obtain ⟨Ao17,co17,eo17⟩:=Kd.R_slice HO713.out;subst eo17)|((with_reducible refine gate_callee (f:=99) rfl ?_);refine ygl 36 Try.func99 #[.slice Ao17 t711.length co17] ?_;(with_reducible refine (psalteryref12_Spent.calls kj4 _ _ t711 t714 _ ?side1 ?side2 A15.out).mono ?_);(case side1=>exact yce (Kd.R_reads' HO713.out).2.2);(case side2=>exact (Kd.R_reads' HO713.out).2.1);rintro e w18 ⟨rfl,hb⟩;refine ⟨_,rfl, ?_⟩;replace HO713:=yRb HO713 hb;replace HB:=ybs hb;(try clear hb);(try clear hb2);(try clear hk);(try clear hi)))
    go_ret
    exact ⟨ye,yhb⟩

end Go.Proofs.Ytnmbndkojpjkmaa.Prt

namespace Go.Proofs.Ytnmbndkojpjkmaa.Prt
open Go.RowKit Go.Proofs.YtnmbndkojpjkmaaW.PrintWords Go.Proofs.YtnmbndkojpjkmaaW.PrintLast Go.Proofs.YtnmbndkojpjkmaaW.PrintMore
attribute [local go_sem] max2_int min2_int max_two min_two max_three min_three max_four min_four   -- for this text's walks alone
set_option linter.unusedVariables false
set_option linter.unusedSimpArgs false

/-! ### psalteryref12_Channel: function 83 -/
mutual
def psalteryref12_Channel.l0 : Nat→List Int→Int→List Int→Option (List Int)
 | 0,_,_,_=>none
 | k+1,x0,x1,x5=>psalteryref12_Channel.l1 k x0 x1 x5 (-1) 0 0
def psalteryref12_Channel.l1 : Nat→List Int→Int→List Int→Int→Int→Int→Option (List Int)
 | 0,_,_,_,_,_,_=>none
 | k+1,x0,x1,x5,x6,x7,x8=>if x8 < 5 then (if 0≤x8 then (if x8 < (x0.length : Int) then (if x8 < (x5.length : Int) then ((psalteryref10_Width.f k x8).bind fun t723=>(if t723=0 then (none) else ((psalteryref12_May.f k x0 x5 x8 x1).bind fun t724=>(if t724=true then (if x6 < 0 then (psalteryref12_Channel.l1 k x0 x1 x5 x8 (wrap64 ((wrap64 (8 * (rd x0 x8))) - (wrap64 (Int.tdiv (wrap64 (16 * (rd x5 x8))) t723)))) (wrap64 (x8+1))) else (if (wrap64 ((wrap64 (8 * (rd x0 x8))) - (wrap64 (Int.tdiv (wrap64 (16 * (rd x5 x8))) t723)))) > x7 then (psalteryref12_Channel.l1 k x0 x1 x5 x8 (wrap64 ((wrap64 (8 * (rd x0 x8))) - (wrap64 (Int.tdiv (wrap64 (16 * (rd x5 x8))) t723)))) (wrap64 (x8+1))) else (psalteryref12_Channel.l1 k x0 x1 x5 x6 x7 (wrap64 (x8+1))))) else (psalteryref12_Channel.l1 k x0 x1 x5 x6 x7 (wrap64 (x8+1))))))) else (none)) else (none)) else (none)) else (if x6 < 0 then (some x5) else ((psalteryref12_More.f x5 x6).bind fun t718=>(psalteryref12_Channel.l0 k x0 x1 t718)))
end
def psalteryref12_Channel.f (k : Nat) (l0 : List Int) (a1 : Int) : Option (List Int):=psalteryref12_Channel.l0 k l0 a1 (([0,0,0,0,0] : List Int))
theorem psalteryref12_Channel.mono_l : ∀ k,(∀ y0 y1 y2,LeO (psalteryref12_Channel.l0 k y0 y1 y2) (psalteryref12_Channel.l0 (k+1) y0 y1 y2))∧(∀ y0 y1 y2 y3 y4 y5,LeO (psalteryref12_Channel.l1 k y0 y1 y2 y3 y4 y5) (psalteryref12_Channel.l1 (k+1) y0 y1 y2 y3 y4 y5))
 | 0=>⟨fun _ _ _ r h=>by simp [psalteryref12_Channel.l0] at h,fun _ _ _ _ _ _ r h=>by simp [psalteryref12_Channel.l1] at h⟩
 | k+1=>by
  obtain ⟨ih0,ih1⟩:=psalteryref12_Channel.mono_l k
  refine ⟨?_, ?_⟩
  ·
   intro y0 y1 y2
   unfold psalteryref12_Channel.l0
   repeat' first
   | (with_reducible exact ih0 _ _ _)
   | (with_reducible exact ih1 _ _ _ _ _ _)
   | (with_reducible exact psalteryref10_Width.mono _ _)
   | (with_reducible exact psalteryref12_May.mono _ _ _ _ _)
   | (with_reducible exact LeO.refl _)
   | (with_reducible exact LeO.none _)
   | (with_reducible refine LeO.ite ?_ ?_)
   | (with_reducible refine LeO.bind ?_ (fun _ => ?_))
   | exact ih0 _ _ _
   | exact ih1 _ _ _ _ _ _
   | exact psalteryref10_Width.mono _ _
   | exact psalteryref12_May.mono _ _ _ _ _
   | exact LeO.none _
   | refine LeO.ite ?_ ?_
   | refine LeO.bind ?_ (fun _ => ?_)
  ·
   intro y0 y1 y2 y3 y4 y5
   unfold psalteryref12_Channel.l1
   repeat' first
   | (with_reducible exact ih0 _ _ _)
   | (with_reducible exact ih1 _ _ _ _ _ _)
   | (with_reducible exact psalteryref10_Width.mono _ _)
   | (with_reducible exact psalteryref12_May.mono _ _ _ _ _)
   | (with_reducible exact LeO.refl _)
   | (with_reducible exact LeO.none _)
   | (with_reducible refine LeO.ite ?_ ?_)
   | (with_reducible refine LeO.bind ?_ (fun _ => ?_))
   | exact ih0 _ _ _
   | exact ih1 _ _ _ _ _ _
   | exact psalteryref10_Width.mono _ _
   | exact psalteryref12_May.mono _ _ _ _ _
   | exact LeO.none _
   | refine LeO.ite ?_ ?_
   | refine LeO.bind ?_ (fun _ => ?_)
theorem psalteryref12_Channel.mono : ∀ a0 a1 k,LeO (psalteryref12_Channel.f k a0 a1) (psalteryref12_Channel.f (k+1) a0 a1):=by
 intro a0 a1 k
 obtain ⟨ih0,ih1⟩:=psalteryref12_Channel.mono_l k
 unfold psalteryref12_Channel.f
 repeat' first
   | (with_reducible exact ih0 _ _ _)
   | (with_reducible exact ih1 _ _ _ _ _ _)
   | (with_reducible exact psalteryref10_Width.mono _ _)
   | (with_reducible exact psalteryref12_May.mono _ _ _ _ _)
   | (with_reducible exact LeO.refl _)
   | (with_reducible exact LeO.none _)
   | (with_reducible refine LeO.ite ?_ ?_)
   | (with_reducible refine LeO.bind ?_ (fun _ => ?_))
   | exact ih0 _ _ _
   | exact ih1 _ _ _ _ _ _
   | exact psalteryref10_Width.mono _ _
   | exact psalteryref12_May.mono _ _ _ _ _
   | exact LeO.none _
   | refine LeO.ite ?_ ?_
   | refine LeO.bind ?_ (fun _ => ?_)
set_option maxHeartbeats 8000000 in
set_option maxRecDepth 100000 in
theorem psalteryref12_Channel.calls (k : Nat) (A0 : Option Addr) (c0 : Nat) (l0 : List Int) (a1 : Int) (r : List Int) (w : World) (hr0 : Kd.C (Kd.int .i64) w A0 l0.length l0) (hc0 : l0.length≤c0) (h : psalteryref12_Channel.f k l0 a1=some r) :
  Calls Try.prog 83 #[.slice A0 l0.length c0, .int .i64 a1] w fun e w' => ∃ v0_ : Value,e=.returned (v0_)∧Kd.R (Kd.int .i64) 3 w' w.heap.size (fun _=>True) v0_ r∧Below w.heap.size w w' := by
 have HR0:=zm hr0;have HC0:=zm hc0;clear hr0 hc0;have HB:=zm (Below.refl w.heap.size w)
 have H : (psalteryref12_Channel.l0 k l0 a1 (([0,0,0,0,0] : List Int)))=some r:=h
 clear h
 obtain ⟨y715,hy715⟩ : ∃ y_ : List Int,y_=(([0,0,0,0,0] : List Int)):=⟨_,rfl⟩
 replace H : (psalteryref12_Channel.l0 k l0 a1 y715)=some r:=yrw hy715 H
 have Ny715:=zm hy715;clear hy715
 have H' := zm H
 clear H
 go_enter Try.func83,Try.ntmps83
 go_wp2_with (first|((with_reducible refine gate_dst (N:=10) rfl ?_);refine Kd.R_lit (Kd.int .i64) _ 3 ?hg (N:=10) ?hd (xs:=([0,0,0,0,0] : List Int)) (inner := [.int .i64 0, .int .i64 0, .int .i64 0, .int .i64 0, .int .i64 0]) (ok:=fun _=>True) (okp:=fun _=>True) ?hr ?hp (fun _ hk=>hk) trivial (Below.refl _ _) (Nat.le_refl _) (by simp) ?_;(case hd=>rfl);(case hg=>rfl);(case hr=>first|(go_simp;done)|(go_simp;rfl));(case hp=>exact (Reps.one (show Kd.M (Kd.int .i64) _ _ _ 0 [.int .i64 0] from rfl) (Reps.one (show Kd.M (Kd.int .i64) _ _ _ 0 [.int .i64 0] from rfl) (Reps.one (show Kd.M (Kd.int .i64) _ _ _ 0 [.int .i64 0] from rfl) (Reps.one (show Kd.M (Kd.int .i64) _ _ _ 0 [.int .i64 0] from rfl) (Reps.one (show Kd.M (Kd.int .i64) _ _ _ 0 [.int .i64 0] from rfl) (Reps.none _ _)))))));intro v716 w3 ho4 hb hg_ hnew_;clear hg_ hnew_;(first|rw [← Ny715.out] at ho4|(simp only [Int.reduceToNat] at ho4;rw [← Ny715.out] at ho4));have HO717:=zm (Kd.R_lower ho4 (zE yhb));replace HB:=ybs hb;clear hb ho4))
 repeat (go_quiet (first|((with_reducible refine gate_dst (N:=10) rfl ?_);refine Kd.R_lit (Kd.int .i64) _ 3 ?hg (N:=10) ?hd (xs:=([0,0,0,0,0] : List Int)) (inner := [.int .i64 0, .int .i64 0, .int .i64 0, .int .i64 0, .int .i64 0]) (ok:=fun _=>True) (okp:=fun _=>True) ?hr ?hp (fun _ hk=>hk) trivial (Below.refl _ _) (Nat.le_refl _) (by simp) ?_;(case hd=>rfl);(case hg=>rfl);(case hr=>first|(go_simp;done)|(go_simp;rfl));(case hp=>exact (Reps.one (show Kd.M (Kd.int .i64) _ _ _ 0 [.int .i64 0] from rfl) (Reps.one (show Kd.M (Kd.int .i64) _ _ _ 0 [.int .i64 0] from rfl) (Reps.one (show Kd.M (Kd.int .i64) _ _ _ 0 [.int .i64 0] from rfl) (Reps.one (show Kd.M (Kd.int .i64) _ _ _ 0 [.int .i64 0] from rfl) (Reps.one (show Kd.M (Kd.int .i64) _ _ _ 0 [.int .i64 0] from rfl) (Reps.none _ _)))))));intro v716 w3 ho4 hb hg_ hnew_;clear hg_ hnew_;(first|rw [← Ny715.out] at ho4|(simp only [Int.reduceToNat] at ho4;rw [← Ny715.out] at ho4));have HO717:=zm (Kd.R_lower ho4 (zE yhb));replace HB:=ybs hb;clear hb ho4));try go_wp2_with (first|((with_reducible refine gate_dst (N:=10) rfl ?_);refine Kd.R_lit (Kd.int .i64) _ 3 ?hg (N:=10) ?hd (xs:=([0,0,0,0,0] : List Int)) (inner := [.int .i64 0, .int .i64 0, .int .i64 0, .int .i64 0, .int .i64 0]) (ok:=fun _=>True) (okp:=fun _=>True) ?hr ?hp (fun _ hk=>hk) trivial (Below.refl _ _) (Nat.le_refl _) (by simp) ?_;(case hd=>rfl);(case hg=>rfl);(case hr=>first|(go_simp;done)|(go_simp;rfl));(case hp=>exact (Reps.one (show Kd.M (Kd.int .i64) _ _ _ 0 [.int .i64 0] from rfl) (Reps.one (show Kd.M (Kd.int .i64) _ _ _ 0 [.int .i64 0] from rfl) (Reps.one (show Kd.M (Kd.int .i64) _ _ _ 0 [.int .i64 0] from rfl) (Reps.one (show Kd.M (Kd.int .i64) _ _ _ 0 [.int .i64 0] from rfl) (Reps.one (show Kd.M (Kd.int .i64) _ _ _ 0 [.int .i64 0] from rfl) (Reps.none _ _)))))));intro v716 w3 ho4 hb hg_ hnew_;clear hg_ hnew_;(first|rw [← Ny715.out] at ho4|(simp only [Int.reduceToNat] at ho4;rw [← Ny715.out] at ho4));have HO717:=zm (Kd.R_lower ho4 (zE yhb));replace HB:=ybs hb;clear hb ho4)))
 go_loopg [5] k (fun kq v5 w' => ∃ (x5_1 : List Int),Aside0 (psalteryref12_Channel.l0 kq l0 a1 x5_1=some r)∧Aside0 (kq≤k)∧Aside0 (Kd.R (Kd.int .i64) 3 w' w.heap.size (fun _=>True) v5 x5_1)∧Aside0 (Below w.heap.size w w'))
 case atStart=>exact ⟨(y715),H',⟨Nat.le_refl _⟩,⟨yr HO717⟩,⟨yhb⟩⟩
 case round =>
  clear H'
  obtain ⟨x5_1,HA,HK1,HO_5,HB⟩:=hrel
  cases gk with
  | zero=>exact absurd HA.out (by simp [psalteryref12_Channel.l0])
  | succ k1 =>
   have H:=HA.out;clear HA
   simp only [psalteryref12_Channel.l0] at H
   have H' := zm H
   clear H
   go_wp2
   repeat (go_quiet (fail);try go_wp2)
   go_loopg [6,7,8] k1 (fun kq v6 v7 v8 w' => ∃ (x6_2 : Int) (x7_2 : Int) (x8_2 : Int),v6=.int .i64 x6_2∧v7=.int .i64 x7_2∧v8=.int .i64 x8_2∧Aside0 (psalteryref12_Channel.l1 kq l0 a1 x5_1 x6_2 x7_2 x8_2=some r)∧Aside0 (kq≤k1)∧Aside0 (Kd.R (Kd.int .i64) 3 w' w.heap.size (fun _=>True) u5 x5_1)∧Aside0 (Below w.heap.size w w'))
   case atStart=>exact ⟨((-1)),(0),(0),yq,yq,yq,H',⟨Nat.le_refl _⟩,⟨yr HO_5⟩,⟨yhb⟩⟩
   case round =>
    clear H'
    obtain ⟨x6_2,x7_2,x8_2,rfl,rfl,rfl,HA,HK2,HO_5,HB⟩:=hrel
    cases gk with
    | zero=>exact absurd HA.out (by simp [psalteryref12_Channel.l1])
    | succ k2 =>
     have H:=HA.out;clear HA
     simp only [psalteryref12_Channel.l1] at H
     by_cases c5 : x8_2 < 5
     ·
      rw [if_pos c5] at H
      have c5b0 : decide (x8_2 < 5)=true:=decide_eq_true c5
      clear c5
      by_cases c6 : 0≤x8_2
      ·
       rw [if_pos c6] at H
       have c6b0 : decide (0≤x8_2)=true:=decide_eq_true c6
       clear c6
       by_cases c7 : x8_2 < (l0.length : Int)
       ·
        rw [if_pos c7] at H
        have c7b0 : decide (x8_2 < (l0.length : Int))=true:=decide_eq_true c7
        clear c7
        by_cases c8 : x8_2 < (x5_1.length : Int)
        ·
         rw [if_pos c8] at H
         have c8b0 : decide (x8_2 < (x5_1.length : Int))=true:=decide_eq_true c8
         clear c8
         obtain ⟨t723,A9,H⟩:=ybi H
         by_cases c10 : t723=0
         ·
          rw [if_pos c10] at H
          exact absurd H (by simp)
         ·
          rw [if_neg c10] at H
          have c10b0 : (t723 == 0)=false:=beq_eq_false_iff_ne.mpr c10
          have c10b1 : (t723 != 0)=true:=bne_iff_ne.mpr c10
          obtain ⟨t724,A11,H⟩:=ybi H
          by_cases c12 : t724=true
          ·
           subst c12
           rw [if_pos rfl] at H
           by_cases c13 : x6_2 < 0
           ·
            rw [if_pos c13] at H
            have c13b0 : decide (x6_2 < 0)=true:=decide_eq_true c13
            clear c13
            have H' := zm H
            clear H
            have p721 : 0≤(x8_2 : Int):=yt
            have q721 : x8_2 < (l0.length : Int):=yt
            obtain ⟨ad721,e721,hx721_0⟩:=Kd.at_int HR0.out x8_2 p721 q721
            cases e721
            replace hx721_0:=(HB.out.cell (zb w _ hx721_0)).trans hx721_0
            replace p721:=eq_true p721
            replace q721:=eq_true q721
            obtain ⟨Ao14,co14,eo14⟩:=Kd.R_slice HO_5.out
            subst eo14
            have p722 : 0≤(x8_2 : Int):=yt
            have q722 : x8_2 < (x5_1.length : Int):=yt
            obtain ⟨ad722,e722,hx722_0⟩:=Kd.at_int (Kd.R_reads' HO_5.out).2.2 x8_2 p722 q722
            cases e722
            replace p722:=eq_true p722
            replace q722:=eq_true q722
            go_wp2_with (first|(go_at_call 46;(with_reducible refine (psalteryref10_Width.calls k2 x8_2 t723 _ A9.out).mono ?_);rintro e w' ⟨rfl,⟨nd,rfl⟩⟩;(try exact yww))|(go_at_call 95;(with_reducible refine (psalteryref12_May.calls k2 _ _ l0 _ _ x5_1 x8_2 a1 true _ ?side1 HC0.out ?side3 ?side4 A11.out).mono ?_);(case side1=>exact ycb HR0);(case side3=>exact yce (Kd.R_reads' HO_5.out).2.2);(case side4=>exact (Kd.R_reads' HO_5.out).2.1);rintro e w15 ⟨rfl,hb⟩;replace HO_5:=yRb HO_5 hb;replace HB:=ybs hb;(try clear hb);(try clear hb2);(try clear hk);(try clear hi)))
            repeat (go_quiet (first|(go_at_call 46;(with_reducible refine (psalteryref10_Width.calls k2 x8_2 t723 _ A9.out).mono ?_);rintro e w' ⟨rfl,⟨nd,rfl⟩⟩;(try exact yww))|(go_at_call 95;(with_reducible refine (psalteryref12_May.calls k2 _ _ l0 _ _ x5_1 x8_2 a1 true _ ?side1 HC0.out ?side3 ?side4 A11.out).mono ?_);(case side1=>exact ycb HR0);(case side3=>exact yce (Kd.R_reads' HO_5.out).2.2);(case side4=>exact (Kd.R_reads' HO_5.out).2.1);rintro e w15 ⟨rfl,hb⟩;replace HO_5:=yRb HO_5 hb;replace HB:=ybs hb;(try clear hb);(try clear hb2);(try clear hk);(try clear hi)));try go_wp2_with (first|(go_at_call 46;(with_reducible refine (psalteryref10_Width.calls k2 x8_2 t723 _ A9.out).mono ?_);rintro e w' ⟨rfl,⟨nd,rfl⟩⟩;(try exact yww))|(go_at_call 95;(with_reducible refine (psalteryref12_May.calls k2 _ _ l0 _ _ x5_1 x8_2 a1 true _ ?side1 HC0.out ?side3 ?side4 A11.out).mono ?_);(case side1=>exact ycb HR0);(case side3=>exact yce (Kd.R_reads' HO_5.out).2.2);(case side4=>exact (Kd.R_reads' HO_5.out).2.1);rintro e w15 ⟨rfl,hb⟩;replace HO_5:=yRb HO_5 hb;replace HB:=ybs hb;(try clear hb);(try clear hb2);(try clear hk);(try clear hi))))
            go_roundg k2
            case measure=>have:=HK1.out;have:=HK2.out;omega
            case rel=>exact ⟨(x8_2),(wrap64 ((wrap64 (8 * (rd l0 x8_2))) - (wrap64 (Int.tdiv (wrap64 (16 * (rd x5_1 x8_2))) t723)))),(wrap64 (x8_2+1)),yq,yq,yq,H',⟨by have:=HK1.out;have:=HK2.out;omega⟩,⟨yr HO_5⟩,⟨yhb⟩⟩
           ·
            rw [if_neg c13] at H
            have c13b0 : decide (x6_2 < 0)=false:=decide_eq_false c13
            clear c13
            by_cases c16 : (wrap64 ((wrap64 (8 * (rd l0 x8_2))) - (wrap64 (Int.tdiv (wrap64 (16 * (rd x5_1 x8_2))) t723)))) > x7_2
            ·
             rw [if_pos c16] at H
             have c16b0 : decide (x7_2 < (wrap64 ((wrap64 (8 * (rd l0 x8_2))) - (wrap64 (Int.tdiv (wrap64 (16 * (rd x5_1 x8_2))) t723)))))=true:=decide_eq_true c16
             clear c16
             have H' := zm H
             clear H
             have p721 : 0≤(x8_2 : Int):=yt
             have q721 : x8_2 < (l0.length : Int):=yt
             obtain ⟨ad721,e721,hx721_0⟩:=Kd.at_int HR0.out x8_2 p721 q721
             cases e721
             replace hx721_0:=(HB.out.cell (zb w _ hx721_0)).trans hx721_0
             replace p721:=eq_true p721
             replace q721:=eq_true q721
             obtain ⟨Ao17,co17,eo17⟩:=Kd.R_slice HO_5.out
             subst eo17
             have p722 : 0≤(x8_2 : Int):=yt
             have q722 : x8_2 < (x5_1.length : Int):=yt
             obtain ⟨ad722,e722,hx722_0⟩:=Kd.at_int (Kd.R_reads' HO_5.out).2.2 x8_2 p722 q722
             cases e722
             replace p722:=eq_true p722
             replace q722:=eq_true q722
             go_wp2_with (first|(go_at_call 46;(with_reducible refine (psalteryref10_Width.calls k2 x8_2 t723 _ A9.out).mono ?_);rintro e w' ⟨rfl,⟨nd,rfl⟩⟩;(try exact yww))|(go_at_call 95;(with_reducible refine (psalteryref12_May.calls k2 _ _ l0 _ _ x5_1 x8_2 a1 true _ ?side1 HC0.out ?side3 ?side4 A11.out).mono ?_);(case side1=>exact ycb HR0);(case side3=>exact yce (Kd.R_reads' HO_5.out).2.2);(case side4=>exact (Kd.R_reads' HO_5.out).2.1);rintro e w18 ⟨rfl,hb⟩;replace HO_5:=yRb HO_5 hb;replace HB:=ybs hb;(try clear hb);(try clear hb2);(try clear hk);(try clear hi)))
             repeat (go_quiet (first|(go_at_call 46;(with_reducible refine (psalteryref10_Width.calls k2 x8_2 t723 _ A9.out).mono ?_);rintro e w' ⟨rfl,⟨nd,rfl⟩⟩;(try exact yww))|(go_at_call 95;(with_reducible refine (psalteryref12_May.calls k2 _ _ l0 _ _ x5_1 x8_2 a1 true _ ?side1 HC0.out ?side3 ?side4 A11.out).mono ?_);(case side1=>exact ycb HR0);(case side3=>exact yce (Kd.R_reads' HO_5.out).2.2);(case side4=>exact (Kd.R_reads' HO_5.out).2.1);rintro e w18 ⟨rfl,hb⟩;replace HO_5:=yRb HO_5 hb;replace HB:=ybs hb;(try clear hb);(try clear hb2);(try clear hk);(try clear hi)));try go_wp2_with (first|(go_at_call 46;(with_reducible refine (psalteryref10_Width.calls k2 x8_2 t723 _ A9.out).mono ?_);rintro e w' ⟨rfl,⟨nd,rfl⟩⟩;(try exact yww))|(go_at_call 95;(with_reducible refine (psalteryref12_May.calls k2 _ _ l0 _ _ x5_1 x8_2 a1 true _ ?side1 HC0.out ?side3 ?side4 A11.out).mono ?_);(case side1=>exact ycb HR0);(case side3=>exact yce (Kd.R_reads' HO_5.out).2.2);(case side4=>exact (Kd.R_reads' HO_5.out).2.1);rintro e w18 ⟨rfl,hb⟩;replace HO_5:=yRb HO_5 hb;replace HB:=ybs hb;(try clear hb);(try clear hb2);(try clear hk);(try clear hi))))
             go_roundg k2
             case measure=>have:=HK1.out;have:=HK2.out;omega
             case rel=>exact ⟨(x8_2),(wrap64 ((wrap64 (8 * (rd l0 x8_2))) - (wrap64 (Int.tdiv (wrap64 (16 * (rd x5_1 x8_2))) t723)))),(wrap64 (x8_2+1)),yq,yq,yq,H',⟨by have:=HK1.out;have:=HK2.out;omega⟩,⟨yr HO_5⟩,⟨yhb⟩⟩
            ·
             rw [if_neg c16] at H
             have c16b0 : decide (x7_2 < (wrap64 ((wrap64 (8 * (rd l0 x8_2))) - (wrap64 (Int.tdiv (wrap64 (16 * (rd x5_1 x8_2))) t723)))))=false:=decide_eq_false c16
             clear c16
             have H' := zm H
             clear H
             have p721 : 0≤(x8_2 : Int):=yt
             have q721 : x8_2 < (l0.length : Int):=yt
             obtain ⟨ad721,e721,hx721_0⟩:=Kd.at_int HR0.out x8_2 p721 q721
             cases e721
             replace hx721_0:=(HB.out.cell (zb w _ hx721_0)).trans hx721_0
             replace p721:=eq_true p721
             replace q721:=eq_true q721
             obtain ⟨Ao19,co19,eo19⟩:=Kd.R_slice HO_5.out
             subst eo19
             have p722 : 0≤(x8_2 : Int):=yt
             have q722 : x8_2 < (x5_1.length : Int):=yt
             obtain ⟨ad722,e722,hx722_0⟩:=Kd.at_int (Kd.R_reads' HO_5.out).2.2 x8_2 p722 q722
             cases e722
             replace p722:=eq_true p722
             replace q722:=eq_true q722
             go_wp2_with (first|(go_at_call 46;(with_reducible refine (psalteryref10_Width.calls k2 x8_2 t723 _ A9.out).mono ?_);rintro e w' ⟨rfl,⟨nd,rfl⟩⟩;(try exact yww))|(go_at_call 95;(with_reducible refine (psalteryref12_May.calls k2 _ _ l0 _ _ x5_1 x8_2 a1 true _ ?side1 HC0.out ?side3 ?side4 A11.out).mono ?_);(case side1=>exact ycb HR0);(case side3=>exact yce (Kd.R_reads' HO_5.out).2.2);(case side4=>exact (Kd.R_reads' HO_5.out).2.1);rintro e w20 ⟨rfl,hb⟩;replace HO_5:=yRb HO_5 hb;replace HB:=ybs hb;(try clear hb);(try clear hb2);(try clear hk);(try clear hi)))
             repeat (go_quiet (first|(go_at_call 46;(with_reducible refine (psalteryref10_Width.calls k2 x8_2 t723 _ A9.out).mono ?_);rintro e w' ⟨rfl,⟨nd,rfl⟩⟩;(try exact yww))|(go_at_call 95;(with_reducible refine (psalteryref12_May.calls k2 _ _ l0 _ _ x5_1 x8_2 a1 true _ ?side1 HC0.out ?side3 ?side4 A11.out).mono ?_);(case side1=>exact ycb HR0);(case side3=>exact yce (Kd.R_reads' HO_5.out).2.2);(case side4=>exact (Kd.R_reads' HO_5.out).2.1);rintro e w20 ⟨rfl,hb⟩;replace HO_5:=yRb HO_5 hb;replace HB:=ybs hb;(try clear hb);(try clear hb2);(try clear hk);(try clear hi)));try go_wp2_with (first|(go_at_call 46;(with_reducible refine (psalteryref10_Width.calls k2 x8_2 t723 _ A9.out).mono ?_);rintro e w' ⟨rfl,⟨nd,rfl⟩⟩;(try exact yww))|(go_at_call 95;(with_reducible refine (psalteryref12_May.calls k2 _ _ l0 _ _ x5_1 x8_2 a1 true _ ?side1 HC0.out ?side3 ?side4 A11.out).mono ?_);(case side1=>exact ycb HR0);(case side3=>exact yce (Kd.R_reads' HO_5.out).2.2);(case side4=>exact (Kd.R_reads' HO_5.out).2.1);rintro e w20 ⟨rfl,hb⟩;replace HO_5:=yRb HO_5 hb;replace HB:=ybs hb;(try clear hb);(try clear hb2);(try clear hk);(try clear hi))))
             go_roundg k2
             case measure=>have:=HK1.out;have:=HK2.out;omega
             case rel=>exact ⟨(x6_2),(x7_2),(wrap64 (x8_2+1)),yq,yq,yq,H',⟨by have:=HK1.out;have:=HK2.out;omega⟩,⟨yr HO_5⟩,⟨yhb⟩⟩
          ·
           replace c12:=Bool.eq_false_iff.mpr c12
           subst c12
           rw [ynf] at H
           have H' := zm H
           clear H
           have p721 : 0≤(x8_2 : Int):=yt
           have q721 : x8_2 < (l0.length : Int):=yt
           obtain ⟨ad721,e721,hx721_0⟩:=Kd.at_int HR0.out x8_2 p721 q721
           cases e721
           replace hx721_0:=(HB.out.cell (zb w _ hx721_0)).trans hx721_0
           replace p721:=eq_true p721
           replace q721:=eq_true q721
           obtain ⟨Ao21,co21,eo21⟩:=Kd.R_slice HO_5.out
           subst eo21
           have p722 : 0≤(x8_2 : Int):=yt
           have q722 : x8_2 < (x5_1.length : Int):=yt
           obtain ⟨ad722,e722,hx722_0⟩:=Kd.at_int (Kd.R_reads' HO_5.out).2.2 x8_2 p722 q722
           cases e722
           replace p722:=eq_true p722
           replace q722:=eq_true q722
           go_wp2_with (first|(go_at_call 46;(with_reducible refine (psalteryref10_Width.calls k2 x8_2 t723 _ A9.out).mono ?_);rintro e w' ⟨rfl,⟨nd,rfl⟩⟩;(try exact yww))|(go_at_call 95;(with_reducible refine (psalteryref12_May.calls k2 _ _ l0 _ _ x5_1 x8_2 a1 false _ ?side1 HC0.out ?side3 ?side4 A11.out).mono ?_);(case side1=>exact ycb HR0);(case side3=>exact yce (Kd.R_reads' HO_5.out).2.2);(case side4=>exact (Kd.R_reads' HO_5.out).2.1);rintro e w22 ⟨rfl,hb⟩;replace HO_5:=yRb HO_5 hb;replace HB:=ybs hb;(try clear hb);(try clear hb2);(try clear hk);(try clear hi)))
           repeat (go_quiet (first|(go_at_call 46;(with_reducible refine (psalteryref10_Width.calls k2 x8_2 t723 _ A9.out).mono ?_);rintro e w' ⟨rfl,⟨nd,rfl⟩⟩;(try exact yww))|(go_at_call 95;(with_reducible refine (psalteryref12_May.calls k2 _ _ l0 _ _ x5_1 x8_2 a1 false _ ?side1 HC0.out ?side3 ?side4 A11.out).mono ?_);(case side1=>exact ycb HR0);(case side3=>exact yce (Kd.R_reads' HO_5.out).2.2);(case side4=>exact (Kd.R_reads' HO_5.out).2.1);rintro e w22 ⟨rfl,hb⟩;replace HO_5:=yRb HO_5 hb;replace HB:=ybs hb;(try clear hb);(try clear hb2);(try clear hk);(try clear hi)));try go_wp2_with (first|(go_at_call 46;(with_reducible refine (psalteryref10_Width.calls k2 x8_2 t723 _ A9.out).mono ?_);rintro e w' ⟨rfl,⟨nd,rfl⟩⟩;(try exact yww))|(go_at_call 95;(with_reducible refine (psalteryref12_May.calls k2 _ _ l0 _ _ x5_1 x8_2 a1 false _ ?side1 HC0.out ?side3 ?side4 A11.out).mono ?_);(case side1=>exact ycb HR0);(case side3=>exact yce (Kd.R_reads' HO_5.out).2.2);(case side4=>exact (Kd.R_reads' HO_5.out).2.1);rintro e w22 ⟨rfl,hb⟩;replace HO_5:=yRb HO_5 hb;replace HB:=ybs hb;(try clear hb);(try clear hb2);(try clear hk);(try clear hi))))
           go_roundg k2
           case measure=>have:=HK1.out;have:=HK2.out;omega
           case rel=>exact ⟨(x6_2),(x7_2),(wrap64 (x8_2+1)),yq,yq,yq,H',⟨by have:=HK1.out;have:=HK2.out;omega⟩,⟨yr HO_5⟩,⟨yhb⟩⟩
        ·
         rw [if_neg c8] at H
         exact absurd H (by simp)
       ·
        rw [if_neg c7] at H
        exact absurd H (by simp)
      ·
       rw [if_neg c6] at H
       exact absurd H (by simp)
     ·
      rw [if_neg c5] at H
      have c5b0 : decide (x8_2 < 5)=false:=decide_eq_false c5
      clear c5
      by_cases c23 : x6_2 < 0
      ·
       rw [if_pos c23] at H
       have c23b0 : decide (x6_2 < 0)=true:=decide_eq_true c23
       clear c23
       obtain rfl:=Option.some.inj H
       go_wp2
       repeat (go_quiet (fail);try go_wp2)
       go_ret
       exact ⟨_,ye,yr HO_5,yhb⟩
      ·
       rw [if_neg c23] at H
       have c23b0 : decide (x6_2 < 0)=false:=decide_eq_false c23
       clear c23
       obtain ⟨t718,A24,H⟩:=ybi H
       have H' := zm H
       clear H
       obtain ⟨Ao25,co25,eo25⟩:=Kd.R_slice HO_5.out
       subst eo25
       go_wp2_with (first|(go_at_call 96;(with_reducible refine (psalteryref12_More.calls _ _ x5_1 x6_2 t718 _ ?side1 ?side2 A24.out).mono ?_);(case side1=>exact yce (Kd.R_reads' HO_5.out).2.2);(case side2=>exact (Kd.R_reads' HO_5.out).2.1);rintro e w26 ⟨v719,rfl,ho0,hb⟩;have HO720:=zm (Kd.R_lower (Kd.R_new' ho0 (Kd.R_lt (yr HO_5))) (zE yhb));replace HO_5:=zm (Kd.R_elder' (yr HO_5) (Kd.R_base ho0) hb);replace HB:=ybs hb;(try clear hb);(try clear hb2);(try clear hk);(try clear hi);(try clear ho0)))
       repeat (go_quiet (first|(go_at_call 96;(with_reducible refine (psalteryref12_More.calls _ _ x5_1 x6_2 t718 _ ?side1 ?side2 A24.out).mono ?_);(case side1=>exact yce (Kd.R_reads' HO_5.out).2.2);(case side2=>exact (Kd.R_reads' HO_5.out).2.1);rintro e w26 ⟨v719,rfl,ho0,hb⟩;have HO720:=zm (Kd.R_lower (Kd.R_new' ho0 (Kd.R_lt (yr HO_5))) (zE yhb));replace HO_5:=zm (Kd.R_elder' (yr HO_5) (Kd.R_base ho0) hb);replace HB:=ybs hb;(try clear hb);(try clear hb2);(try clear hk);(try clear hi);(try clear ho0)));try go_wp2_with (first|(go_at_call 96;(with_reducible refine (psalteryref12_More.calls _ _ x5_1 x6_2 t718 _ ?side1 ?side2 A24.out).mono ?_);(case side1=>exact yce (Kd.R_reads' HO_5.out).2.2);(case side2=>exact (Kd.R_reads' HO_5.out).2.1);rintro e w26 ⟨v719,rfl,ho0,hb⟩;have HO720:=zm (Kd.R_lower (Kd.R_new' ho0 (Kd.R_lt (yr HO_5))) (zE yhb));replace HO_5:=zm (Kd.R_elder' (yr HO_5) (Kd.R_base ho0) hb);replace HB:=ybs hb;(try clear hb);(try clear hb2);(try clear hk);(try clear hi);(try clear ho0))))
       go_roundg k2
       case measure=>have:=HK1.out;have:=HK2.out;omega
       case rel=>exact ⟨(t718),H',⟨by have:=HK1.out;have:=HK2.out;omega⟩,⟨by (with_reducible repeat (first|apply zo|apply zp|apply zq));exact zG HO720.out (fun _ hk=>trivial)⟩,⟨yhb⟩⟩

end Go.Proofs.Ytnmbndkojpjkmaa.Prt

namespace Go.Proofs.Ytnmbndkojpjkmaa.Prt
open Go.RowKit Go.Proofs.YtnmbndkojpjkmaaW.PrintWords Go.Proofs.YtnmbndkojpjkmaaW.PrintLast Go.Proofs.YtnmbndkojpjkmaaW.PrintMore
attribute [local go_sem] max2_int min2_int max_two min_two max_three min_three max_four min_four   -- for this text's walks alone
set_option linter.unusedVariables false
set_option linter.unusedSimpArgs false

/-! ### psalteryref12_Right: function 23 -/
def psalteryref12_Right.f (a0 : Int) (a1 : Int) : Option (Bool):=if a0≤60 then (if a1=1 then (if a0 ≥ 11 then (some true) else (if a1=2 then (some (decide (a0 ≥ 17))) else (some false))) else (if a1=2 then (some (decide (a0 ≥ 17))) else (some false))) else (some false)
set_option maxHeartbeats 8000000 in
set_option maxRecDepth 100000 in
theorem psalteryref12_Right.calls (a0 : Int) (a1 : Int) (r : Bool) (w : World) (h : psalteryref12_Right.f a0 a1=some r) :
  Calls Try.prog 23 #[.int .i64 a0, .int .i64 a1] w fun e w' => e=.returned (.bool r)∧Drawn0 w w' := by
 have H : (if a0≤60 then (if a1=1 then (if a0 ≥ 11 then (some true) else (if a1=2 then (some (decide (a0 ≥ 17))) else (some false))) else (if a1=2 then (some (decide (a0 ≥ 17))) else (some false))) else (some false))=some r:=h
 clear h
 by_cases c3 : a0≤60
 ·
  rw [if_pos c3] at H
  have c3b0 : decide (a0≤60)=true:=decide_eq_true c3
  clear c3
  by_cases c4 : a1=1
  ·
   rw [if_pos c4] at H
   have c4b0 : (a1 == 1)=true:=beq_iff_eq.mpr c4
   have c4b1 : (a1 != 1)=false:=bne_eq_false_iff_eq.mpr c4
   clear c4
   by_cases c5 : a0 ≥ 11
   ·
    rw [if_pos c5] at H
    have c5b0 : decide (11≤a0)=true:=decide_eq_true c5
    clear c5
    obtain rfl:=Option.some.inj H
    go_enter Try.func23,Try.ntmps23
    go_wp2
    go_ret
    exact ⟨yq,yd⟩
   ·
    rw [if_neg c5] at H
    have c5b0 : decide (11≤a0)=false:=decide_eq_false c5
    clear c5
    by_cases c6 : a1=2
    ·
     rw [if_pos c6] at H
     have c6b0 : (a1 == 2)=true:=beq_iff_eq.mpr c6
     have c6b1 : (a1 != 2)=false:=bne_eq_false_iff_eq.mpr c6
     clear c6
     obtain rfl:=Option.some.inj H
     go_enter Try.func23,Try.ntmps23
     go_wp2
     go_ret
     exact ⟨yq,yd⟩
    ·
     rw [if_neg c6] at H
     have c6b0 : (a1 == 2)=false:=beq_eq_false_iff_ne.mpr c6
     have c6b1 : (a1 != 2)=true:=bne_iff_ne.mpr c6
     obtain rfl:=Option.some.inj H
     go_enter Try.func23,Try.ntmps23
     go_wp2
     go_ret
     exact ⟨yq,yd⟩
  ·
   rw [if_neg c4] at H
   have c4b0 : (a1 == 1)=false:=beq_eq_false_iff_ne.mpr c4
   have c4b1 : (a1 != 1)=true:=bne_iff_ne.mpr c4
   by_cases c7 : a1=2
   ·
    rw [if_pos c7] at H
    have c7b0 : (a1 == 2)=true:=beq_iff_eq.mpr c7
    have c7b1 : (a1 != 2)=false:=bne_eq_false_iff_eq.mpr c7
    clear c7
    obtain rfl:=Option.some.inj H
    go_enter Try.func23,Try.ntmps23
    go_wp2
    go_ret
    exact ⟨yq,yd⟩
   ·
    rw [if_neg c7] at H
    have c7b0 : (a1 == 2)=false:=beq_eq_false_iff_ne.mpr c7
    have c7b1 : (a1 != 2)=true:=bne_iff_ne.mpr c7
    obtain rfl:=Option.some.inj H
    go_enter Try.func23,Try.ntmps23
    go_wp2
    go_ret
    exact ⟨yq,yd⟩
 ·
  rw [if_neg c3] at H
  have c3b0 : decide (a0≤60)=false:=decide_eq_false c3
  clear c3
  obtain rfl:=Option.some.inj H
  go_enter Try.func23,Try.ntmps23
  go_wp2
  go_ret
  exact ⟨yq,yd⟩

end Go.Proofs.Ytnmbndkojpjkmaa.Prt

namespace Go.Proofs.Ytnmbndkojpjkmaa.Prt
open Go.RowKit Go.Proofs.YtnmbndkojpjkmaaW.PrintWords Go.Proofs.YtnmbndkojpjkmaaW.PrintLast Go.Proofs.YtnmbndkojpjkmaaW.PrintMore
attribute [local go_sem] max2_int min2_int max_two min_two max_three min_three max_four min_four   -- for this text's walks alone
set_option linter.unusedVariables false
set_option linter.unusedSimpArgs false

/-! ### psalteryref12_Room: function 84 -/
def psalteryref12_Room.f (a0 : Int) (a1 : Int) : Option (Int):=(psalteryref12_Right.f a0 a1).bind fun t725=>(if t725=true then (if a1=1 then (some (wrap64 ((wrap64 (8 * a0)) - 86))) else (some (wrap64 (Int.tdiv (wrap64 ((wrap64 (8 * a0)) - 131)) 2)))) else (some 0))
set_option maxHeartbeats 8000000 in
set_option maxRecDepth 100000 in
theorem psalteryref12_Room.calls (a0 : Int) (a1 : Int) (r : Int) (w : World) (h : psalteryref12_Room.f a0 a1=some r) :
  Calls Try.prog 84 #[.int .i64 a0, .int .i64 a1] w fun e w' => e=.returned (.int .i64 r)∧Drawn0 w w' := by
 have H : ((psalteryref12_Right.f a0 a1).bind fun t725=>(if t725=true then (if a1=1 then (some (wrap64 ((wrap64 (8 * a0)) - 86))) else (some (wrap64 (Int.tdiv (wrap64 ((wrap64 (8 * a0)) - 131)) 2)))) else (some 0)))=some r:=h
 clear h
 obtain ⟨t725,A3,H⟩:=ybi H
 by_cases c4 : t725=true
 ·
  subst c4
  rw [if_pos rfl] at H
  by_cases c5 : a1=1
  ·
   rw [if_pos c5] at H
   have c5b0 : (a1 == 1)=true:=beq_iff_eq.mpr c5
   have c5b1 : (a1 != 1)=false:=bne_eq_false_iff_eq.mpr c5
   clear c5
   obtain rfl:=Option.some.inj H
   go_enter Try.func84,Try.ntmps84
   go_wp2_with (first|((with_reducible refine gate_callee (f:=23) rfl ?_);refine ygl 7 Try.func23 #[.int .i64 a0, .int .i64 a1] ?_;(with_reducible refine (psalteryref12_Right.calls a0 a1 true _ A3.out).mono ?_);rintro e w' ⟨rfl,⟨nd,rfl⟩⟩;refine ⟨_,rfl, ?_⟩))
   go_ret
   exact ⟨yq,yd⟩
  ·
   rw [if_neg c5] at H
   have c5b0 : (a1 == 1)=false:=beq_eq_false_iff_ne.mpr c5
   have c5b1 : (a1 != 1)=true:=bne_iff_ne.mpr c5
   obtain rfl:=Option.some.inj H
   go_enter Try.func84,Try.ntmps84
   go_wp2_with (first|((with_reducible refine gate_callee (f:=23) rfl ?_);refine ygl 7 Try.func23 #[.int .i64 a0, .int .i64 a1] ?_;(with_reducible refine (psalteryref12_Right.calls a0 a1 true _ A3.out).mono ?_);rintro e w' ⟨rfl,⟨nd,rfl⟩⟩;refine ⟨_,rfl, ?_⟩))
   go_ret
   exact ⟨yq,yd⟩
 ·
  replace c4:=Bool.eq_false_iff.mpr c4
  subst c4
  rw [ynf] at H
  obtain rfl:=Option.some.inj H
  go_enter Try.func84,Try.ntmps84
  go_wp2_with (first|((with_reducible refine gate_callee (f:=23) rfl ?_);refine ygl 7 Try.func23 #[.int .i64 a0, .int .i64 a1] ?_;(with_reducible refine (psalteryref12_Right.calls a0 a1 false _ A3.out).mono ?_);rintro e w' ⟨rfl,⟨nd,rfl⟩⟩;refine ⟨_,rfl, ?_⟩))
  go_ret
  exact ⟨yq,yd⟩

end Go.Proofs.Ytnmbndkojpjkmaa.Prt

namespace Go.Proofs.Ytnmbndkojpjkmaa.Prt
open Go.RowKit Go.Proofs.YtnmbndkojpjkmaaW.PrintWords Go.Proofs.YtnmbndkojpjkmaaW.PrintLast Go.Proofs.YtnmbndkojpjkmaaW.PrintMore
attribute [local go_sem] max2_int min2_int max_two min_two max_three min_three max_four min_four   -- for this text's walks alone
set_option linter.unusedVariables false
set_option linter.unusedSimpArgs false

/-! ### psalteryref12_Pulses: function 45 -/
def psalteryref12_Pulses.l0 : Nat→Int→Int→List (List Int)→List (List Int)→Int→Option ((List (List Int)))
 | 0,_,_,_,_,_=>none
 | k+1,x0,x1,x2,x7,x8=>if x8 < (x2.length : Int) then (if 0≤x8 then ((psalteryref12_Room.f x0 x1).bind fun t727=>((psalteryref12_Channel.f k (rd_L1 x2 x8) t727).bind fun t728=>(if x7.length < 5864062014805 then (psalteryref12_Pulses.l0 k x0 x1 x2 (x7 ++ [t728]) (wrap64 (x8+1))) else (none)))) else (none)) else (some x7)
def psalteryref12_Pulses.f (k : Nat) (a0 : Int) (a1 : Int) (l2 : List (List Int)) : Option ((List (List Int))):=psalteryref12_Pulses.l0 k a0 a1 l2 ([] : List (List Int)) 0
theorem psalteryref12_Pulses.mono_l : ∀ k,(∀ y0 y1 y2 y3 y4,LeO (psalteryref12_Pulses.l0 k y0 y1 y2 y3 y4) (psalteryref12_Pulses.l0 (k+1) y0 y1 y2 y3 y4))
 | 0=>fun _ _ _ _ _ r h=>by simp [psalteryref12_Pulses.l0] at h
 | k+1=>by
  have ih0:=psalteryref12_Pulses.mono_l k
  ·
   intro y0 y1 y2 y3 y4
   unfold psalteryref12_Pulses.l0
   repeat' first
   | (with_reducible exact ih0 _ _ _ _ _)
   | (with_reducible exact psalteryref12_Channel.mono _ _ _)
   | (with_reducible exact LeO.refl _)
   | (with_reducible exact LeO.none _)
   | (with_reducible refine LeO.ite ?_ ?_)
   | (with_reducible refine LeO.bind ?_ (fun _ => ?_))
   | exact ih0 _ _ _ _ _
   | exact psalteryref12_Channel.mono _ _ _
   | exact LeO.none _
   | refine LeO.ite ?_ ?_
   | refine LeO.bind ?_ (fun _ => ?_)
theorem psalteryref12_Pulses.mono : ∀ a0 a1 a2 k,LeO (psalteryref12_Pulses.f k a0 a1 a2) (psalteryref12_Pulses.f (k+1) a0 a1 a2):=by
 intro a0 a1 a2 k
 have ih0:=psalteryref12_Pulses.mono_l k
 unfold psalteryref12_Pulses.f
 repeat' first
   | (with_reducible exact ih0 _ _ _ _ _)
   | (with_reducible exact psalteryref12_Channel.mono _ _ _)
   | (with_reducible exact LeO.refl _)
   | (with_reducible exact LeO.none _)
   | (with_reducible refine LeO.ite ?_ ?_)
   | (with_reducible refine LeO.bind ?_ (fun _ => ?_))
   | exact ih0 _ _ _ _ _
   | exact psalteryref12_Channel.mono _ _ _
   | exact LeO.none _
   | refine LeO.ite ?_ ?_
   | refine LeO.bind ?_ (fun _ => ?_)
def psalteryref12_Pulses.T5 : Bool × List (List Nat × List Nat):=(true, [([], []),([], []),([], []),([1,2], [1,2]),([3], [3]),([], []),([], []),([5,6], [5,6]),([4,7,7], [4,7]),([8], [8]),([0,9,8], [0,9]),([10,10,0,1,2,3,4,5,6,7,8,9,10], [0,10])])
def psalteryref12_Pulses.B5 : List Nat := [0,0,0,6,14,0,0,96,254,510,1023,2047]
theorem psalteryref12_Pulses.tab5 : rtab .any (opsOf Try.f45 5)=psalteryref12_Pulses.T5:=by kernel_rfl
theorem psalteryref12_Pulses.bits5 : waitsOk psalteryref12_Pulses.T5.2 psalteryref12_Pulses.B5=true:=by kernel_rfl
set_option maxHeartbeats 8000000 in
set_option maxRecDepth 100000 in
theorem psalteryref12_Pulses.calls (k : Nat) (a0 : Int) (a1 : Int) (A2 : Option Addr) (c2 : Nat) (l2 : List (List Int)) (r : List (List Int)) (w : World) (hr2 : Kd.C (Kd.slice 3 (Kd.int .i64)) w A2 l2.length l2) (hc2 : l2.length≤c2) (h : psalteryref12_Pulses.f k a0 a1 l2=some r) :
  Calls Try.prog 45 #[.int .i64 a0, .int .i64 a1, .slice A2 l2.length c2] w fun e w' => ∃ v0_ : Value,e=.returned (v0_)∧Kd.S (Kd.slice 3 (Kd.int .i64)) 49 w' w.heap.size (fun _=>True) v0_ r∧Below w.heap.size w w' := by
 have HR2:=zm hr2;have HC2:=zm hc2;clear hr2 hc2;have HB:=zm (Below.refl w.heap.size w)
 have H : (psalteryref12_Pulses.l0 k a0 a1 l2 ([] : List (List Int)) 0)=some r:=h
 clear h
 have H' := zm H
 clear H
 go_enter Try.func45,Try.ntmps45
 go_wp2
 go_loopg [7,8] k (fun kq v7 v8 w' => ∃ (x7_1 : List (List Int)) (x8_1 : Int),v8=.int .i64 x8_1∧Aside0 (psalteryref12_Pulses.l0 kq a0 a1 l2 x7_1 x8_1=some r)∧Aside0 (kq≤k)∧Aside0 (Kd.S (Kd.slice 3 (Kd.int .i64)) 49 w' w.heap.size (fun _=>True) v7 x7_1)∧Aside0 (Below w.heap.size w w'))
 case atStart=>exact ⟨(([] : List (List Int))),(0),yq,H',⟨Nat.le_refl _⟩,⟨yn⟩,⟨yhb⟩⟩
 case round =>
  clear H'
  try clear c2
  obtain ⟨x7_1,x8_1,rfl,HA,HK1,HO_7,HB⟩:=hrel
  cases gk with
  | zero=>exact absurd HA.out (by simp [psalteryref12_Pulses.l0])
  | succ k1 =>
   have H:=HA.out;clear HA
   simp only [psalteryref12_Pulses.l0] at H
   by_cases c4 : x8_1 < (l2.length : Int)
   ·
    rw [if_pos c4] at H
    have c4b0 : decide (x8_1 < (l2.length : Int))=true:=decide_eq_true c4
    clear c4
    by_cases c5 : 0≤x8_1
    ·
     rw [if_pos c5] at H
     have c5b0 : decide (0≤x8_1)=true:=decide_eq_true c5
     clear c5
     obtain ⟨t727,A6,H⟩:=ybi H
     obtain ⟨t728,A7,H⟩:=ybi H
     by_cases c8 : x7_1.length < 5864062014805
     ·
      rw [if_pos c8] at H
      have LMc8:=zm c8;clear c8
      obtain ⟨y731,hy731⟩ : ∃ y_ : List (List Int),y_=(x7_1 ++ [t728]):=⟨_,rfl⟩
      replace H : (psalteryref12_Pulses.l0 k1 a0 a1 l2 y731 (wrap64 (x8_1+1)))=some r:=yrw hy731 H
      have Ny731:=zm hy731;clear hy731
      have H' := zm H
      clear H
      try go_wp2
      replace HO_7:=zm (Kd.S_drew HO_7.out)
      replace HB:=zm (zf HB.out)
      have p726 : 0≤(x8_1 : Int):=yt
      have q726 : x8_1 < (l2.length : Int):=yt
      obtain ⟨ad726,A726_0,c726_0,e726,hx726_0,hl726_0,hi726_0⟩:=at_L1 HR2.out x8_1 p726 q726
      have hw726_0:=hx726_0
      cases e726
      replace hx726_0:=(HB.out.cell (zb w _ hx726_0)).trans hx726_0
      have HR726_0:=zm hi726_0;have HC726_0:=zm hl726_0;clear hi726_0 hl726_0
      replace p726:=eq_true p726
      replace q726:=eq_true q726
      refine start_ (n:=12) (S:=fun w' => w'.cell? (ad726.add (x8_1).toNat)=some (.slice A726_0 (rd_L1 l2 x8_1).length c726_0)) (ds := []) #[false,false,false,false,false,false,false,false,false,false,false,false] (by kernel_rfl) rfl rfl (((HB.out.cell (zb w _ hw726_0)).trans hw726_0)) (fun hHeld => ?_);refine with_tabW psalteryref12_Pulses.tab5 psalteryref12_Pulses.bits5 (fun HT_ HW_ => ?_)
      generalize wr.drew=w9 at HO_7 HB HR726_0 hx726_0 hHeld ⊢
      refine yp 0 15 HT_ ?_
      refine yp 1 16 HT_ ?_
      refine yp 2 17 HT_ ?_
      refine yp 3 18 HT_ ?_
      refine yp 5 20 HT_ ?_
      refine yp 6 21 HT_ ?_
      refine yl 4 19 HT_ HW_ hHeld ?_
      refine yw 7 22 HT_ (fun K hK => ?_)
      refine ygs Try.func84 #[.int .i64 a0, .int .i64 a1] ?_
      with_reducible refine (psalteryref12_Room.calls a0 a1 t727 _ A6.out).mono ?_
      rintro e w' ⟨rfl,⟨nd,rfl⟩⟩
      refine ⟨_,rfl, ?_⟩
      refine hK.out _ _ (((HB.out.cell (zb w _ hw726_0)).trans hw726_0)) (fun hHeld => ?_)
      clear hK K
      refine ym (some 22) ?_
      refine yw 8 23 HT_ (fun K hK => ?_)
      refine ygs Try.func83 #[.slice A726_0 (rd_L1 l2 x8_1).length c726_0, .int .i64 t727] ?_
      with_reducible refine (psalteryref12_Channel.calls k1 _ _ (rd_L1 l2 x8_1) t727 t728 _ ?side1 ?side2 A7.out).mono ?_
      (case side1=>exact ycb HR726_0)
      (case side2=>exact HC726_0.out)
      rintro e w10 ⟨v729,rfl,ho0,hb⟩
      refine ⟨_,rfl, ?_⟩
      replace HO_7:=zm (Kd.S_elder' (yr HO_7) (Kd.R_base ho0) hb)
      have HO730:=zm (Kd.R_lower ho0 (zE yhb))
      replace HB:=ybs hb
      (try clear hb)
      (try clear hb2)
      (try clear hk)
      (try clear hi)
      (try clear ho0)
      obtain ⟨Ao12,co12,eo12⟩:=Kd.R_slice HO730.out
      (first|subst eo12|(injection eo12 with f1_ f2_ f3_;have f4_:=f1_.symm;have f5_:=f3_.symm;clear f1_ f2_ f3_;subst f4_;subst f5_))
      refine hK.out _ _ (((HB.out.cell (zb w _ hw726_0)).trans hw726_0)) (fun hHeld => ?_)
      clear hK K
      refine ym (some 23) ?_
      refine yw 9 24 HT_ (fun K hK => ?_)
      refine value_ (w1 := ?_) (v := ?_) (by rfl) rfl ?_ ?_
      rotate_left 2
      ·
       go_simp
       constructor
       ·
        rfl
       ·
        rfl
      refine hK.out _ _ ((World.cell?_alloc_lt _ _ _ (zb _ _ (((HB.out.cell (zb w _ hw726_0)).trans hw726_0)))).trans (((HB.out.cell (zb w _ hw726_0)).trans hw726_0))) (fun hHeld => ?_)
      clear hK K
      refine ym (some 24) ?_
      refine yw 10 25 HT_ (fun K hK => ?_)
      refine Kd.S_append_step (Kd.slice 3 (Kd.int .i64)) (w0:=w) w.heap.size (by rfl) (.tmp 15) (.tmp 24) 22 49 (.slice none 0 0) 24 rfl Try.underlying22 info49 rfl (by decide) (by omega) u7 x7_1 t728 [.slice Ao12 t728.length co12] (fun _=>True) (fun k_=>some k_=(.slice Ao12 t728.length co12 : Value).ownBlock) rfl rfl ?aP (fun k_ hk_=>((zG (ok' := fun k_=>((fun _=>True)) k_∧some k_≠(u7 : Value).ownBlock) (Kd.R_apart' (HO730.out) (Kd.S_typed HO_7.out) (by decide)) (fun k_ hk=>⟨trivial,hk.2⟩))).1 k_ hk_.symm) ?aF ?aO ?aB ?aS ?aL ?_
      (case aP=>exact Kd.M_row (zG (Kd.R_tight rfl (zG (ok' := fun k_=>((fun _=>True)) k_∧some k_≠(u7 : Value).ownBlock) (Kd.R_apart' (HO730.out) (Kd.S_typed HO_7.out) (by decide)) (fun k_ hk=>⟨trivial,hk.2⟩))) (fun _ h_=>h_)))
      (case aB=>exact yhb)
      (case aF=>exact (fun _ _=>trivial))
      (case aO=>exact (by (with_reducible repeat (first|apply Kd.S_alloc|apply Kd.S_drewN|apply Kd.S_drew));exact Kd.S_mono HO_7.out (fun k_ hk=>⟨trivial,fun e_=>hk.2 e_⟩)))
      (case aS=>exact (zE yhb))
      (case aL=>have:=LMc8.out;omega)
      intro v732 w11 ho hb hg hat
      rw [← Ny731.out] at ho
      replace HB:=zm (hb)
      have HO733:=zm (ho);clear HO_7;clear HO730;clear ho hb hg hat
      refine hK.out _ _ (((HB.out.cell (zb w _ hw726_0)).trans hw726_0)) (fun hHeld => ?_)
      clear hK K
      refine ym (some 25) ?_
      refine yp 11 7 HT_ ?_
      refine done_ (done_of HT_.out (by kernel_rfl)) ?_
      try go_wp2
      go_roundg k1
      case measure=>have:=HK1.out;omega
      case rel=>exact ⟨(y731),(wrap64 (x8_1+1)),yq,H',⟨by have:=HK1.out;omega⟩,⟨yr HO733⟩,⟨yhb⟩⟩
     ·
      rw [if_neg c8] at H
      exact absurd H (by simp)
    ·
     rw [if_neg c5] at H
     exact absurd H (by simp)
   ·
    rw [if_neg c4] at H
    have c4b0 : decide (x8_1 < (l2.length : Int))=false:=decide_eq_false c4
    clear c4
    obtain rfl:=Option.some.inj H
    go_wp2
    go_ret
    exact ⟨_,ye,yr HO_7,yhb⟩

end Go.Proofs.Ytnmbndkojpjkmaa.Prt

namespace Go.Proofs.Ytnmbndkojpjkmaa.Prt
open Go.RowKit Go.Proofs.YtnmbndkojpjkmaaW.PrintWords Go.Proofs.YtnmbndkojpjkmaaW.PrintLast Go.Proofs.YtnmbndkojpjkmaaW.PrintMore
attribute [local go_sem] max2_int min2_int max_two min_two max_three min_three max_four min_four   -- for this text's walks alone
set_option linter.unusedVariables false
set_option linter.unusedSimpArgs false

/-! ### psalteryref13_Right: function 16 -/
mutual
def psalteryref13_Right.j0 : Nat→Int→Int→Bool→Bool→List (List Int)→List (List (List Int))→Option (Bool)
 | 0,_,_,_,_,_,_=>none
 | k+1,x0,x1,x27,x735000,x735001,x735002=>if x27=true then (some false) else ((psalteryref12_Pulses.f k x0 x1 x735001).bind fun t737=>(psalteryref13_Right.l0 k x1 t737 0 x735000 x735001 x735002))
def psalteryref13_Right.l0 : Nat→Int→List (List Int)→Int→Bool→List (List Int)→List (List (List Int))→Option (Bool)
 | 0,_,_,_,_,_,_=>none
 | k+1,x1,x7,x8,x735000,x735001,x735002=>if x8 < x1 then (if 0≤x8 then (if x8 < (x735002.length : Int) then (if ((rd_L2 x735002 x8).length : Int)=5 then (psalteryref13_Right.l1 k x1 x7 x8 0 x735000 x735001 x735002) else (some false)) else (none)) else (none)) else (some true)
def psalteryref13_Right.l1 : Nat→Int→List (List Int)→Int→Int→Bool→List (List Int)→List (List (List Int))→Option (Bool)
 | 0,_,_,_,_,_,_,_=>none
 | k+1,x1,x7,x8,x9,x735000,x735001,x735002=>if x9 < 5 then (if 0≤x8 then (if x8 < (x735002.length : Int) then (if 0≤x9 then (if x9 < ((rd_L2 x735002 x8).length : Int) then ((psalteryref10_Width.f k x9).bind fun t743=>(if ((rd_L1 (rd_L2 x735002 x8) x9).length : Int)=t743 then ((psalteryref06_Pulses.f k (rd_L1 (rd_L2 x735002 x8) x9)).bind fun t746=>(if x8 < (x7.length : Int) then (if x9 < ((rd_L1 x7 x8).length : Int) then (if t746=(rd (rd_L1 x7 x8) x9) then (psalteryref13_Right.l1 k x1 x7 x8 (wrap64 (x9+1)) x735000 x735001 x735002) else (some false)) else (none)) else (none))) else (some false))) else (none)) else (none)) else (none)) else (none)) else (psalteryref13_Right.l0 k x1 x7 (wrap64 (x8+1)) x735000 x735001 x735002)
end
def psalteryref13_Right.f (k : Nat) (a0 : Int) (a1 : Int) (a2_0 : Bool) (l2_1 : List (List Int)) (l2_2 : List (List (List Int))) : Option (Bool):=(psalteryref12_Right.f a0 a1).bind fun t735=>(if t735=true then ((psalteryref12_Fair.f k a1 l2_1).bind fun t736=>(if t736=true then (psalteryref13_Right.j0 k a0 a1 ((l2_2.length : Int) != a1) a2_0 l2_1 l2_2) else (psalteryref13_Right.j0 k a0 a1 true a2_0 l2_1 l2_2))) else (psalteryref13_Right.j0 k a0 a1 true a2_0 l2_1 l2_2))
theorem psalteryref13_Right.mono_l : ∀ k,(∀ y0 y1 y2 y3 y4 y5,LeO (psalteryref13_Right.j0 k y0 y1 y2 y3 y4 y5) (psalteryref13_Right.j0 (k+1) y0 y1 y2 y3 y4 y5))∧(∀ y0 y1 y2 y3 y4 y5,LeO (psalteryref13_Right.l0 k y0 y1 y2 y3 y4 y5) (psalteryref13_Right.l0 (k+1) y0 y1 y2 y3 y4 y5))∧(∀ y0 y1 y2 y3 y4 y5 y6,LeO (psalteryref13_Right.l1 k y0 y1 y2 y3 y4 y5 y6) (psalteryref13_Right.l1 (k+1) y0 y1 y2 y3 y4 y5 y6))
 | 0=>⟨fun _ _ _ _ _ _ r h=>by simp [psalteryref13_Right.j0] at h,fun _ _ _ _ _ _ r h=>by simp [psalteryref13_Right.l0] at h,fun _ _ _ _ _ _ _ r h=>by simp [psalteryref13_Right.l1] at h⟩
 | k+1=>by
  obtain ⟨ih0,ih1,ih2⟩:=psalteryref13_Right.mono_l k
  refine ⟨?_, ?_, ?_⟩
  ·
   intro y0 y1 y2 y3 y4 y5
   unfold psalteryref13_Right.j0
   repeat' first
   | (with_reducible exact ih0 _ _ _ _ _ _)
   | (with_reducible exact ih1 _ _ _ _ _ _)
   | (with_reducible exact ih2 _ _ _ _ _ _ _)
   | (with_reducible exact psalteryref06_Pulses.mono _ _)
   | (with_reducible exact psalteryref10_Width.mono _ _)
   | (with_reducible exact psalteryref12_Fair.mono _ _ _)
   | (with_reducible exact psalteryref12_Pulses.mono _ _ _ _)
   | (with_reducible exact LeO.refl _)
   | (with_reducible exact LeO.none _)
   | (with_reducible refine LeO.ite ?_ ?_)
   | (with_reducible refine LeO.bind ?_ (fun _ => ?_))
   | exact ih0 _ _ _ _ _ _
   | exact ih1 _ _ _ _ _ _
   | exact ih2 _ _ _ _ _ _ _
   | exact psalteryref06_Pulses.mono _ _
   | exact psalteryref10_Width.mono _ _
   | exact psalteryref12_Fair.mono _ _ _
   | exact psalteryref12_Pulses.mono _ _ _ _
   | exact LeO.none _
   | refine LeO.ite ?_ ?_
   | refine LeO.bind ?_ (fun _ => ?_)
  ·
   intro y0 y1 y2 y3 y4 y5
   unfold psalteryref13_Right.l0
   repeat' first
   | (with_reducible exact ih0 _ _ _ _ _ _)
   | (with_reducible exact ih1 _ _ _ _ _ _)
   | (with_reducible exact ih2 _ _ _ _ _ _ _)
   | (with_reducible exact psalteryref06_Pulses.mono _ _)
   | (with_reducible exact psalteryref10_Width.mono _ _)
   | (with_reducible exact psalteryref12_Fair.mono _ _ _)
   | (with_reducible exact psalteryref12_Pulses.mono _ _ _ _)
   | (with_reducible exact LeO.refl _)
   | (with_reducible exact LeO.none _)
   | (with_reducible refine LeO.ite ?_ ?_)
   | (with_reducible refine LeO.bind ?_ (fun _ => ?_))
   | exact ih0 _ _ _ _ _ _
   | exact ih1 _ _ _ _ _ _
   | exact ih2 _ _ _ _ _ _ _
   | exact psalteryref06_Pulses.mono _ _
   | exact psalteryref10_Width.mono _ _
   | exact psalteryref12_Fair.mono _ _ _
   | exact psalteryref12_Pulses.mono _ _ _ _
   | exact LeO.none _
   | refine LeO.ite ?_ ?_
   | refine LeO.bind ?_ (fun _ => ?_)
  ·
   intro y0 y1 y2 y3 y4 y5 y6
   unfold psalteryref13_Right.l1
   repeat' first
   | (with_reducible exact ih0 _ _ _ _ _ _)
   | (with_reducible exact ih1 _ _ _ _ _ _)
   | (with_reducible exact ih2 _ _ _ _ _ _ _)
   | (with_reducible exact psalteryref06_Pulses.mono _ _)
   | (with_reducible exact psalteryref10_Width.mono _ _)
   | (with_reducible exact psalteryref12_Fair.mono _ _ _)
   | (with_reducible exact psalteryref12_Pulses.mono _ _ _ _)
   | (with_reducible exact LeO.refl _)
   | (with_reducible exact LeO.none _)
   | (with_reducible refine LeO.ite ?_ ?_)
   | (with_reducible refine LeO.bind ?_ (fun _ => ?_))
   | exact ih0 _ _ _ _ _ _
   | exact ih1 _ _ _ _ _ _
   | exact ih2 _ _ _ _ _ _ _
   | exact psalteryref06_Pulses.mono _ _
   | exact psalteryref10_Width.mono _ _
   | exact psalteryref12_Fair.mono _ _ _
   | exact psalteryref12_Pulses.mono _ _ _ _
   | exact LeO.none _
   | refine LeO.ite ?_ ?_
   | refine LeO.bind ?_ (fun _ => ?_)
theorem psalteryref13_Right.mono : ∀ a0 a1 a2 a3 a4 k,LeO (psalteryref13_Right.f k a0 a1 a2 a3 a4) (psalteryref13_Right.f (k+1) a0 a1 a2 a3 a4):=by
 intro a0 a1 a2 a3 a4 k
 obtain ⟨ih0,ih1,ih2⟩:=psalteryref13_Right.mono_l k
 unfold psalteryref13_Right.f
 repeat' first
   | (with_reducible exact ih0 _ _ _ _ _ _)
   | (with_reducible exact ih1 _ _ _ _ _ _)
   | (with_reducible exact ih2 _ _ _ _ _ _ _)
   | (with_reducible exact psalteryref06_Pulses.mono _ _)
   | (with_reducible exact psalteryref10_Width.mono _ _)
   | (with_reducible exact psalteryref12_Fair.mono _ _ _)
   | (with_reducible exact psalteryref12_Pulses.mono _ _ _ _)
   | (with_reducible exact LeO.refl _)
   | (with_reducible exact LeO.none _)
   | (with_reducible refine LeO.ite ?_ ?_)
   | (with_reducible refine LeO.bind ?_ (fun _ => ?_))
   | exact ih0 _ _ _ _ _ _
   | exact ih1 _ _ _ _ _ _
   | exact ih2 _ _ _ _ _ _ _
   | exact psalteryref06_Pulses.mono _ _
   | exact psalteryref10_Width.mono _ _
   | exact psalteryref12_Fair.mono _ _ _
   | exact psalteryref12_Pulses.mono _ _ _ _
   | exact LeO.none _
   | refine LeO.ite ?_ ?_
   | refine LeO.bind ?_ (fun _ => ?_)
def psalteryref13_Right.T12 : Bool × List (List Nat × List Nat):=(true, [([], []),([0], [0]),([], []),([1,2], [1,2]),([3], [3]),([], []),([4,5], [4,5]),([6], [6]),([7], [7]),([], []),([9], [9]),([8,10], [8,10]),([11,10], [11]),([12], [12]),([13,12], [12,13]),([12], [12]),([14,15,12], [12,14,15]),([16,12], [12,16]),([12], [12]),([17,18,12], [12,17,18]),([19,12], [12,19]),([20,12,12], [12,20]),([12], [12]),([12], [12]),([22,23,12], [12,22,23]),([24,12], [12,24]),([12], [12]),([25,26,12], [12,25,26]),([27,12], [12,27]),([21,28,12], [12,21,28]),([12,29], [12,29])])
def psalteryref13_Right.B12 : List Nat := [0,1,0,7,15,0,63,127,255,0,512,2047,4095,8191,16383,8191,65535,131071,8191,524287,1048575,2097151,8191,8191,12591103,29368319,8191,130031615,264249343,536870911,1073741823]
theorem psalteryref13_Right.tab12 : rtab .any (opsOf Try.f16 12)=psalteryref13_Right.T12:=by kernel_rfl
theorem psalteryref13_Right.bits12 : waitsOk psalteryref13_Right.T12.2 psalteryref13_Right.B12=true:=by kernel_rfl
set_option maxHeartbeats 8000000 in
set_option maxRecDepth 100000 in
theorem psalteryref13_Right.calls (k : Nat) (a0 : Int) (a1 : Int) (a2_0 : Bool) (A2_1 : Option Addr) (c2_1 : Nat) (l2_1 : List (List Int)) (A2_2 : Option Addr) (c2_2 : Nat) (l2_2 : List (List (List Int))) (r : Bool) (w : World) (hr2_1 : Kd.C (Kd.slice 3 (Kd.int .i64)) w A2_1 l2_1.length l2_1) (hc2_1 : l2_1.length≤c2_1) (hr2_2 : Kd.C (Kd.slice 49 (Kd.slice 3 (Kd.int .i64))) w A2_2 l2_2.length l2_2) (hc2_2 : l2_2.length≤c2_2) (h : psalteryref13_Right.f k a0 a1 a2_0 l2_1 l2_2=some r) :
  Calls Try.prog 16 #[.int .i64 a0, .int .i64 a1, .agg #[.bool a2_0, .slice A2_1 l2_1.length c2_1, .slice A2_2 l2_2.length c2_2]] w fun e w' => e=.returned (.bool r)∧Below w.heap.size w w' := by
 have hu33:=Try.underlying33;have HR2_1:=zm hr2_1;have HC2_1:=zm hc2_1;clear hr2_1 hc2_1;have HR2_2:=zm hr2_2;have HC2_2:=zm hc2_2;clear hr2_2 hc2_2;have HB:=zm (Below.refl w.heap.size w)
 have H : ((psalteryref12_Right.f a0 a1).bind fun t735=>(if t735=true then ((psalteryref12_Fair.f k a1 l2_1).bind fun t736=>(if t736=true then (psalteryref13_Right.j0 k a0 a1 ((l2_2.length : Int) != a1) a2_0 l2_1 l2_2) else (psalteryref13_Right.j0 k a0 a1 true a2_0 l2_1 l2_2))) else (psalteryref13_Right.j0 k a0 a1 true a2_0 l2_1 l2_2)))=some r:=h
 clear h;have HC4:=zm H;clear H
 go_enter Try.func16,Try.ntmps16
 go_upto_region 1 with (first|((with_reducible refine gate_dst (N:=5) rfl ?_);(try (refine gate_guard (by rfl) ?_;dsimp only));refine ybx 5 #[.bool a2_0, .slice A2_1 l2_1.length c2_1, .slice A2_2 l2_2.length c2_2] 33 ?_;intro gb734 hg w5 hbox hb;have BK734:=zm (hbox);have GW734:=ygw hg;have GE734:=ygw hg;replace HB:=ybs hb;clear hb hbox hg))
 (try simp only [Act.put,List.setIfInBounds_toArray,List.set_cons_zero,List.set_cons_succ])
 go_cut [27] (fun v27 wc => ∃ (kq : Nat) (x27_3 : Bool),v27=.bool x27_3∧Aside0 (psalteryref13_Right.j0 kq a0 a1 x27_3 a2_0 l2_1 l2_2=some r)∧Aside0 (kq≤k)∧Aside0 (wc.heap[gb734]? = some (.cells #[.bool a2_0,(.slice A2_1 l2_1.length c2_1),(.slice A2_2 l2_2.length c2_2)] 33 (0,0)))∧Aside0 (Below w.heap.size w wc))
 case first =>
  have H:=HC4.out;clear HC4
  obtain ⟨t735,A6,H⟩:=ybi H
  by_cases c7 : t735=true
  ·
   subst c7
   rw [if_pos rfl] at H
   obtain ⟨t736,A8,H⟩:=ybi H
   by_cases c9 : t736=true
   ·
    subst c9
    rw [if_pos rfl] at H
    have H' := zm H
    clear H
    go_wp2_with (first|((with_reducible refine gate_callee (f:=23) rfl ?_);refine ygl 12 Try.func23 #[.int .i64 a0, .int .i64 a1] ?_;(with_reducible refine (psalteryref12_Right.calls a0 a1 true _ A6.out).mono ?_);rintro e w' ⟨rfl,⟨nd,rfl⟩⟩;refine ⟨_,rfl, ?_⟩;obtain ⟨_,_,_,_,_,_⟩:=yc3 BK734)|(go_at_call 17;(with_reducible refine (psalteryref12_Fair.calls k a1 _ _ l2_1 true _ ?side1 HC2_1.out A8.out).mono ?_);(case side1=>exact ycb HR2_1);rintro e w' ⟨rfl,⟨nd,rfl⟩⟩))
    go_meet
    case rel=>exact ⟨_,(((l2_2.length : Int) != a1)),yq,H',⟨yo⟩,⟨yk BK734⟩,⟨yhb⟩⟩
   ·
    replace c9:=Bool.eq_false_iff.mpr c9
    subst c9
    rw [ynf] at H
    have H' := zm H
    clear H
    go_wp2_with (first|((with_reducible refine gate_callee (f:=23) rfl ?_);refine ygl 12 Try.func23 #[.int .i64 a0, .int .i64 a1] ?_;(with_reducible refine (psalteryref12_Right.calls a0 a1 true _ A6.out).mono ?_);rintro e w' ⟨rfl,⟨nd,rfl⟩⟩;refine ⟨_,rfl, ?_⟩;obtain ⟨_,_,_,_,_,_⟩:=yc3 BK734)|(go_at_call 17;(with_reducible refine (psalteryref12_Fair.calls k a1 _ _ l2_1 false _ ?side1 HC2_1.out A8.out).mono ?_);(case side1=>exact ycb HR2_1);rintro e w' ⟨rfl,⟨nd,rfl⟩⟩))
    go_meet
    case rel=>exact ⟨_,(true),yq,H',⟨yo⟩,⟨yk BK734⟩,⟨yhb⟩⟩
  ·
   replace c7:=Bool.eq_false_iff.mpr c7
   subst c7
   rw [ynf] at H
   have H' := zm H
   clear H
   go_wp2_with (first|((with_reducible refine gate_callee (f:=23) rfl ?_);refine ygl 12 Try.func23 #[.int .i64 a0, .int .i64 a1] ?_;(with_reducible refine (psalteryref12_Right.calls a0 a1 false _ A6.out).mono ?_);rintro e w' ⟨rfl,⟨nd,rfl⟩⟩;refine ⟨_,rfl, ?_⟩))
   go_meet
   case rel=>exact ⟨_,(true),yq,H',⟨yo⟩,⟨yk BK734⟩,⟨yhb⟩⟩
 case rest =>
  clear HC4
  obtain ⟨kq,x27_3,rfl,HA,HJ3,BK734,HB⟩:=hcut
  cases kq with
  | zero=>exact absurd HA.out (by simp [psalteryref13_Right.j0])
  | succ kj3 =>
   have H:=HA.out;clear HA
   simp only [psalteryref13_Right.j0] at H
   by_cases c12 : x27_3=true
   ·
    subst c12
    rw [if_pos rfl] at H
    obtain rfl:=Option.some.inj H
    go_wp2
    go_ret
    exact ⟨ye,yhb⟩
   ·
    replace c12:=Bool.eq_false_iff.mpr c12
    subst c12
    rw [ynf] at H
    obtain ⟨t737,A13,H⟩:=ybi H
    have H' := zm H
    clear H
    obtain ⟨hcz14_0,hcz14_1,hcz14_2,hfz14_0,hfz14_1,hfz14_2⟩:=yc3 BK734
    go_wp2_with (first|((with_reducible refine gate_callee (f:=45) rfl ?_);refine ygl 32 Try.func45 #[.int .i64 a0, .int .i64 a1, .slice A2_1 l2_1.length c2_1] ?_;(with_reducible refine (psalteryref12_Pulses.calls kj3 a0 a1 _ _ l2_1 t737 _ ?side1 HC2_1.out A13.out).mono ?_);(case side1=>exact ycb HR2_1);rintro e w15 ⟨v738,rfl,ho0,hb⟩;refine ⟨_,rfl, ?_⟩;have HO739:=zm (Kd.S_lower ho0 (zE yhb));replace BK734:=ybb BK734 hb;replace HB:=ybs hb;(try clear hb);(try clear hb2);(try clear hk);(try clear hi);(try clear ho0)))
    go_loopg [8] kj3 (fun kq v8 w' => ∃ (x8_2 : Int),v8=.int .i64 x8_2∧Aside0 (psalteryref13_Right.l0 kq a1 t737 x8_2 a2_0 l2_1 l2_2=some r)∧Aside0 (kq≤kj3)∧Aside0 (Kd.S (Kd.slice 3 (Kd.int .i64)) 49 w' w.heap.size (fun _=>True) v738 t737)∧Aside0 (w'.heap[gb734]? = some (.cells #[.bool a2_0,(.slice A2_1 l2_1.length c2_1),(.slice A2_2 l2_2.length c2_2)] 33 (0,0)))∧Aside0 (Below w.heap.size w w'))
    case atStart=>exact ⟨(0),yq,H',⟨Nat.le_refl _⟩,⟨yr HO739⟩,⟨yk BK734⟩,⟨yhb⟩⟩
    case round =>
     clear H'
     try clear c12
     try clear hcz14_0
     try clear hcz14_1
     try clear hcz14_2
     try clear hfz14_0
     try clear hfz14_1
     try clear hfz14_2
     obtain ⟨x8_2,rfl,HA,HK2,HO_7,BK734,HB⟩:=hrel
     cases gk with
     | zero=>exact absurd HA.out (by simp [psalteryref13_Right.l0])
     | succ k2 =>
      have H:=HA.out;clear HA
      simp only [psalteryref13_Right.l0] at H
      by_cases c16 : x8_2 < a1
      ·
       rw [if_pos c16] at H
       have c16b0 : decide (x8_2 < a1)=true:=decide_eq_true c16
       clear c16
       by_cases c17 : 0≤x8_2
       ·
        rw [if_pos c17] at H
        have c17b0 : decide (0≤x8_2)=true:=decide_eq_true c17
        clear c17
        by_cases c18 : x8_2 < (l2_2.length : Int)
        ·
         rw [if_pos c18] at H
         have c18b0 : decide (x8_2 < (l2_2.length : Int))=true:=decide_eq_true c18
         clear c18
         by_cases c19 : ((rd_L2 l2_2 x8_2).length : Int)=5
         ·
          rw [if_pos c19] at H
          have c19b0 : (((rd_L2 l2_2 x8_2).length : Int) == 5)=true:=beq_iff_eq.mpr c19
          have c19b1 : (((rd_L2 l2_2 x8_2).length : Int) != 5)=false:=bne_eq_false_iff_eq.mpr c19
          clear c19
          have H' := zm H
          clear H
          obtain ⟨hcz20_0,hcz20_1,hcz20_2,hfz20_0,hfz20_1,hfz20_2⟩:=yc3 BK734
          have p740 : 0≤(x8_2 : Int):=yt
          have q740 : x8_2 < (l2_2.length : Int):=yt
          obtain ⟨ad740,A740_0,c740_0,e740,hx740_0,hl740_0,hi740_0⟩:=at_L2 HR2_2.out x8_2 p740 q740
          cases e740
          replace hx740_0:=(HB.out.cell (zb w _ hx740_0)).trans hx740_0
          have HR740_0:=zm hi740_0;have HC740_0:=zm hl740_0;clear hi740_0 hl740_0
          replace p740:=eq_true p740
          replace q740:=eq_true q740
          go_wp2
          go_loopg [9] k2 (fun kq v9 w' => ∃ (x9_3 : Int),v9=.int .i64 x9_3∧Aside0 (psalteryref13_Right.l1 kq a1 t737 x8_2 x9_3 a2_0 l2_1 l2_2=some r)∧Aside0 (kq≤k2)∧Aside0 (Kd.S (Kd.slice 3 (Kd.int .i64)) 49 w' w.heap.size (fun _=>True) v738 t737)∧Aside0 (w'.heap[gb734]? = some (.cells #[.bool a2_0,(.slice A2_1 l2_1.length c2_1),(.slice (some ad740) l2_2.length c2_2)] 33 (0,0)))∧Aside0 (Below w.heap.size w w'))
          case atStart=>exact ⟨(0),yq,H',⟨Nat.le_refl _⟩,⟨yr HO_7⟩,⟨yk BK734⟩,⟨yhb⟩⟩
          case round =>
           clear H'
           try clear c12
           try clear c16
           try clear c16b0
           try clear c17
           try clear c17b0
           try clear c18
           try clear c18b0
           try clear c19
           try clear c19b0
           try clear c19b1
           try clear hcz14_0
           try clear hcz14_1
           try clear hcz14_2
           try clear hcz20_0
           try clear hcz20_1
           try clear hcz20_2
           try clear hfz14_0
           try clear hfz14_1
           try clear hfz14_2
           try clear hfz20_0
           try clear hfz20_1
           try clear hfz20_2
           try clear hx740_0
           try clear p740
           try clear q740
           obtain ⟨x9_3,rfl,HA,HK3,HO_7,BK734,HB⟩:=hrel
           cases gk with
           | zero=>exact absurd HA.out (by simp [psalteryref13_Right.l1])
           | succ k3 =>
            have H:=HA.out;clear HA
            simp only [psalteryref13_Right.l1] at H
            by_cases c21 : x9_3 < 5
            ·
             rw [if_pos c21] at H
             have c21b0 : decide (x9_3 < 5)=true:=decide_eq_true c21
             clear c21
             by_cases c22 : 0≤x8_2
             ·
              rw [if_pos c22] at H
              have c22b0 : decide (0≤x8_2)=true:=decide_eq_true c22
              clear c22
              by_cases c23 : x8_2 < (l2_2.length : Int)
              ·
               rw [if_pos c23] at H
               have c23b0 : decide (x8_2 < (l2_2.length : Int))=true:=decide_eq_true c23
               clear c23
               by_cases c24 : 0≤x9_3
               ·
                rw [if_pos c24] at H
                have c24b0 : decide (0≤x9_3)=true:=decide_eq_true c24
                clear c24
                by_cases c25 : x9_3 < ((rd_L2 l2_2 x8_2).length : Int)
                ·
                 rw [if_pos c25] at H
                 have c25b0 : decide (x9_3 < ((rd_L2 l2_2 x8_2).length : Int))=true:=decide_eq_true c25
                 clear c25
                 obtain ⟨t743,A26,H⟩:=ybi H
                 by_cases c27 : ((rd_L1 (rd_L2 l2_2 x8_2) x9_3).length : Int)=t743
                 ·
                  rw [if_pos c27] at H
                  have c27b0 : (((rd_L1 (rd_L2 l2_2 x8_2) x9_3).length : Int) == t743)=true:=beq_iff_eq.mpr c27
                  have c27b1 : (((rd_L1 (rd_L2 l2_2 x8_2) x9_3).length : Int) != t743)=false:=bne_eq_false_iff_eq.mpr c27
                  clear c27
                  obtain ⟨t746,A28,H⟩:=ybi H
                  by_cases c29 : x8_2 < (t737.length : Int)
                  ·
                   rw [if_pos c29] at H
                   have c29b0 : decide (x8_2 < (t737.length : Int))=true:=decide_eq_true c29
                   clear c29
                   by_cases c30 : x9_3 < ((rd_L1 t737 x8_2).length : Int)
                   ·
                    rw [if_pos c30] at H
                    have c30b0 : decide (x9_3 < ((rd_L1 t737 x8_2).length : Int))=true:=decide_eq_true c30
                    clear c30
                    by_cases c31 : t746=(rd (rd_L1 t737 x8_2) x9_3)
                    ·
                     rw [if_pos c31] at H
                     have c31b0 : (t746 == (rd (rd_L1 t737 x8_2) x9_3))=true:=beq_iff_eq.mpr c31
                     have c31b1 : (t746 != (rd (rd_L1 t737 x8_2) x9_3))=false:=bne_eq_false_iff_eq.mpr c31
                     clear c31
                     have H' := zm H
                     clear H
                     try go_wp2
                     replace HO_7:=zm (Kd.S_drew HO_7.out)
                     replace BK734:=zm (zj BK734.out)
                     replace HB:=zm (zf HB.out)
                     have p741 : 0≤(x8_2 : Int):=yt
                     have q741 : x8_2 < (l2_2.length : Int):=yt
                     obtain ⟨ad741,A741_0,c741_0,e741,hx741_0,hl741_0,hi741_0⟩:=at_L2 HR2_2.out x8_2 p741 q741
                     have hw741_0:=hx741_0
                     obtain rfl : ad740=ad741:=(by injection e741)
                     replace hx741_0:=(HB.out.cell (zb w _ hx741_0)).trans hx741_0
                     have HR741_0:=zm hi741_0;have HC741_0:=zm hl741_0;clear hi741_0 hl741_0
                     replace p741:=eq_true p741
                     replace q741:=eq_true q741
                     have p742 : 0≤(x9_3 : Int):=yt
                     have q742 : x9_3 < ((rd_L2 l2_2 x8_2).length : Int):=yt
                     obtain ⟨ad742,A742_0,c742_0,e742,hx742_0,hl742_0,hi742_0⟩:=at_L1 HR741_0.out x9_3 p742 q742
                     have hw742_0:=hx742_0
                     cases e742
                     replace hx742_0:=(HB.out.cell (zb w _ hx742_0)).trans hx742_0
                     have HR742_0:=zm hi742_0;have HC742_0:=zm hl742_0;clear hi742_0 hl742_0
                     replace p742:=eq_true p742
                     replace q742:=eq_true q742
                     have p744 : 0≤(x8_2 : Int):=yt
                     have q744 : x8_2 < (l2_2.length : Int):=yt
                     obtain ⟨ad744,A744_0,c744_0,e744,hx744_0,hl744_0,hi744_0⟩:=at_L2 HR2_2.out x8_2 p744 q744
                     have hw744_0:=hx744_0
                     obtain rfl : ad740=ad744:=(by injection e744)
                     replace hx744_0:=(HB.out.cell (zb w _ hx744_0)).trans hx744_0
                     have HR744_0:=zm hi744_0;have HC744_0:=zm hl744_0;clear hi744_0 hl744_0
                     replace p744:=eq_true p744
                     replace q744:=eq_true q744
                     have ea_:=Option.some.inj (hx741_0.symm.trans hx744_0)
                     injection ea_ with ea_ en_ ec_
                     subst ea_;subst ec_;clear en_
                     have p745 : 0≤(x9_3 : Int):=yt
                     have q745 : x9_3 < ((rd_L2 l2_2 x8_2).length : Int):=yt
                     obtain ⟨ad745,A745_0,c745_0,e745,hx745_0,hl745_0,hi745_0⟩:=at_L1 HR744_0.out x9_3 p745 q745
                     have hw745_0:=hx745_0
                     cases e745
                     replace hx745_0:=(HB.out.cell (zb w _ hx745_0)).trans hx745_0
                     have HR745_0:=zm hi745_0;have HC745_0:=zm hl745_0;clear hi745_0 hl745_0
                     replace p745:=eq_true p745
                     replace q745:=eq_true q745
                     have p747 : 0≤(x8_2 : Int):=yt
                     have q747 : x8_2 < (t737.length : Int):=yt
                     obtain ⟨Ao33,co33,eo33⟩:=Kd.S_slice HO_7.out
                     (first|subst eo33|(injection eo33 with f1_ f2_ f3_;have f4_:=f1_.symm;have f5_:=f3_.symm;clear f1_ f2_ f3_;subst f4_;subst f5_))
                     obtain ⟨ad747,A747_0,c747_0,e747,hx747_0,hl747_0,hi747_0⟩:=at_L1 (Kd.S_reads' HO_7.out).2.2 x8_2 p747 q747
                     cases e747
                     obtain ⟨ce747,hce747,hMe747,hcc747⟩:=Kd.S_get HO_7.out [] x8_2 p747 (by first|exact q747|exact yt|(have e_:=(Kd.S_reads' HO_7.out).1;omega))
                     obtain ⟨ve747_0,rfl,ge747_0⟩:=hMe747
                     have hv747_0:=hcc747 0 _ rfl
                     rw [Nat.add_zero,show ((Kd.slice 3 (Kd.int .i64))).sz=1 from rfl,Nat.mul_one] at hv747_0
                     replace hv747_0:=Option.some.inj (hv747_0.symm.trans hx747_0)
                     rw [hv747_0] at ge747_0
                     have HL747_0:=zm (show Kd.R (Kd.int .i64) 3 _ _ _ _ (rd_L1 t737 x8_2) from ge747_0)
                     clear hv747_0 ge747_0;clear hcc747 hce747;have HR747_0:=zm hi747_0;have HC747_0:=zm hl747_0;clear hi747_0 hl747_0
                     replace p747:=eq_true p747
                     replace q747:=eq_true q747
                     have p748 : 0≤(x9_3 : Int):=yt
                     have q748 : x9_3 < ((rd_L1 t737 x8_2).length : Int):=yt
                     obtain ⟨ad748,e748,hx748_0⟩:=Kd.at_int (yr HR747_0) x9_3 p748 q748
                     cases e748
                     replace p748:=eq_true p748
                     replace q748:=eq_true q748
                     refine start_ (n:=31) (S:=fun w' => w'.cell? ⟨gb734,0,none⟩=some (.bool a2_0)∧w'.cell? ⟨gb734,1,none⟩=some (.slice A2_1 l2_1.length c2_1)∧w'.cell? ⟨gb734,2,none⟩=some (.slice (some ad740) l2_2.length c2_2)∧w'.cell? (ad740.add (x8_2).toNat)=some (.slice (some ad742) (rd_L2 l2_2 x8_2).length c741_0)∧w'.cell? (ad742.add (x9_3).toNat)=some (.slice A742_0 (rd_L1 (rd_L2 l2_2 x8_2) x9_3).length c742_0)∧w'.cell? (ad740.add (x8_2).toNat)=some (.slice (some ad742) (rd_L2 l2_2 x8_2).length c741_0)∧w'.cell? (ad742.add (x9_3).toNat)=some (.slice A742_0 (rd_L1 (rd_L2 l2_2 x8_2) x9_3).length c742_0)∧w'.cell? (ad747.add (x8_2).toNat)=some (.slice (some ad748) (rd_L1 t737 x8_2).length c747_0)∧w'.cell? (ad748.add (x9_3).toNat)=some (.int .i64 (rd (rd_L1 t737 x8_2) x9_3))) (ds := []) #[false,false,false,false,false,false,false,false,false,false,false,false,false,false,false,false,false,false,false,false,false,false,false,false,false,false,false,false,false,false,false] (by kernel_rfl) rfl rfl ⟨(zs BK734.out 0).trans rfl,(zs BK734.out 1).trans rfl,(zs BK734.out 2).trans rfl,((HB.out.cell (zb w _ hw741_0)).trans hw741_0),((HB.out.cell (zb w _ hw742_0)).trans hw742_0),((HB.out.cell (zb w _ hw744_0)).trans hw744_0),((HB.out.cell (zb w _ hw742_0)).trans hw742_0),hx747_0,hx748_0⟩ (fun hHeld => ?_);refine with_tabW psalteryref13_Right.tab12 psalteryref13_Right.bits12 (fun HT_ HW_ => ?_)
                     generalize wr.drew=w32 at HO_7 BK734 HB HL747_0 HR741_0 HR742_0 HR744_0 HR745_0 HR747_0 hx741_0 hx742_0 hx744_0 hx745_0 hx747_0 hx748_0 hHeld ⊢
                     refine yp 0 49 HT_ ?_
                     refine yp 2 51 HT_ ?_
                     refine yp 5 54 HT_ ?_
                     refine yp 9 58 HT_ ?_
                     refine yl 1 50 HT_ HW_ hHeld ?_
                     refine yp 3 52 HT_ ?_
                     refine yl 4 53 HT_ HW_ hHeld ?_
                     refine yp 6 55 HT_ ?_
                     refine yl 7 56 HT_ HW_ hHeld ?_
                     refine yp 8 57 HT_ ?_
                     refine yw 10 59 HT_ (fun K hK => ?_)
                     refine ygs Try.func46 #[.int .i64 x9_3] ?_
                     with_reducible refine (psalteryref10_Width.calls k3 x9_3 t743 _ A26.out).mono ?_
                     rintro e w' ⟨rfl,⟨nd,rfl⟩⟩
                     refine ⟨_,rfl, ?_⟩
                     refine hK.out _ _ ⟨(zs BK734.out 0).trans rfl,(zs BK734.out 1).trans rfl,(zs BK734.out 2).trans rfl,((HB.out.cell (zb w _ hw741_0)).trans hw741_0),((HB.out.cell (zb w _ hw742_0)).trans hw742_0),((HB.out.cell (zb w _ hw744_0)).trans hw744_0),((HB.out.cell (zb w _ hw742_0)).trans hw742_0),hHeld.2.2.2.2.2.2.2.1,hHeld.2.2.2.2.2.2.2.2⟩ (fun hHeld => ?_)
                     clear hK K
                     refine ym (some 59) ?_
                     refine yp 11 60 HT_ ?_
                     refine yp 12 61 HT_ ?_
                     refine yp 13 62 HT_ ?_
                     refine yp 15 64 HT_ ?_
                     refine yp 18 67 HT_ ?_
                     refine yp 22 71 HT_ ?_
                     refine yp 23 72 HT_ ?_
                     refine yp 24 73 HT_ ?_
                     refine yp 26 75 HT_ ?_
                     refine yl 14 63 HT_ HW_ hHeld ?_
                     refine yp 16 65 HT_ ?_
                     refine yl 17 66 HT_ HW_ hHeld ?_
                     refine yp 19 68 HT_ ?_
                     refine yl 20 69 HT_ HW_ hHeld ?_
                     refine yl 25 74 HT_ HW_ hHeld ?_
                     refine yp 27 76 HT_ ?_
                     refine yl 28 77 HT_ HW_ hHeld ?_
                     refine yw 21 70 HT_ (fun K hK => ?_)
                     refine ygs Try.func40 #[.slice A742_0 (rd_L1 (rd_L2 l2_2 x8_2) x9_3).length c742_0] ?_
                     with_reducible refine (psalteryref06_Pulses.calls k3 _ _ (rd_L1 (rd_L2 l2_2 x8_2) x9_3) t746 _ ?side1 ?side2 A28.out).mono ?_
                     (case side1=>exact ycb HR742_0)
                     (case side2=>exact HC742_0.out)
                     rintro e w' ⟨rfl,⟨nd,rfl⟩⟩
                     refine ⟨_,rfl, ?_⟩
                     refine hK.out _ _ ⟨(zs BK734.out 0).trans rfl,(zs BK734.out 1).trans rfl,(zs BK734.out 2).trans rfl,((HB.out.cell (zb w _ hw741_0)).trans hw741_0),((HB.out.cell (zb w _ hw742_0)).trans hw742_0),((HB.out.cell (zb w _ hw744_0)).trans hw744_0),((HB.out.cell (zb w _ hw742_0)).trans hw742_0),hHeld.2.2.2.2.2.2.2.1,hHeld.2.2.2.2.2.2.2.2⟩ (fun hHeld => ?_)
                     clear hK K
                     refine ym (some 70) ?_
                     refine yp 29 78 HT_ ?_
                     refine yp 30 79 HT_ ?_
                     refine done_ (done_of HT_.out (by kernel_rfl)) ?_
                     try go_wp2
                     go_roundg k3
                     case measure=>have:=HJ3.out;have:=HK2.out;have:=HK3.out;omega
                     case rel=>exact ⟨(wrap64 (x9_3+1)),yq,H',⟨by have:=HJ3.out;have:=HK2.out;have:=HK3.out;omega⟩,⟨yr HO_7⟩,⟨yk BK734⟩,⟨yhb⟩⟩
                    ·
                     rw [if_neg c31] at H
                     have c31b0 : (t746 == (rd (rd_L1 t737 x8_2) x9_3))=false:=beq_eq_false_iff_ne.mpr c31
                     have c31b1 : (t746 != (rd (rd_L1 t737 x8_2) x9_3))=true:=bne_iff_ne.mpr c31
                     obtain rfl:=Option.some.inj H
                     try go_wp2
                     replace HO_7:=zm (Kd.S_drew HO_7.out)
                     replace BK734:=zm (zj BK734.out)
                     replace HB:=zm (zf HB.out)
                     have p741 : 0≤(x8_2 : Int):=yt
                     have q741 : x8_2 < (l2_2.length : Int):=yt
                     obtain ⟨ad741,A741_0,c741_0,e741,hx741_0,hl741_0,hi741_0⟩:=at_L2 HR2_2.out x8_2 p741 q741
                     have hw741_0:=hx741_0
                     obtain rfl : ad740=ad741:=(by injection e741)
                     replace hx741_0:=(HB.out.cell (zb w _ hx741_0)).trans hx741_0
                     have HR741_0:=zm hi741_0;have HC741_0:=zm hl741_0;clear hi741_0 hl741_0
                     replace p741:=eq_true p741
                     replace q741:=eq_true q741
                     have p742 : 0≤(x9_3 : Int):=yt
                     have q742 : x9_3 < ((rd_L2 l2_2 x8_2).length : Int):=yt
                     obtain ⟨ad742,A742_0,c742_0,e742,hx742_0,hl742_0,hi742_0⟩:=at_L1 HR741_0.out x9_3 p742 q742
                     have hw742_0:=hx742_0
                     cases e742
                     replace hx742_0:=(HB.out.cell (zb w _ hx742_0)).trans hx742_0
                     have HR742_0:=zm hi742_0;have HC742_0:=zm hl742_0;clear hi742_0 hl742_0
                     replace p742:=eq_true p742
                     replace q742:=eq_true q742
                     have p744 : 0≤(x8_2 : Int):=yt
                     have q744 : x8_2 < (l2_2.length : Int):=yt
                     obtain ⟨ad744,A744_0,c744_0,e744,hx744_0,hl744_0,hi744_0⟩:=at_L2 HR2_2.out x8_2 p744 q744
                     have hw744_0:=hx744_0
                     obtain rfl : ad740=ad744:=(by injection e744)
                     replace hx744_0:=(HB.out.cell (zb w _ hx744_0)).trans hx744_0
                     have HR744_0:=zm hi744_0;have HC744_0:=zm hl744_0;clear hi744_0 hl744_0
                     replace p744:=eq_true p744
                     replace q744:=eq_true q744
                     have ea_:=Option.some.inj (hx741_0.symm.trans hx744_0)
                     injection ea_ with ea_ en_ ec_
                     subst ea_;subst ec_;clear en_
                     have p745 : 0≤(x9_3 : Int):=yt
                     have q745 : x9_3 < ((rd_L2 l2_2 x8_2).length : Int):=yt
                     obtain ⟨ad745,A745_0,c745_0,e745,hx745_0,hl745_0,hi745_0⟩:=at_L1 HR744_0.out x9_3 p745 q745
                     have hw745_0:=hx745_0
                     cases e745
                     replace hx745_0:=(HB.out.cell (zb w _ hx745_0)).trans hx745_0
                     have HR745_0:=zm hi745_0;have HC745_0:=zm hl745_0;clear hi745_0 hl745_0
                     replace p745:=eq_true p745
                     replace q745:=eq_true q745
                     have p747 : 0≤(x8_2 : Int):=yt
                     have q747 : x8_2 < (t737.length : Int):=yt
                     obtain ⟨Ao35,co35,eo35⟩:=Kd.S_slice HO_7.out
                     (first|subst eo35|(injection eo35 with f1_ f2_ f3_;have f4_:=f1_.symm;have f5_:=f3_.symm;clear f1_ f2_ f3_;subst f4_;subst f5_))
                     obtain ⟨ad747,A747_0,c747_0,e747,hx747_0,hl747_0,hi747_0⟩:=at_L1 (Kd.S_reads' HO_7.out).2.2 x8_2 p747 q747
                     cases e747
                     obtain ⟨ce747,hce747,hMe747,hcc747⟩:=Kd.S_get HO_7.out [] x8_2 p747 (by first|exact q747|exact yt|(have e_:=(Kd.S_reads' HO_7.out).1;omega))
                     obtain ⟨ve747_0,rfl,ge747_0⟩:=hMe747
                     have hv747_0:=hcc747 0 _ rfl
                     rw [Nat.add_zero,show ((Kd.slice 3 (Kd.int .i64))).sz=1 from rfl,Nat.mul_one] at hv747_0
                     replace hv747_0:=Option.some.inj (hv747_0.symm.trans hx747_0)
                     rw [hv747_0] at ge747_0
                     have HL747_0:=zm (show Kd.R (Kd.int .i64) 3 _ _ _ _ (rd_L1 t737 x8_2) from ge747_0)
                     clear hv747_0 ge747_0;clear hcc747 hce747;have HR747_0:=zm hi747_0;have HC747_0:=zm hl747_0;clear hi747_0 hl747_0
                     replace p747:=eq_true p747
                     replace q747:=eq_true q747
                     have p748 : 0≤(x9_3 : Int):=yt
                     have q748 : x9_3 < ((rd_L1 t737 x8_2).length : Int):=yt
                     obtain ⟨ad748,e748,hx748_0⟩:=Kd.at_int (yr HR747_0) x9_3 p748 q748
                     cases e748
                     replace p748:=eq_true p748
                     replace q748:=eq_true q748
                     refine start_ (n:=31) (S:=fun w' => w'.cell? ⟨gb734,0,none⟩=some (.bool a2_0)∧w'.cell? ⟨gb734,1,none⟩=some (.slice A2_1 l2_1.length c2_1)∧w'.cell? ⟨gb734,2,none⟩=some (.slice (some ad740) l2_2.length c2_2)∧w'.cell? (ad740.add (x8_2).toNat)=some (.slice (some ad742) (rd_L2 l2_2 x8_2).length c741_0)∧w'.cell? (ad742.add (x9_3).toNat)=some (.slice A742_0 (rd_L1 (rd_L2 l2_2 x8_2) x9_3).length c742_0)∧w'.cell? (ad740.add (x8_2).toNat)=some (.slice (some ad742) (rd_L2 l2_2 x8_2).length c741_0)∧w'.cell? (ad742.add (x9_3).toNat)=some (.slice A742_0 (rd_L1 (rd_L2 l2_2 x8_2) x9_3).length c742_0)∧w'.cell? (ad747.add (x8_2).toNat)=some (.slice (some ad748) (rd_L1 t737 x8_2).length c747_0)∧w'.cell? (ad748.add (x9_3).toNat)=some (.int .i64 (rd (rd_L1 t737 x8_2) x9_3))) (ds := []) #[false,false,false,false,false,false,false,false,false,false,false,false,false,false,false,false,false,false,false,false,false,false,false,false,false,false,false,false,false,false,false] (by kernel_rfl) rfl rfl ⟨(zs BK734.out 0).trans rfl,(zs BK734.out 1).trans rfl,(zs BK734.out 2).trans rfl,((HB.out.cell (zb w _ hw741_0)).trans hw741_0),((HB.out.cell (zb w _ hw742_0)).trans hw742_0),((HB.out.cell (zb w _ hw744_0)).trans hw744_0),((HB.out.cell (zb w _ hw742_0)).trans hw742_0),hx747_0,hx748_0⟩ (fun hHeld => ?_);refine with_tabW psalteryref13_Right.tab12 psalteryref13_Right.bits12 (fun HT_ HW_ => ?_)
                     generalize wr.drew=w34 at HO_7 BK734 HB HL747_0 HR741_0 HR742_0 HR744_0 HR745_0 HR747_0 hx741_0 hx742_0 hx744_0 hx745_0 hx747_0 hx748_0 hHeld ⊢
                     refine yp 0 49 HT_ ?_
                     refine yp 2 51 HT_ ?_
                     refine yp 5 54 HT_ ?_
                     refine yp 9 58 HT_ ?_
                     refine yl 1 50 HT_ HW_ hHeld ?_
                     refine yp 3 52 HT_ ?_
                     refine yl 4 53 HT_ HW_ hHeld ?_
                     refine yp 6 55 HT_ ?_
                     refine yl 7 56 HT_ HW_ hHeld ?_
                     refine yp 8 57 HT_ ?_
                     refine yw 10 59 HT_ (fun K hK => ?_)
                     refine ygs Try.func46 #[.int .i64 x9_3] ?_
                     with_reducible refine (psalteryref10_Width.calls k3 x9_3 t743 _ A26.out).mono ?_
                     rintro e w' ⟨rfl,⟨nd,rfl⟩⟩
                     refine ⟨_,rfl, ?_⟩
                     refine hK.out _ _ ⟨(zs BK734.out 0).trans rfl,(zs BK734.out 1).trans rfl,(zs BK734.out 2).trans rfl,((HB.out.cell (zb w _ hw741_0)).trans hw741_0),((HB.out.cell (zb w _ hw742_0)).trans hw742_0),((HB.out.cell (zb w _ hw744_0)).trans hw744_0),((HB.out.cell (zb w _ hw742_0)).trans hw742_0),hHeld.2.2.2.2.2.2.2.1,hHeld.2.2.2.2.2.2.2.2⟩ (fun hHeld => ?_)
                     clear hK K
                     refine ym (some 59) ?_
                     refine yp 11 60 HT_ ?_
                     refine yp 12 61 HT_ ?_
                     refine yp 13 62 HT_ ?_
                     refine yp 15 64 HT_ ?_
                     refine yp 18 67 HT_ ?_
                     refine yp 22 71 HT_ ?_
                     refine yp 23 72 HT_ ?_
                     refine yp 24 73 HT_ ?_
                     refine yp 26 75 HT_ ?_
                     refine yl 14 63 HT_ HW_ hHeld ?_
                     refine yp 16 65 HT_ ?_
                     refine yl 17 66 HT_ HW_ hHeld ?_
                     refine yp 19 68 HT_ ?_
                     refine yl 20 69 HT_ HW_ hHeld ?_
                     refine yl 25 74 HT_ HW_ hHeld ?_
                     refine yp 27 76 HT_ ?_
                     refine yl 28 77 HT_ HW_ hHeld ?_
                     refine yw 21 70 HT_ (fun K hK => ?_)
                     refine ygs Try.func40 #[.slice A742_0 (rd_L1 (rd_L2 l2_2 x8_2) x9_3).length c742_0] ?_
                     with_reducible refine (psalteryref06_Pulses.calls k3 _ _ (rd_L1 (rd_L2 l2_2 x8_2) x9_3) t746 _ ?side1 ?side2 A28.out).mono ?_
                     (case side1=>exact ycb HR742_0)
                     (case side2=>exact HC742_0.out)
                     rintro e w' ⟨rfl,⟨nd,rfl⟩⟩
                     refine ⟨_,rfl, ?_⟩
                     refine hK.out _ _ ⟨(zs BK734.out 0).trans rfl,(zs BK734.out 1).trans rfl,(zs BK734.out 2).trans rfl,((HB.out.cell (zb w _ hw741_0)).trans hw741_0),((HB.out.cell (zb w _ hw742_0)).trans hw742_0),((HB.out.cell (zb w _ hw744_0)).trans hw744_0),((HB.out.cell (zb w _ hw742_0)).trans hw742_0),hHeld.2.2.2.2.2.2.2.1,hHeld.2.2.2.2.2.2.2.2⟩ (fun hHeld => ?_)
                     clear hK K
                     refine ym (some 70) ?_
                     refine yp 29 78 HT_ ?_
                     refine yp 30 79 HT_ ?_
                     refine done_ (done_of HT_.out (by kernel_rfl)) ?_
                     try go_wp2
                     go_ret
                     exact ⟨ye,yhb⟩
                   ·
                    rw [if_neg c30] at H
                    exact absurd H (by simp)
                  ·
                   rw [if_neg c29] at H
                   exact absurd H (by simp)
                 ·
                  rw [if_neg c27] at H
                  have c27b0 : (((rd_L1 (rd_L2 l2_2 x8_2) x9_3).length : Int) == t743)=false:=beq_eq_false_iff_ne.mpr c27
                  have c27b1 : (((rd_L1 (rd_L2 l2_2 x8_2) x9_3).length : Int) != t743)=true:=bne_iff_ne.mpr c27
                  obtain rfl:=Option.some.inj H
                  try go_wp2
                  replace HO_7:=zm (Kd.S_drew HO_7.out)
                  replace BK734:=zm (zj BK734.out)
                  replace HB:=zm (zf HB.out)
                  have p741 : 0≤(x8_2 : Int):=yt
                  have q741 : x8_2 < (l2_2.length : Int):=yt
                  obtain ⟨ad741,A741_0,c741_0,e741,hx741_0,hl741_0,hi741_0⟩:=at_L2 HR2_2.out x8_2 p741 q741
                  have hw741_0:=hx741_0
                  obtain rfl : ad740=ad741:=(by injection e741)
                  replace hx741_0:=(HB.out.cell (zb w _ hx741_0)).trans hx741_0
                  have HR741_0:=zm hi741_0;have HC741_0:=zm hl741_0;clear hi741_0 hl741_0
                  replace p741:=eq_true p741
                  replace q741:=eq_true q741
                  have p742 : 0≤(x9_3 : Int):=yt
                  have q742 : x9_3 < ((rd_L2 l2_2 x8_2).length : Int):=yt
                  obtain ⟨ad742,A742_0,c742_0,e742,hx742_0,hl742_0,hi742_0⟩:=at_L1 HR741_0.out x9_3 p742 q742
                  have hw742_0:=hx742_0
                  cases e742
                  replace hx742_0:=(HB.out.cell (zb w _ hx742_0)).trans hx742_0
                  have HR742_0:=zm hi742_0;have HC742_0:=zm hl742_0;clear hi742_0 hl742_0
                  replace p742:=eq_true p742
                  replace q742:=eq_true q742
                  refine start_ (n:=31) (S:=fun w' => w'.cell? ⟨gb734,0,none⟩=some (.bool a2_0)∧w'.cell? ⟨gb734,1,none⟩=some (.slice A2_1 l2_1.length c2_1)∧w'.cell? ⟨gb734,2,none⟩=some (.slice (some ad740) l2_2.length c2_2)∧w'.cell? (ad740.add (x8_2).toNat)=some (.slice (some ad742) (rd_L2 l2_2 x8_2).length c741_0)∧w'.cell? (ad742.add (x9_3).toNat)=some (.slice A742_0 (rd_L1 (rd_L2 l2_2 x8_2) x9_3).length c742_0)) (ds := []) #[false,false,false,false,false,false,false,false,false,false,false,false,false,false,false,false,false,false,false,false,false,false,false,false,false,false,false,false,false,false,false] (by kernel_rfl) rfl rfl ⟨(zs BK734.out 0).trans rfl,(zs BK734.out 1).trans rfl,(zs BK734.out 2).trans rfl,((HB.out.cell (zb w _ hw741_0)).trans hw741_0),((HB.out.cell (zb w _ hw742_0)).trans hw742_0)⟩ (fun hHeld => ?_);refine with_tabW psalteryref13_Right.tab12 psalteryref13_Right.bits12 (fun HT_ HW_ => ?_)
                  generalize wr.drew=w36 at HO_7 BK734 HB HR741_0 HR742_0 hx741_0 hx742_0 hHeld ⊢
                  refine yp 0 49 HT_ ?_
                  refine yp 2 51 HT_ ?_
                  refine yp 5 54 HT_ ?_
                  refine yp 9 58 HT_ ?_
                  refine yl 1 50 HT_ HW_ hHeld ?_
                  refine yp 3 52 HT_ ?_
                  refine yl 4 53 HT_ HW_ hHeld ?_
                  refine yp 6 55 HT_ ?_
                  refine yl 7 56 HT_ HW_ hHeld ?_
                  refine yp 8 57 HT_ ?_
                  refine yw 10 59 HT_ (fun K hK => ?_)
                  refine ygs Try.func46 #[.int .i64 x9_3] ?_
                  with_reducible refine (psalteryref10_Width.calls k3 x9_3 t743 _ A26.out).mono ?_
                  rintro e w' ⟨rfl,⟨nd,rfl⟩⟩
                  refine ⟨_,rfl, ?_⟩
                  refine hK.out _ _ ⟨(zs BK734.out 0).trans rfl,(zs BK734.out 1).trans rfl,(zs BK734.out 2).trans rfl,((HB.out.cell (zb w _ hw741_0)).trans hw741_0),((HB.out.cell (zb w _ hw742_0)).trans hw742_0)⟩ (fun hHeld => ?_)
                  clear hK K
                  refine ym (some 59) ?_
                  refine yp 11 60 HT_ ?_
                  refine yp 12 61 HT_ ?_
                  refine yu 13 62 HT_ ?_
                  refine yu 14 63 HT_ ?_
                  refine yu 15 64 HT_ ?_
                  refine yu 16 65 HT_ ?_
                  refine yu 17 66 HT_ ?_
                  refine yu 18 67 HT_ ?_
                  refine yu 19 68 HT_ ?_
                  refine yu 20 69 HT_ ?_
                  refine yu 21 70 HT_ ?_
                  refine yu 22 71 HT_ ?_
                  refine yu 23 72 HT_ ?_
                  refine yu 24 73 HT_ ?_
                  refine yu 25 74 HT_ ?_
                  refine yu 26 75 HT_ ?_
                  refine yu 27 76 HT_ ?_
                  refine yu 28 77 HT_ ?_
                  refine yu 29 78 HT_ ?_
                  refine yp 30 79 HT_ ?_
                  refine done_ (done_of HT_.out (by kernel_rfl)) ?_
                  try go_wp2
                  go_ret
                  exact ⟨ye,yhb⟩
                ·
                 rw [if_neg c25] at H
                 exact absurd H (by simp)
               ·
                rw [if_neg c24] at H
                exact absurd H (by simp)
              ·
               rw [if_neg c23] at H
               exact absurd H (by simp)
             ·
              rw [if_neg c22] at H
              exact absurd H (by simp)
            ·
             rw [if_neg c21] at H
             have c21b0 : decide (x9_3 < 5)=false:=decide_eq_false c21
             clear c21
             have H' := zm H
             clear H
             go_wp2
             go_roundg k3
             case measure=>have:=HJ3.out;have:=HK2.out;have:=HK3.out;omega
             case rel=>exact ⟨(wrap64 (x8_2+1)),yq,H',⟨by have:=HJ3.out;have:=HK2.out;have:=HK3.out;omega⟩,⟨yr HO_7⟩,⟨yk BK734⟩,⟨yhb⟩⟩
         ·
          rw [if_neg c19] at H
          have c19b0 : (((rd_L2 l2_2 x8_2).length : Int) == 5)=false:=beq_eq_false_iff_ne.mpr c19
          have c19b1 : (((rd_L2 l2_2 x8_2).length : Int) != 5)=true:=bne_iff_ne.mpr c19
          obtain rfl:=Option.some.inj H
          obtain ⟨_,_,_,_,_,_⟩:=yc3 BK734
          have p740 : 0≤(x8_2 : Int):=yt
          have q740 : x8_2 < (l2_2.length : Int):=yt
          obtain ⟨ad740,A740_0,c740_0,e740,hx740_0,hl740_0,hi740_0⟩:=at_L2 HR2_2.out x8_2 p740 q740
          cases e740
          replace hx740_0:=(HB.out.cell (zb w _ hx740_0)).trans hx740_0
          have HR740_0:=zm hi740_0;have HC740_0:=zm hl740_0;clear hi740_0 hl740_0
          replace p740:=eq_true p740
          replace q740:=eq_true q740
          go_wp2
          go_ret
          exact ⟨ye,yhb⟩
        ·
         rw [if_neg c18] at H
         exact absurd H (by simp)
       ·
        rw [if_neg c17] at H
        exact absurd H (by simp)
      ·
       rw [if_neg c16] at H
       have c16b0 : decide (x8_2 < a1)=false:=decide_eq_false c16
       clear c16
       obtain rfl:=Option.some.inj H
       go_wp2
       go_ret
       exact ⟨ye,yhb⟩

end Go.Proofs.Ytnmbndkojpjkmaa.Prt
