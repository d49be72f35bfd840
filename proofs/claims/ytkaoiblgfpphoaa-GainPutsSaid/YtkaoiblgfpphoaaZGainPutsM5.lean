-- Functions of the program and of the document as plain Lean, each with the proof that the code comes to it. Written by a program of this session (wip/tools/myprint.py, pack.py) over the kit's printer; Lean checks it.
import Derived.Test.YtkaoiblgfpphoaaZGainPutsPrt0
import Derived.Test.YtkaoiblgfpphoaaZGainPutsM4
import Derived.Test.YtkaoiblgfpphoaaZGainPutsM2
import Derived.Test.YtkaoiblgfpphoaaZGainPutsM1
import Derived.Test.YtkaoiblgfpphoaaZGainPutsM3
namespace Go.Proofs.Ytkaoiblgfpphoaa.Prt
open Go.RowKit Go.Proofs.YtkaoiblgfpphoaaW.PrintWords Go.Proofs.YtkaoiblgfpphoaaW.PrintLast Go.Proofs.YtkaoiblgfpphoaaW.PrintMore
attribute [local go_sem] max2_int min2_int max_two min_two max_three min_three max_four min_four   -- for this text's walks alone
set_option linter.unusedVariables false
set_option linter.unusedSimpArgs false

/-! ### psalteryref11_Put: function 44 -/
mutual
def psalteryref11_Put.j0 : Nat→List Int→List Int→Bool→Bool→Int→List Int→Option (Int × List Int × Int)
 | 0,_,_,_,_,_,_=>none
 | k+1,x1,x2,x3,x26,x820000,x820001=>if x26=true then (some (x820000,x820001,1)) else (psalteryref11_Put.l0 k x1 x2 x3 0 x820000 x820001 x820000 x820001)
def psalteryref11_Put.l0 : Nat→List Int→List Int→Bool→Int→Int→List Int→Int→List Int→Option (Int × List Int × Int)
 | 0,_,_,_,_,_,_,_,_=>none
 | k+1,x1,x2,x3,x11,x820000,x820001,x824000,x824001=>if x11 < 5 then (if x3=true then (psalteryref11_Put.j3 k x1 x2 x3 x11 x3 x820000 x820001 x824000 x824001) else (if 0≤x11 then (if x11 < (x1.length : Int) then (if x11 < (x2.length : Int) then (if (wrap64 ((wrap64 ((rd x1 x11) - (rd x2 x11)))+3)) < 0 then (psalteryref11_Put.j2 k x1 x2 x3 x11 x3 (wrap64 ((wrap64 ((rd x1 x11) - (rd x2 x11)))+3)) true x820000 x820001 x824000 x824001) else (psalteryref11_Put.j2 k x1 x2 x3 x11 x3 (wrap64 ((wrap64 ((rd x1 x11) - (rd x2 x11)))+3)) (decide ((wrap64 ((wrap64 ((rd x1 x11) - (rd x2 x11)))+3)) > 6)) x820000 x820001 x824000 x824001)) else (none)) else (none)) else (none))) else (some (x824000,x824001,0))
def psalteryref11_Put.j3 : Nat→List Int→List Int→Bool→Int→Bool→Int→List Int→Int→List Int→Option (Int × List Int × Int)
 | 0,_,_,_,_,_,_,_,_,_=>none
 | k+1,x1,x2,x3,x11,x13,x820000,x820001,x824000,x824001=>if x13=true then (if 0≤x11 then (if x11 < (x1.length : Int) then ((psalteryref05_PutNum.f k x824000 x824001 (IntKind.u64.wrap (rd x1 x11)) 45).bind fun bt837=>(if bt837.2.2=0 then (psalteryref11_Put.l0 k x1 x2 x3 (wrap64 (x11+1)) x820000 x820001 bt837.1 bt837.2.1) else (some (x820000,x820001,bt837.2.2)))) else (none)) else (none)) else (psalteryref11_Put.l0 k x1 x2 x3 (wrap64 (x11+1)) x820000 x820001 x824000 x824001)
def psalteryref11_Put.j2 : Nat→List Int→List Int→Bool→Int→Bool→Int→Bool→Int→List Int→Int→List Int→Option (Int × List Int × Int)
 | 0,_,_,_,_,_,_,_,_,_,_,_=>none
 | k+1,x1,x2,x3,x11,x13,x14,x51,x820000,x820001,x824000,x824001=>if x51=true then ((psalteryref05_Put.f k x824000 x824001 7 (7+1) 8).bind fun bt826=>(if bt826.2.2=0 then (psalteryref11_Put.j3 k x1 x2 x3 x11 true x820000 x820001 bt826.1 bt826.2.1) else (some (x820000,x820001,bt826.2.2)))) else ((psalteryref05_Put.f k x824000 x824001 x14 (wrap64 (x14+1)) 8).bind fun bt831=>(if bt831.2.2=0 then (psalteryref11_Put.j3 k x1 x2 x3 x11 x13 x820000 x820001 bt831.1 bt831.2.1) else (some (x820000,x820001,bt831.2.2))))
end
def psalteryref11_Put.f (k : Nat) (a0_0 : Int) (l0_1 : List Int) (l1 : List Int) (l2 : List Int) (a3 : Bool) : Option (Int × List Int × Int):=(psalteryref11_Right.f k l1).bind fun t821=>(if t821=true then (if a3=true then (psalteryref11_Put.j0 k l1 l2 a3 false a0_0 l0_1) else ((psalteryref11_Right.f k l2).bind fun t822=>(psalteryref11_Put.j0 k l1 l2 a3 (!t822) a0_0 l0_1))) else (psalteryref11_Put.j0 k l1 l2 a3 true a0_0 l0_1))
theorem psalteryref11_Put.mono_l : ∀ k,(∀ y0 y1 y2 y3 y4 y5,LeO (psalteryref11_Put.j0 k y0 y1 y2 y3 y4 y5) (psalteryref11_Put.j0 (k+1) y0 y1 y2 y3 y4 y5))∧(∀ y0 y1 y2 y3 y4 y5 y6 y7,LeO (psalteryref11_Put.l0 k y0 y1 y2 y3 y4 y5 y6 y7) (psalteryref11_Put.l0 (k+1) y0 y1 y2 y3 y4 y5 y6 y7))∧(∀ y0 y1 y2 y3 y4 y5 y6 y7 y8,LeO (psalteryref11_Put.j3 k y0 y1 y2 y3 y4 y5 y6 y7 y8) (psalteryref11_Put.j3 (k+1) y0 y1 y2 y3 y4 y5 y6 y7 y8))∧(∀ y0 y1 y2 y3 y4 y5 y6 y7 y8 y9 y10,LeO (psalteryref11_Put.j2 k y0 y1 y2 y3 y4 y5 y6 y7 y8 y9 y10) (psalteryref11_Put.j2 (k+1) y0 y1 y2 y3 y4 y5 y6 y7 y8 y9 y10))
 | 0=>⟨fun _ _ _ _ _ _ r h=>by simp [psalteryref11_Put.j0] at h,fun _ _ _ _ _ _ _ _ r h=>by simp [psalteryref11_Put.l0] at h,fun _ _ _ _ _ _ _ _ _ r h=>by simp [psalteryref11_Put.j3] at h,fun _ _ _ _ _ _ _ _ _ _ _ r h=>by simp [psalteryref11_Put.j2] at h⟩
 | k+1=>by
  obtain ⟨ih0,ih1,ih2,ih3⟩:=psalteryref11_Put.mono_l k
  refine ⟨?_, ?_, ?_, ?_⟩
  ·
   intro y0 y1 y2 y3 y4 y5
   unfold psalteryref11_Put.j0
   repeat' first
   | (with_reducible exact ih0 _ _ _ _ _ _)
   | (with_reducible exact ih1 _ _ _ _ _ _ _ _)
   | (with_reducible exact ih2 _ _ _ _ _ _ _ _ _)
   | (with_reducible exact ih3 _ _ _ _ _ _ _ _ _ _ _)
   | (with_reducible exact psalteryref05_Put.mono _ _ _ _ _ _)
   | (with_reducible exact psalteryref05_PutNum.mono _ _ _ _ _)
   | (with_reducible exact psalteryref11_Right.mono _ _)
   | (with_reducible exact LeO.refl _)
   | (with_reducible exact LeO.none _)
   | (with_reducible refine LeO.ite ?_ ?_)
   | (with_reducible refine LeO.bind ?_ (fun _ => ?_))
   | exact ih0 _ _ _ _ _ _
   | exact ih1 _ _ _ _ _ _ _ _
   | exact ih2 _ _ _ _ _ _ _ _ _
   | exact ih3 _ _ _ _ _ _ _ _ _ _ _
   | exact psalteryref05_Put.mono _ _ _ _ _ _
   | exact psalteryref05_PutNum.mono _ _ _ _ _
   | exact psalteryref11_Right.mono _ _
   | exact LeO.none _
   | refine LeO.ite ?_ ?_
   | refine LeO.bind ?_ (fun _ => ?_)
  ·
   intro y0 y1 y2 y3 y4 y5 y6 y7
   unfold psalteryref11_Put.l0
   repeat' first
   | (with_reducible exact ih0 _ _ _ _ _ _)
   | (with_reducible exact ih1 _ _ _ _ _ _ _ _)
   | (with_reducible exact ih2 _ _ _ _ _ _ _ _ _)
   | (with_reducible exact ih3 _ _ _ _ _ _ _ _ _ _ _)
   | (with_reducible exact psalteryref05_Put.mono _ _ _ _ _ _)
   | (with_reducible exact psalteryref05_PutNum.mono _ _ _ _ _)
   | (with_reducible exact psalteryref11_Right.mono _ _)
   | (with_reducible exact LeO.refl _)
   | (with_reducible exact LeO.none _)
   | (with_reducible refine LeO.ite ?_ ?_)
   | (with_reducible refine LeO.bind ?_ (fun _ => ?_))
   | exact ih0 _ _ _ _ _ _
   | exact ih1 _ _ _ _ _ _ _ _
   | exact ih2 _ _ _ _ _ _ _ _ _
   | exact ih3 _ _ _ _ _ _ _ _ _ _ _
   | exact psalteryref05_Put.mono _ _ _ _ _ _
   | exact psalteryref05_PutNum.mono _ _ _ _ _
   | exact psalteryref11_Right.mono _ _
   | exact LeO.none _
   | refine LeO.ite ?_ ?_
   | refine LeO.bind ?_ (fun _ => ?_)
  ·
   intro y0 y1 y2 y3 y4 y5 y6 y7 y8
   unfold psalteryref11_Put.j3
   repeat' first
   | (with_reducible exact ih0 _ _ _ _ _ _)
   | (with_reducible exact ih1 _ _ _ _ _ _ _ _)
   | (with_reducible exact ih2 _ _ _ _ _ _ _ _ _)
   | (with_reducible exact ih3 _ _ _ _ _ _ _ _ _ _ _)
   | (with_reducible exact psalteryref05_Put.mono _ _ _ _ _ _)
   | (with_reducible exact psalteryref05_PutNum.mono _ _ _ _ _)
   | (with_reducible exact psalteryref11_Right.mono _ _)
   | (with_reducible exact LeO.refl _)
   | (with_reducible exact LeO.none _)
   | (with_reducible refine LeO.ite ?_ ?_)
   | (with_reducible refine LeO.bind ?_ (fun _ => ?_))
   | exact ih0 _ _ _ _ _ _
   | exact ih1 _ _ _ _ _ _ _ _
   | exact ih2 _ _ _ _ _ _ _ _ _
   | exact ih3 _ _ _ _ _ _ _ _ _ _ _
   | exact psalteryref05_Put.mono _ _ _ _ _ _
   | exact psalteryref05_PutNum.mono _ _ _ _ _
   | exact psalteryref11_Right.mono _ _
   | exact LeO.none _
   | refine LeO.ite ?_ ?_
   | refine LeO.bind ?_ (fun _ => ?_)
  ·
   intro y0 y1 y2 y3 y4 y5 y6 y7 y8 y9 y10
   unfold psalteryref11_Put.j2
   repeat' first
   | (with_reducible exact ih0 _ _ _ _ _ _)
   | (with_reducible exact ih1 _ _ _ _ _ _ _ _)
   | (with_reducible exact ih2 _ _ _ _ _ _ _ _ _)
   | (with_reducible exact ih3 _ _ _ _ _ _ _ _ _ _ _)
   | (with_reducible exact psalteryref05_Put.mono _ _ _ _ _ _)
   | (with_reducible exact psalteryref05_PutNum.mono _ _ _ _ _)
   | (with_reducible exact psalteryref11_Right.mono _ _)
   | (with_reducible exact LeO.refl _)
   | (with_reducible exact LeO.none _)
   | (with_reducible refine LeO.ite ?_ ?_)
   | (with_reducible refine LeO.bind ?_ (fun _ => ?_))
   | exact ih0 _ _ _ _ _ _
   | exact ih1 _ _ _ _ _ _ _ _
   | exact ih2 _ _ _ _ _ _ _ _ _
   | exact ih3 _ _ _ _ _ _ _ _ _ _ _
   | exact psalteryref05_Put.mono _ _ _ _ _ _
   | exact psalteryref05_PutNum.mono _ _ _ _ _
   | exact psalteryref11_Right.mono _ _
   | exact LeO.none _
   | refine LeO.ite ?_ ?_
   | refine LeO.bind ?_ (fun _ => ?_)
theorem psalteryref11_Put.mono : ∀ a0 a1 a2 a3 a4 k,LeO (psalteryref11_Put.f k a0 a1 a2 a3 a4) (psalteryref11_Put.f (k+1) a0 a1 a2 a3 a4):=by
 intro a0 a1 a2 a3 a4 k
 obtain ⟨ih0,ih1,ih2,ih3⟩:=psalteryref11_Put.mono_l k
 unfold psalteryref11_Put.f
 repeat' first
   | (with_reducible exact ih0 _ _ _ _ _ _)
   | (with_reducible exact ih1 _ _ _ _ _ _ _ _)
   | (with_reducible exact ih2 _ _ _ _ _ _ _ _ _)
   | (with_reducible exact ih3 _ _ _ _ _ _ _ _ _ _ _)
   | (with_reducible exact psalteryref05_Put.mono _ _ _ _ _ _)
   | (with_reducible exact psalteryref05_PutNum.mono _ _ _ _ _)
   | (with_reducible exact psalteryref11_Right.mono _ _)
   | (with_reducible exact LeO.refl _)
   | (with_reducible exact LeO.none _)
   | (with_reducible refine LeO.ite ?_ ?_)
   | (with_reducible refine LeO.bind ?_ (fun _ => ?_))
   | exact ih0 _ _ _ _ _ _
   | exact ih1 _ _ _ _ _ _ _ _
   | exact ih2 _ _ _ _ _ _ _ _ _
   | exact ih3 _ _ _ _ _ _ _ _ _ _ _
   | exact psalteryref05_Put.mono _ _ _ _ _ _
   | exact psalteryref05_PutNum.mono _ _ _ _ _
   | exact psalteryref11_Right.mono _ _
   | exact LeO.none _
   | refine LeO.ite ?_ ?_
   | refine LeO.bind ?_ (fun _ => ?_)
def psalteryref11_Put.T10 : Bool × List (List Nat × List Nat):=(true, [([], []),([], []),([0,1], [0,1]),([2], [2]),([], []),([], []),([4,5], [4,5]),([6], [6]),([3,7], [3,7]),([8], [8]),([9,0,1,2,3,4,5,6,7,8,9], [9])])
def psalteryref11_Put.B10 : List Nat := [0,0,3,7,0,0,48,112,255,511,1023]
theorem psalteryref11_Put.tab10 : rtab .any (opsOf Try.f44 10)=psalteryref11_Put.T10:=by kernel_rfl
theorem psalteryref11_Put.bits10 : waitsOk psalteryref11_Put.T10.2 psalteryref11_Put.B10=true:=by kernel_rfl
def psalteryref11_Put.T18 : Bool × List (List Nat × List Nat):=(true, [([], []),([], []),([], []),([1,2], [1,2]),([3], [3]),([4], [4]),([0,5], [0,5]),([6], [6]),([7], [7]),([7], [7]),([8,6,0,1,2,3,4,5,6,7,8], [8]),([9,10,0,1,2,3,4,5,6,7,8,9,10], [9])])
def psalteryref11_Put.B18 : List Nat := [0,0,0,6,14,30,63,127,255,255,511,2047]
theorem psalteryref11_Put.tab18 : rtab .any (opsOf Try.f44 18)=psalteryref11_Put.T18:=by kernel_rfl
theorem psalteryref11_Put.bits18 : waitsOk psalteryref11_Put.T18.2 psalteryref11_Put.B18=true:=by kernel_rfl
set_option maxHeartbeats 8000000 in
set_option maxRecDepth 100000 in
theorem psalteryref11_Put.calls (k : Nat) (a0_0 : Int) (P0_1_ : Nat→Prop) (A0_1 : Option Addr) (c0_1 : Nat) (l0_1 : List Int) (A1 : Option Addr) (c1 : Nat) (l1 : List Int) (A2 : Option Addr) (c2 : Nat) (l2 : List Int) (a3 : Bool) (r1 : Int) (r2 : List Int) (r3 : Int) (w : World) (hs0_1 : Kd.V (Kd.int .i64) 3 w w.heap.size (fun k_=>P0_1_ k_) (.slice A0_1 l0_1.length c0_1) l0_1) (hr1 : Kd.C (Kd.int .i64) w A1 l1.length l1) (hc1 : l1.length≤c1) (hr2 : Kd.C (Kd.int .i64) w A2 l2.length l2) (hc2 : l2.length≤c2) (h : psalteryref11_Put.f k a0_0 l0_1 l1 l2 a3=some (r1,r2,r3)) :
  Calls Try.prog 44 #[.agg #[.int .u64 a0_0, .slice A0_1 l0_1.length c0_1], .slice A1 l1.length c1, .slice A2 l2.length c2, .bool a3] w fun e w' => ∃ v1_ : Value,e=.returned (.tuple #[.agg #[.int .u64 r1,v1_], .int .i64 r3])∧Kd.V (Kd.int .i64) 3 w' w.heap.size (fun k_=>(P0_1_ k_∨w.heap.size≤k_)) v1_ r2∧Below w.heap.size w w' := by
 have hu33:=Try.underlying33
 have HO0_1:=zm (show Kd.V (Kd.int .i64) 3 w w.heap.size (fun k_=>(P0_1_ k_∨w.heap.size≤k_)) (.slice A0_1 l0_1.length c0_1) l0_1 from zy hs0_1 (fun k_ hk => .inl hk))
 have HR1:=zm hr1;have HC1:=zm hc1;clear hr1 hc1;have HR2:=zm hr2;have HC2:=zm hc2;clear hr2 hc2;have HB:=zm (Below.refl w.heap.size w)
 have H : ((psalteryref11_Right.f k l1).bind fun t821=>(if t821=true then (if a3=true then (psalteryref11_Put.j0 k l1 l2 a3 false a0_0 l0_1) else ((psalteryref11_Right.f k l2).bind fun t822=>(psalteryref11_Put.j0 k l1 l2 a3 (!t822) a0_0 l0_1))) else (psalteryref11_Put.j0 k l1 l2 a3 true a0_0 l0_1)))=some (r1,r2,r3):=h
 clear h;have HC5:=zm H;clear H
 go_enter Try.func44,Try.ntmps44
 go_upto_region 1 with (first|((with_reducible refine gate_dst (N:=4) rfl ?_);refine box_event ?hg (N:=4) ?hd (cs := #[.int .u64 a0_0, .slice A0_1 l0_1.length c0_1]) (t:=33) ?hr ?_;(case hd=>rfl);(case hg=>rfl);(case hr=>first|(go_simp;done)|(go_simp;rfl));intro gb819 hg w6 hbox hb;have n0_:=zm (Kd.V_below (Kd.V_elderB (by (with_reducible repeat (first|apply zA|apply zB|apply zC));exact HO0_1.out) gb819 (Nat.le_of_eq hg.symm)) hb);have n1_:=zm (zJ (by repeat (first|(with_reducible first|exact HB.out|apply ze|apply zd|apply zf)|exact HB.out)) hb);have n2_:=zm (hbox);have n3_:=zm ((by rw [hg];exact (zE (by repeat (first|(with_reducible first|exact HB.out|apply ze|apply zd|apply zf)|exact HB.out))) : w.heap.size≤gb819));have n4_:=zm ((by rw [hg];exact (zE (by repeat (first|(with_reducible first|exact HB.out|apply ze|apply zd|apply zf)|exact HB.out))) : w.heap.size≤gb819));clear HO0_1;clear HB;have HO0_1:=n0_;have HB:=n1_;have BK819:=n2_;have GW819:=n3_;have GE819:=n4_;clear n0_ n1_ n2_ n3_ n4_;clear hb hbox hg)|((with_reducible refine gate_dst (N:=8) rfl ?_);refine box_event ?hg (N:=8) ?hd (cs := #[.int .u64 0, .slice none 0 0]) (t:=33) ?hr ?_;(case hd=>rfl);(case hg=>rfl);(case hr=>first|(go_simp;done)|(go_simp;rfl));intro gb820 hg w7 hbox hb;have n0_:=zm (Kd.V_below (Kd.V_elderB (by (with_reducible repeat (first|apply zA|apply zB|apply zC));exact HO0_1.out) gb820 (Nat.le_of_eq hg.symm)) hb);have n1_:=zm (zF (g:=gb819) (o:=.cells #[.int .u64 a0_0, .slice A0_1 l0_1.length c0_1] 33 (0,0)) (by (with_reducible repeat (first|refine zh ?_ _|refine zj ?_|refine zi ?_ _));exact BK819.out) hb);have n2_:=zm (zJ (by repeat (first|(with_reducible first|exact HB.out|apply ze|apply zd|apply zf|refine zk ?_ GE819.out)|exact HB.out)) hb);have n3_:=zm (hbox);have n4_:=zm ((by rw [hg];exact (zE (by repeat (first|(with_reducible first|exact HB.out|apply ze|apply zd|apply zf|refine zk ?_ GE819.out)|exact HB.out))) : w.heap.size≤gb820));have n5_:=zm ((by rw [hg];exact (zE (by repeat (first|(with_reducible first|exact HB.out|apply ze|apply zd|apply zf|refine zk ?_ GE819.out)|exact HB.out))) : w.heap.size≤gb820));have n6_:=zm ((by rw [hg];exact zn (zD (g:=gb819) (o:=.cells #[.int .u64 a0_0, .slice A0_1 l0_1.length c0_1] 33 (0,0)) (by (with_reducible repeat (first|refine zh ?_ _|refine zj ?_|refine zi ?_ _));exact BK819.out)) : gb819≠gb820));have n7_:=zm ((by rw [hg];exact zg (zD (g:=gb819) (o:=.cells #[.int .u64 a0_0, .slice A0_1 l0_1.length c0_1] 33 (0,0)) (by (with_reducible repeat (first|refine zh ?_ _|refine zj ?_|refine zi ?_ _));exact BK819.out)) : gb820≠gb819));clear HO0_1;clear BK819;clear HB;have HO0_1:=n0_;have BK819:=n1_;have HB:=n2_;have BK820:=n3_;have GW820:=n4_;have GE820:=n5_;have NB819_820:=n6_;have NB820_819:=n7_;clear n0_ n1_ n2_ n3_ n4_ n5_ n6_ n7_;clear hb hbox hg))
 (try simp only [Act.put,List.setIfInBounds_toArray,List.set_cons_zero,List.set_cons_succ])
 go_cut [26] (fun v26 wc => ∃ (kq : Nat) (x26_4 : Bool),v26=.bool x26_4∧Aside0 (psalteryref11_Put.j0 kq l1 l2 a3 x26_4 a0_0 l0_1=some (r1,r2,r3))∧Aside0 (kq≤k)∧Aside0 (Kd.V (Kd.int .i64) 3 wc w.heap.size (fun k_=>(P0_1_ k_∨w.heap.size≤k_)∧k_≠gb819∧k_≠gb820) (.slice A0_1 l0_1.length c0_1) l0_1)∧Aside0 (wc.heap[gb819]? = some (.cells #[.int .u64 a0_0,(.slice A0_1 l0_1.length c0_1)] 33 (0,0)))∧Aside0 (wc.heap[gb820]? = some (.cells #[.int .u64 0,(.slice none 0 0)] 33 (0,0)))∧Aside0 (Below w.heap.size w wc))
 case first =>
  have H:=HC5.out;clear HC5
  replace H:=Option.bind_eq_some_iff.mp H
  obtain ⟨t821,A80,H⟩:=H
  replace H : (if t821=true then (if a3=true then (psalteryref11_Put.j0 k l1 l2 a3 false a0_0 l0_1) else ((psalteryref11_Right.f k l2).bind fun t822=>(psalteryref11_Put.j0 k l1 l2 a3 (!t822) a0_0 l0_1))) else (psalteryref11_Put.j0 k l1 l2 a3 true a0_0 l0_1))=some (r1,r2,r3):=H
  have A8:=zm A80;clear A80
  by_cases c9 : t821=true
  ·
   subst c9
   have H1 : (if a3=true then (psalteryref11_Put.j0 k l1 l2 a3 false a0_0 l0_1) else ((psalteryref11_Right.f k l2).bind fun t822=>(psalteryref11_Put.j0 k l1 l2 a3 (!t822) a0_0 l0_1)))=some (r1,r2,r3):=by rw [if_pos rfl] at H;exact H
   clear H;have H:=H1;clear H1
   by_cases c10 : a3=true
   ·
    subst c10
    have H1 : (psalteryref11_Put.j0 k l1 l2 true false a0_0 l0_1)=some (r1,r2,r3):=by rw [if_pos rfl] at H;exact H
    clear H;have H:=H1;clear H1
    have H' := zm H
    clear H
    go_wp2_with (first|((with_reducible refine gate_callee (f:=46) rfl ?_);refine goesL_ (some 16) rfl rfl Try.func46 (by kernel_rfl) rfl #[.slice A1 l1.length c1] rfl (by (try simp only [List.map_toArray,List.map_cons,List.map_nil]);first|done|rfl|(simp only [List.length_drop,List.length_take];rfl)) ?_;(with_reducible refine (psalteryref11_Right.calls k _ _ l1 true _ ?side1 ?side2 A8.out).mono ?_);(case side1=>repeat (first|exact (Kd.C_below HR1.out HB.out)|(with_reducible refine Kd.C_alloc ?_ _)|(with_reducible refine Kd.C_drewN ?_ _)|(with_reducible refine Kd.C_drew ?_)));(case side2=>exact HC1.out);rintro e w' ⟨rfl,⟨nd,rfl⟩⟩;refine ⟨_,rfl, ?_⟩))
    go_meet
    case rel=>exact ⟨_,(false),(by first|rfl|(simp;done)|(simp [*];done)),H',⟨by first|omega|exact Nat.le_refl _⟩,⟨by (with_reducible repeat (first|apply zA|apply zB|apply zC));exact zy HO0_1.out (fun _ hk=>⟨hk.1.1,⟨hk.1.2,hk.2⟩⟩)⟩,⟨by (with_reducible repeat (first|refine zh ?_ _|refine zj ?_|refine zi ?_ _));exact BK819.out⟩,⟨by (with_reducible repeat (first|refine zh ?_ _|refine zj ?_|refine zi ?_ _));exact BK820.out⟩,⟨by repeat (first|(with_reducible first|exact HB.out|apply ze|apply zd|apply zf|refine zk ?_ GE819.out|refine zk ?_ GE820.out)|exact HB.out)⟩⟩
   ·
    replace c10:=Bool.eq_false_iff.mpr c10
    subst c10
    have H1 : ((psalteryref11_Right.f k l2).bind fun t822=>(psalteryref11_Put.j0 k l1 l2 false (!t822) a0_0 l0_1))=some (r1,r2,r3):=by rw [if_neg (show ¬ (false=true) by decide)] at H;exact H
    clear H;have H:=H1;clear H1
    replace H:=Option.bind_eq_some_iff.mp H
    obtain ⟨t822,A110,H⟩:=H
    replace H : (psalteryref11_Put.j0 k l1 l2 false (!t822) a0_0 l0_1)=some (r1,r2,r3):=H
    have A11:=zm A110;clear A110
    have H' := zm H
    clear H
    go_wp2_with (first|((with_reducible refine gate_callee (f:=46) rfl ?_);refine goesL_ (some 16) rfl rfl Try.func46 (by kernel_rfl) rfl #[.slice A1 l1.length c1] rfl (by (try simp only [List.map_toArray,List.map_cons,List.map_nil]);first|done|rfl|(simp only [List.length_drop,List.length_take];rfl)) ?_;(with_reducible refine (psalteryref11_Right.calls k _ _ l1 true _ ?side1 ?side2 A8.out).mono ?_);(case side1=>repeat (first|exact (Kd.C_below HR1.out HB.out)|(with_reducible refine Kd.C_alloc ?_ _)|(with_reducible refine Kd.C_drewN ?_ _)|(with_reducible refine Kd.C_drew ?_)));(case side2=>exact HC1.out);rintro e w' ⟨rfl,⟨nd,rfl⟩⟩;refine ⟨_,rfl, ?_⟩)|(go_at_call 46;(with_reducible refine (psalteryref11_Right.calls k _ _ l2 t822 _ ?side1 ?side2 A11.out).mono ?_);(case side1=>repeat (first|exact (Kd.C_below HR2.out (by repeat (first|(with_reducible first|exact HB.out|apply ze|apply zd|apply zf|refine zk ?_ GE819.out|refine zk ?_ GE820.out)|exact HB.out)))|(with_reducible refine Kd.C_alloc ?_ _)|(with_reducible refine Kd.C_drewN ?_ _)|(with_reducible refine Kd.C_drew ?_)));(case side2=>exact HC2.out);rintro e w' ⟨rfl,⟨nd,rfl⟩⟩))
    go_meet
    case rel=>exact ⟨_,(!t822),(by first|rfl|(simp;done)|(simp [*];done)),H',⟨by first|omega|exact Nat.le_refl _⟩,⟨by (with_reducible repeat (first|apply zA|apply zB|apply zC));exact zy HO0_1.out (fun _ hk=>⟨hk.1.1,⟨hk.1.2,hk.2⟩⟩)⟩,⟨by (with_reducible repeat (first|refine zh ?_ _|refine zj ?_|refine zi ?_ _));exact BK819.out⟩,⟨by (with_reducible repeat (first|refine zh ?_ _|refine zj ?_|refine zi ?_ _));exact BK820.out⟩,⟨by repeat (first|(with_reducible first|exact HB.out|apply ze|apply zd|apply zf|refine zk ?_ GE819.out|refine zk ?_ GE820.out)|exact HB.out)⟩⟩
  ·
   replace c9:=Bool.eq_false_iff.mpr c9
   subst c9
   have H1 : (psalteryref11_Put.j0 k l1 l2 a3 true a0_0 l0_1)=some (r1,r2,r3):=by rw [if_neg (show ¬ (false=true) by decide)] at H;exact H
   clear H;have H:=H1;clear H1
   have H' := zm H
   clear H
   go_wp2_with (first|((with_reducible refine gate_callee (f:=46) rfl ?_);refine goesL_ (some 16) rfl rfl Try.func46 (by kernel_rfl) rfl #[.slice A1 l1.length c1] rfl (by (try simp only [List.map_toArray,List.map_cons,List.map_nil]);first|done|rfl|(simp only [List.length_drop,List.length_take];rfl)) ?_;(with_reducible refine (psalteryref11_Right.calls k _ _ l1 false _ ?side1 ?side2 A8.out).mono ?_);(case side1=>repeat (first|exact (Kd.C_below HR1.out HB.out)|(with_reducible refine Kd.C_alloc ?_ _)|(with_reducible refine Kd.C_drewN ?_ _)|(with_reducible refine Kd.C_drew ?_)));(case side2=>exact HC1.out);rintro e w' ⟨rfl,⟨nd,rfl⟩⟩;refine ⟨_,rfl, ?_⟩))
   go_meet
   case rel=>exact ⟨_,(true),(by first|rfl|(simp;done)|(simp [*];done)),H',⟨by first|omega|exact Nat.le_refl _⟩,⟨by (with_reducible repeat (first|apply zA|apply zB|apply zC));exact zy HO0_1.out (fun _ hk=>⟨hk.1.1,⟨hk.1.2,hk.2⟩⟩)⟩,⟨by (with_reducible repeat (first|refine zh ?_ _|refine zj ?_|refine zi ?_ _));exact BK819.out⟩,⟨by (with_reducible repeat (first|refine zh ?_ _|refine zj ?_|refine zi ?_ _));exact BK820.out⟩,⟨by repeat (first|(with_reducible first|exact HB.out|apply ze|apply zd|apply zf|refine zk ?_ GE819.out|refine zk ?_ GE820.out)|exact HB.out)⟩⟩
 case rest =>
  clear HC5
  try clear c1
  try clear c2
  try clear p2
  try clear c4
  try clear c9
  try clear c10
  obtain ⟨kq,x26_4,rfl,HA,HJ4,HO_820001,BK819,BK820,HB⟩:=hcut
  cases kq with
  | zero=>exact absurd HA.out (by simp [psalteryref11_Put.j0])
  | succ kj4 =>
   have H:=HA.out;clear HA
   simp only [psalteryref11_Put.j0] at H
   by_cases c12 : x26_4=true
   ·
    subst c12
    have H1 : (some (a0_0,l0_1,1))=some (r1,r2,r3):=by rw [if_pos rfl] at H;exact H
    clear H;have H:=H1;clear H1
    simp only [Option.some.injEq,Prod.mk.injEq] at H
    obtain ⟨rfl,rfl,rfl⟩:=H
    have hnb13:=NB819_820.out;have hnc13:=NB820_819.out
    have hcz14_0 : wc.cell? ⟨gb819,0,none⟩=some (.int .u64 a0_0):=(zs BK819.out 0).trans rfl
    have hcz14_1 : wc.cell? ⟨gb819,1,none⟩=some (.slice A0_1 l0_1.length c0_1):=(zs BK819.out 1).trans rfl
    have hfz14_0:=zx BK819.out 0
    have hfz14_1:=zx BK819.out 1
    have hcz15_0 : wc.cell? ⟨gb820,0,none⟩=some (.int .u64 0):=(zs BK820.out 0).trans rfl
    have hcz15_1 : wc.cell? ⟨gb820,1,none⟩=some (.slice none 0 0):=(zs BK820.out 1).trans rfl
    have hfz15_0:=zx BK820.out 0
    have hfz15_1:=zx BK820.out 1
    go_wp2
    refine bodyPost_ret (results_ct rfl _ _ gb820 33 #[.int .u64 a0_0, .slice A0_1 l0_1.length c0_1] (0,0) _ rfl (by (with_reducible repeat (first|refine zh ?_ _|refine zj ?_|refine zi ?_ _));refine zw (cs := #[.int .u64 a0_0, .slice none 0 0]) ?_ 1 _ rfl;(with_reducible repeat (first|refine zh ?_ _|refine zj ?_|refine zi ?_ _));refine zw (cs := #[.int .u64 0, .slice none 0 0]) ?_ 0 _ rfl;(with_reducible repeat (first|refine zh ?_ _|refine zj ?_|refine zi ?_ _));exact BK820.out) Try.underlying33 rfl (by kernel_rfl)) rfl ?_
    exact ⟨_,by first|rfl|(simp [errW_none,errW_some] <;> rfl)|(simp [*,errW_none,errW_some] <;> rfl),by (with_reducible repeat (first|apply zA|apply zB|apply zC));exact zy (zI (p:=⟨gb820,1,none⟩) (zI (p:=⟨gb820,0,none⟩) (zy HO_820001.out (fun k_ hk=>(⟨hk,hk.2.2⟩ : _∧k_≠gb820))) (fun _ hk=>hk.2) (.int .u64 a0_0)) (fun _ hk=>hk.2) (.slice A0_1 l0_1.length c0_1)) (fun _ hk=>hk.1.1),by repeat (first|(with_reducible first|exact HB.out|apply ze|apply zd|apply zf|refine zk ?_ GE819.out|refine zk ?_ GE820.out)|exact HB.out)⟩
   ·
    replace c12:=Bool.eq_false_iff.mpr c12
    subst c12
    have H1 : (psalteryref11_Put.l0 kj4 l1 l2 a3 0 a0_0 l0_1 a0_0 l0_1)=some (r1,r2,r3):=by rw [if_neg (show ¬ (false=true) by decide)] at H;exact H
    clear H;have H:=H1;clear H1
    have H' := zm H
    clear H;have hnb16:=NB819_820.out;have hnc16:=NB820_819.out
    have hcz17_0 : wc.cell? ⟨gb819,0,none⟩=some (.int .u64 a0_0):=(zs BK819.out 0).trans rfl
    have hcz17_1 : wc.cell? ⟨gb819,1,none⟩=some (.slice A0_1 l0_1.length c0_1):=(zs BK819.out 1).trans rfl
    have hfz17_0:=zx BK819.out 0
    have hfz17_1:=zx BK819.out 1
    go_wp2_with (first|((with_reducible refine gate_dst (N:=10) rfl ?_);refine box_event ?hg (N:=10) ?hd (cs := #[.int .u64 0, .slice none 0 0]) (t:=33) ?hr ?_;(case hd=>rfl);(case hg=>rfl);(case hr=>first|(go_simp;done)|(go_simp;rfl));intro gb823 hg w18 hbox hb;have n0_:=zm (Kd.V_below (Kd.V_elderB (by (with_reducible repeat (first|apply zA|apply zB|apply zC));exact HO_820001.out) gb823 (Nat.le_of_eq hg.symm)) hb);have n1_:=zm (zF (g:=gb819) (o:=.cells #[.int .u64 a0_0, .slice A0_1 l0_1.length c0_1] 33 (0,0)) (by (with_reducible repeat (first|refine zh ?_ _|refine zj ?_|refine zi ?_ _));exact BK819.out) hb);have n2_:=zm (zF (g:=gb820) (o:=.cells #[.int .u64 0, .slice none 0 0] 33 (0,0)) (by (with_reducible repeat (first|refine zh ?_ _|refine zj ?_|refine zi ?_ _));exact BK820.out) hb);have n3_:=zm (zJ (by repeat (first|(with_reducible first|exact HB.out|apply ze|apply zd|apply zf|refine zk ?_ GE819.out|refine zk ?_ GE820.out)|exact HB.out)) hb);have n4_:=zm (hbox);have n5_:=zm ((by rw [hg];exact (zE (by repeat (first|(with_reducible first|exact HB.out|apply ze|apply zd|apply zf|refine zk ?_ GE819.out|refine zk ?_ GE820.out)|exact HB.out))) : w.heap.size≤gb823));have n6_:=zm ((by rw [hg];exact (zE (by repeat (first|(with_reducible first|exact HB.out|apply ze|apply zd|apply zf|refine zk ?_ GE819.out|refine zk ?_ GE820.out)|exact HB.out))) : w.heap.size≤gb823));have n7_:=zm ((by rw [hg];exact zn (zD (g:=gb819) (o:=.cells #[.int .u64 a0_0, .slice A0_1 l0_1.length c0_1] 33 (0,0)) (by (with_reducible repeat (first|refine zh ?_ _|refine zj ?_|refine zi ?_ _));exact BK819.out)) : gb819≠gb823));have n8_:=zm ((by rw [hg];exact zg (zD (g:=gb819) (o:=.cells #[.int .u64 a0_0, .slice A0_1 l0_1.length c0_1] 33 (0,0)) (by (with_reducible repeat (first|refine zh ?_ _|refine zj ?_|refine zi ?_ _));exact BK819.out)) : gb823≠gb819));have n9_:=zm ((by rw [hg];exact zn (zD (g:=gb820) (o:=.cells #[.int .u64 0, .slice none 0 0] 33 (0,0)) (by (with_reducible repeat (first|refine zh ?_ _|refine zj ?_|refine zi ?_ _));exact BK820.out)) : gb820≠gb823));have n10_:=zm ((by rw [hg];exact zg (zD (g:=gb820) (o:=.cells #[.int .u64 0, .slice none 0 0] 33 (0,0)) (by (with_reducible repeat (first|refine zh ?_ _|refine zj ?_|refine zi ?_ _));exact BK820.out)) : gb823≠gb820));clear HO_820001;clear BK819;clear BK820;clear HB;have HO_820001:=n0_;have BK819:=n1_;have BK820:=n2_;have HB:=n3_;have BK823:=n4_;have GW823:=n5_;have GE823:=n6_;have NB819_823:=n7_;have NB823_819:=n8_;have NB820_823:=n9_;have NB823_820:=n10_;clear n0_ n1_ n2_ n3_ n4_ n5_ n6_ n7_ n8_ n9_ n10_;clear hb hbox hg;have hnb19:=NB823_819.out;have hnc19:=NB819_823.out;have hnb20:=NB823_820.out;have hnc20:=NB820_823.out;have hcz21_0 : w18.cell? ⟨gb823,0,none⟩=some (.int .u64 0):=(zs BK823.out 0).trans rfl;have hcz21_1 : w18.cell? ⟨gb823,1,none⟩=some (.slice none 0 0):=(zs BK823.out 1).trans rfl;have hfz21_0:=zx BK823.out 0;have hfz21_1:=zx BK823.out 1))
    go_loopg [11] kj4 (fun kq v11 w' => ∃ (x11_2 : Int) (x821000_2 : Int) (x824000_2 : Int) (x824001_2 : List Int) (u824001 : Value),v11=.int .i64 x11_2∧Aside0 (psalteryref11_Put.l0 kq l1 l2 a3 x11_2 a0_0 l0_1 x824000_2 x824001_2=some (r1,r2,r3))∧Aside0 (kq≤kj4)∧Aside0 (Kd.V (Kd.int .i64) 3 w' w.heap.size (fun k_=>(P0_1_ k_∨w.heap.size≤k_)∧k_≠gb819∧k_≠gb820∧k_≠gb823) (.slice A0_1 l0_1.length c0_1) l0_1)∧Aside0 (Kd.V (Kd.int .i64) 3 w' w.heap.size (fun k_=>(P0_1_ k_∨w.heap.size≤k_)∧k_≠gb819∧k_≠gb820∧k_≠gb823) u824001 x824001_2)∧Aside0 (w'.heap[gb819]? = some (.cells #[.int .u64 a0_0,(.slice A0_1 l0_1.length c0_1)] 33 (0,0)))∧Aside0 (w'.heap[gb820]? = some (.cells #[.int .u64 x821000_2,(.slice none 0 0)] 33 (0,0)))∧Aside0 (w'.heap[gb823]? = some (.cells #[.int .u64 x824000_2,u824001] 33 (0,0)))∧Aside0 (Below w.heap.size w w'))
    case atStart=>exact ⟨(0),(0),(a0_0),(l0_1),(.slice A0_1 l0_1.length c0_1),(by first|rfl|(simp;done)|(simp [*];done)),H',⟨Nat.le_refl _⟩,⟨by (with_reducible repeat (first|apply zA|apply zB|apply zC));exact zy (zI (p:=⟨gb823,1,none⟩) (zI (p:=⟨gb823,0,none⟩) (zy HO_820001.out (fun k_ hk=>(⟨hk,hk.2⟩ : _∧k_≠gb823))) (fun _ hk=>hk.2) (.int .u64 a0_0)) (fun _ hk=>hk.2) (.slice A0_1 l0_1.length c0_1)) (fun _ hk=>⟨hk.1.1.1,⟨hk.1.1.2.1,⟨hk.1.1.2.2,hk.1.2⟩⟩⟩)⟩,⟨by (with_reducible repeat (first|apply zA|apply zB|apply zC));exact zy (zI (p:=⟨gb823,1,none⟩) (zI (p:=⟨gb823,0,none⟩) (zy HO_820001.out (fun k_ hk=>(⟨hk,hk.2⟩ : _∧k_≠gb823))) (fun _ hk=>hk.2) (.int .u64 a0_0)) (fun _ hk=>hk.2) (.slice A0_1 l0_1.length c0_1)) (fun _ hk=>⟨hk.1.1.1,⟨hk.1.1.2.1,⟨hk.1.1.2.2,hk.1.2⟩⟩⟩)⟩,⟨by (with_reducible repeat (first|refine zh ?_ _|refine zj ?_|refine zi ?_ _|refine zv ?_ NB819_823.out _));exact BK819.out⟩,⟨by (with_reducible repeat (first|refine zh ?_ _|refine zj ?_|refine zi ?_ _|refine zv ?_ NB820_823.out _));exact BK820.out⟩,⟨by (with_reducible repeat (first|refine zh ?_ _|refine zj ?_|refine zi ?_ _));refine zw (cs := #[.int .u64 a0_0, .slice none 0 0]) ?_ 1 _ rfl;(with_reducible repeat (first|refine zh ?_ _|refine zj ?_|refine zi ?_ _));refine zw (cs := #[.int .u64 0, .slice none 0 0]) ?_ 0 _ rfl;(with_reducible repeat (first|refine zh ?_ _|refine zj ?_|refine zi ?_ _));exact BK823.out⟩,⟨by repeat (first|(with_reducible first|exact HB.out|apply ze|apply zd|apply zf|refine zk ?_ GE819.out|refine zk ?_ GE820.out|refine zk ?_ GE823.out)|exact HB.out)⟩⟩
    case round =>
     clear H'
     try clear c1
     try clear c2
     try clear p2
     try clear c4
     try clear c9
     try clear c10
     try clear c12
     try clear c13
     try clear c16
     try clear c19
     try clear c20
     try clear hcz14_0
     try clear hcz14_1
     try clear hcz15_0
     try clear hcz15_1
     try clear hcz17_0
     try clear hcz17_1
     try clear hcz21_0
     try clear hcz21_1
     try clear hfz14_0
     try clear hfz14_1
     try clear hfz15_0
     try clear hfz15_1
     try clear hfz17_0
     try clear hfz17_1
     try clear hfz21_0
     try clear hfz21_1
     try clear p2
     obtain ⟨x11_2,x821000_2,x824000_2,x824001_2,u824001,rfl,HA,HK2,HO_820001,HO_824001,BK819,BK820,BK823,HB⟩:=hrel
     cases gk with
     | zero=>exact absurd HA.out (by simp [psalteryref11_Put.l0])
     | succ k2 =>
      have H:=HA.out;clear HA
      simp only [psalteryref11_Put.l0] at H
      by_cases c22 : x11_2 < 5
      ·
       rw [if_pos c22] at H
       have c22b0 : decide (x11_2 < 5)=true:=decide_eq_true c22
       clear c22;have HC23:=zm H;clear H
       go_upto_if 35 with (fail)
       go_cut [13] (fun v13 wc => ∃ (kq : Nat) (x13_22 : Bool) (x821000_22 : Int) (x824000_22 : Int) (x824001_22 : List Int) (u824001 : Value),v13=.bool x13_22∧Aside0 (psalteryref11_Put.j3 kq l1 l2 a3 x11_2 x13_22 a0_0 l0_1 x824000_22 x824001_22=some (r1,r2,r3))∧Aside0 (kq≤k2)∧Aside0 (Kd.V (Kd.int .i64) 3 wc w.heap.size (fun k_=>(P0_1_ k_∨w.heap.size≤k_)∧k_≠gb819∧k_≠gb820∧k_≠gb823) (.slice A0_1 l0_1.length c0_1) l0_1)∧Aside0 (Kd.V (Kd.int .i64) 3 wc w.heap.size (fun k_=>(P0_1_ k_∨w.heap.size≤k_)∧k_≠gb819∧k_≠gb820∧k_≠gb823) u824001 x824001_22)∧Aside0 (wc.heap[gb819]? = some (.cells #[.int .u64 a0_0,(.slice A0_1 l0_1.length c0_1)] 33 (0,0)))∧Aside0 (wc.heap[gb820]? = some (.cells #[.int .u64 x821000_22,(.slice none 0 0)] 33 (0,0)))∧Aside0 (wc.heap[gb823]? = some (.cells #[.int .u64 x824000_22,u824001] 33 (0,0)))∧Aside0 (Below w.heap.size w wc))
       case first =>
        have H:=HC23.out;clear HC23
        by_cases c24 : a3=true
        ·
         subst c24
         have H1 : (psalteryref11_Put.j3 k2 l1 l2 true x11_2 true a0_0 l0_1 x824000_2 x824001_2)=some (r1,r2,r3):=by rw [if_pos rfl] at H;exact H
         clear H;have H:=H1;clear H1
         have H' := zm H
         clear H
         go_wp2
         go_meet
         case rel=>exact ⟨_,(true),(x821000_2),(x824000_2),(x824001_2),(u824001),(by first|rfl|(simp;done)|(simp [*];done)),H',⟨by have:=HJ4.out;have:=HK2.out;first|omega|exact Nat.le_refl _⟩,⟨by (with_reducible repeat (first|apply zA|apply zB|apply zC));exact HO_820001.out⟩,⟨by (with_reducible repeat (first|apply zA|apply zB|apply zC));exact HO_824001.out⟩,⟨by (with_reducible repeat (first|refine zh ?_ _|refine zj ?_|refine zi ?_ _));exact BK819.out⟩,⟨by (with_reducible repeat (first|refine zh ?_ _|refine zj ?_|refine zi ?_ _));exact BK820.out⟩,⟨by (with_reducible repeat (first|refine zh ?_ _|refine zj ?_|refine zi ?_ _));exact BK823.out⟩,⟨by repeat (first|(with_reducible first|exact HB.out|apply ze|apply zd|apply zf|refine zk ?_ GE819.out|refine zk ?_ GE820.out|refine zk ?_ GE823.out)|exact HB.out)⟩⟩
        ·
         replace c24:=Bool.eq_false_iff.mpr c24
         subst c24
         have H1 : (if 0≤x11_2 then (if x11_2 < (l1.length : Int) then (if x11_2 < (l2.length : Int) then (if (wrap64 ((wrap64 ((rd l1 x11_2) - (rd l2 x11_2)))+3)) < 0 then (psalteryref11_Put.j2 k2 l1 l2 false x11_2 false (wrap64 ((wrap64 ((rd l1 x11_2) - (rd l2 x11_2)))+3)) true a0_0 l0_1 x824000_2 x824001_2) else (psalteryref11_Put.j2 k2 l1 l2 false x11_2 false (wrap64 ((wrap64 ((rd l1 x11_2) - (rd l2 x11_2)))+3)) (decide ((wrap64 ((wrap64 ((rd l1 x11_2) - (rd l2 x11_2)))+3)) > 6)) a0_0 l0_1 x824000_2 x824001_2)) else (none)) else (none)) else (none))=some (r1,r2,r3):=by rw [if_neg (show ¬ (false=true) by decide)] at H;exact H
         clear H;have H:=H1;clear H1
         by_cases c25 : 0≤x11_2
         ·
          rw [if_pos c25] at H
          have c25b0 : decide (0≤x11_2)=true:=decide_eq_true c25
          clear c25
          (first|rw [c25b0]|(simp only [i64_w,i32_w];rw [c25b0])|skip)
          by_cases c26 : x11_2 < (l1.length : Int)
          ·
           rw [if_pos c26] at H
           have c26b0 : decide (x11_2 < (l1.length : Int))=true:=decide_eq_true c26
           clear c26
           by_cases c27 : x11_2 < (l2.length : Int)
           ·
            rw [if_pos c27] at H
            have c27b0 : decide (x11_2 < (l2.length : Int))=true:=decide_eq_true c27
            clear c27;have HC28:=zm H;clear H
            try go_wp2
            have n0_:=zm (zC HO_820001.out);have n1_:=zm (zC HO_824001.out);have n2_:=zm (zj BK819.out);have n3_:=zm (zj BK820.out);have n4_:=zm (zj BK823.out);have n5_:=zm (zf HB.out);clear HO_820001;clear HO_824001;clear BK819;clear BK820;clear BK823;clear HB;have HO_820001:=n0_;have HO_824001:=n1_;have BK819:=n2_;have BK820:=n3_;have BK823:=n4_;have HB:=n5_;clear n0_ n1_ n2_ n3_ n4_ n5_
            have p824 : 0≤(x11_2 : Int):=of_decide_eq_true (by first|(with_reducible assumption)|assumption)
            have q824 : x11_2 < (l1.length : Int):=of_decide_eq_true (by first|(with_reducible assumption)|assumption)
            obtain ⟨ad824,e824,hx824_0⟩:=Kd.at_int HR1.out x11_2 p824 q824
            have hw824_0:=hx824_0
            cases e824
            replace hx824_0:=(HB.out.cell (zb w _ hx824_0)).trans hx824_0
            replace p824:=eq_true p824
            replace q824:=eq_true q824
            have p825 : 0≤(x11_2 : Int):=of_decide_eq_true (by first|(with_reducible assumption)|assumption)
            have q825 : x11_2 < (l2.length : Int):=of_decide_eq_true (by first|(with_reducible assumption)|assumption)
            obtain ⟨ad825,e825,hx825_0⟩:=Kd.at_int HR2.out x11_2 p825 q825
            have hw825_0:=hx825_0
            cases e825
            replace hx825_0:=(HB.out.cell (zb w _ hx825_0)).trans hx825_0
            replace p825:=eq_true p825
            replace q825:=eq_true q825
            refine start_ (n:=11) (S:=fun w' => w'.cell? (ad824.add (x11_2).toNat)=some (.int .i64 (rd l1 x11_2))∧w'.cell? (ad825.add (x11_2).toNat)=some (.int .i64 (rd l2 x11_2))) (ds := []) #[false,false,false,false,false,false,false,false,false,false,false] (by kernel_rfl) rfl rfl ⟨((HB.out.cell (zb w _ hw824_0)).trans hw824_0),((HB.out.cell (zb w _ hw825_0)).trans hw825_0)⟩ (fun hHeld => ?_);refine with_tabW psalteryref11_Put.tab10 psalteryref11_Put.bits10 (fun HT_ HW_ => ?_)
            generalize wr.drew=w29 at HO_820001 HO_824001 BK819 BK820 BK823 HB hx824_0 hx825_0 hHeld ⊢
            refine pure_ (i:=0) (N:=some 36) (v := ?_) (a' := ?_) #[true,false,false,false,false,false,false,false,false,false,false] rfl rfl (any_of HT_.out (by kernel_rfl)) (fun _ _ _ h=>h) (Or.inl ⟨by rfl, ?_⟩) ?_ ?_
            rotate_left
            ·
             intro w'
             go_simp
             with_reducible rfl
            rotate_left
            ·
             simp only [Act.put,List.setIfInBounds_toArray,List.set_cons_zero,List.set_cons_succ,i64_w,i32_w]
             rfl
            refine pure_ (i:=1) (N:=some 37) (v := ?_) (a' := ?_) #[true,true,false,false,false,false,false,false,false,false,false] rfl rfl (any_of HT_.out (by kernel_rfl)) (fun _ _ _ h=>h) (Or.inl ⟨by rfl, ?_⟩) ?_ ?_
            rotate_left
            ·
             intro w'
             go_simp
             with_reducible rfl
            rotate_left
            ·
             simp only [Act.put,List.setIfInBounds_toArray,List.set_cons_zero,List.set_cons_succ,i64_w,i32_w]
             rfl
            refine pure_ (i:=2) (N:=some 38) (v := ?_) (a' := ?_) #[true,true,true,false,false,false,false,false,false,false,false] rfl rfl (any_of HT_.out (by kernel_rfl)) (fun _ _ _ h=>h) (Or.inl ⟨by rfl, ?_⟩) ?_ ?_
            rotate_left
            ·
             intro w'
             go_simp
             with_reducible rfl
            rotate_left
            ·
             simp only [Act.put,List.setIfInBounds_toArray,List.set_cons_zero,List.set_cons_succ,i64_w,i32_w]
             rfl
            refine pure_ (i:=4) (N:=some 40) (v := ?_) (a' := ?_) #[true,true,true,false,true,false,false,false,false,false,false] rfl rfl (any_of HT_.out (by kernel_rfl)) (fun _ _ _ h=>h) (Or.inl ⟨by rfl, ?_⟩) ?_ ?_
            rotate_left
            ·
             intro w'
             go_simp
             with_reducible rfl
            rotate_left
            ·
             simp only [Act.put,List.setIfInBounds_toArray,List.set_cons_zero,List.set_cons_succ,i64_w,i32_w]
             rfl
            refine pure_ (i:=5) (N:=some 41) (v := ?_) (a' := ?_) #[true,true,true,false,true,true,false,false,false,false,false] rfl rfl (any_of HT_.out (by kernel_rfl)) (fun _ _ _ h=>h) (Or.inl ⟨by rfl, ?_⟩) ?_ ?_
            rotate_left
            ·
             intro w'
             go_simp
             with_reducible rfl
            rotate_left
            ·
             simp only [Act.put,List.setIfInBounds_toArray,List.set_cons_zero,List.set_cons_succ,i64_w,i32_w]
             rfl
            refine pure_ (i:=6) (N:=some 42) (v := ?_) (a' := ?_) #[true,true,true,false,true,true,true,false,false,false,false] rfl rfl (any_of HT_.out (by kernel_rfl)) (fun _ _ _ h=>h) (Or.inl ⟨by rfl, ?_⟩) ?_ ?_
            rotate_left
            ·
             intro w'
             go_simp
             with_reducible rfl
            rotate_left
            ·
             simp only [Act.put,List.setIfInBounds_toArray,List.set_cons_zero,List.set_cons_succ,i64_w,i32_w]
             rfl
            refine take_ (i:=3) (N:=some 39) (v := ?_) (a' := ?_) #[true,true,true,true,true,true,true,false,false,false,false] rfl rfl (take_ofW HT_.out HW_.out (by kernel_rfl)) (fun _ _ _ h=>h) (Or.inl ⟨by rfl, ?_⟩) hHeld ?_ ?_
            rotate_left
            ·
             rintro w' ⟨s0,s1⟩
             go_simp
             with_reducible rfl
            rotate_left
            ·
             simp only [Act.put,List.setIfInBounds_toArray,List.set_cons_zero,List.set_cons_succ,i64_w,i32_w]
             rfl
            refine take_ (i:=7) (N:=some 43) (v := ?_) (a' := ?_) #[true,true,true,true,true,true,true,true,false,false,false] rfl rfl (take_ofW HT_.out HW_.out (by kernel_rfl)) (fun _ _ _ h=>h) (Or.inl ⟨by rfl, ?_⟩) hHeld ?_ ?_
            rotate_left
            ·
             rintro w' ⟨s0,s1⟩
             go_simp
             with_reducible rfl
            rotate_left
            ·
             simp only [Act.put,List.setIfInBounds_toArray,List.set_cons_zero,List.set_cons_succ,i64_w,i32_w]
             rfl
            refine pure_ (i:=8) (N:=some 44) (v := ?_) (a' := ?_) #[true,true,true,true,true,true,true,true,true,false,false] rfl rfl (any_of HT_.out (by kernel_rfl)) (fun _ _ _ h=>h) (Or.inl ⟨by rfl, ?_⟩) ?_ ?_
            rotate_left
            ·
             intro w'
             go_simp
             with_reducible rfl
            rotate_left
            ·
             simp only [Act.put,List.setIfInBounds_toArray,List.set_cons_zero,List.set_cons_succ,i64_w,i32_w]
             rfl
            refine pure_ (i:=9) (N:=some 45) (v := ?_) (a' := ?_) #[true,true,true,true,true,true,true,true,true,true,false] rfl rfl (any_of HT_.out (by kernel_rfl)) (fun _ _ _ h=>h) (Or.inl ⟨by rfl, ?_⟩) ?_ ?_
            rotate_left
            ·
             intro w'
             go_simp
             with_reducible rfl
            rotate_left
            ·
             simp only [Act.put,List.setIfInBounds_toArray,List.set_cons_zero,List.set_cons_succ,i64_w,i32_w]
             rfl
            refine pure_ (i:=10) (N:=some 14) (v := ?_) (a' := ?_) #[true,true,true,true,true,true,true,true,true,true,true] rfl rfl (any_of HT_.out (by kernel_rfl)) (fun _ _ _ h=>h) (Or.inl ⟨by rfl, ?_⟩) ?_ ?_
            rotate_left
            ·
             intro w'
             go_simp
             with_reducible rfl
            rotate_left
            ·
             simp only [Act.put,List.setIfInBounds_toArray,List.set_cons_zero,List.set_cons_succ,i64_w,i32_w]
             rfl
            refine done_ (done_of HT_.out (by kernel_rfl)) ?_
            go_upto_region 11 with (fail)
            go_cut [51] (fun v51 wc => ∃ (kq : Nat) (x51_27 : Bool),v51=.bool x51_27∧Aside0 (psalteryref11_Put.j2 kq l1 l2 false x11_2 false (wrap64 ((wrap64 ((rd l1 x11_2) - (rd l2 x11_2)))+3)) x51_27 a0_0 l0_1 x824000_2 x824001_2=some (r1,r2,r3))∧Aside0 (kq≤k2)∧Aside0 (Kd.V (Kd.int .i64) 3 wc w.heap.size (fun k_=>(P0_1_ k_∨w.heap.size≤k_)∧k_≠gb819∧k_≠gb820∧k_≠gb823) (.slice A0_1 l0_1.length c0_1) l0_1)∧Aside0 (Kd.V (Kd.int .i64) 3 wc w.heap.size (fun k_=>(P0_1_ k_∨w.heap.size≤k_)∧k_≠gb819∧k_≠gb820∧k_≠gb823) u824001 x824001_2)∧Aside0 (wc.heap[gb819]? = some (.cells #[.int .u64 a0_0,(.slice A0_1 l0_1.length c0_1)] 33 (0,0)))∧Aside0 (wc.heap[gb820]? = some (.cells #[.int .u64 x821000_2,(.slice none 0 0)] 33 (0,0)))∧Aside0 (wc.heap[gb823]? = some (.cells #[.int .u64 x824000_2,u824001] 33 (0,0)))∧Aside0 (Below w.heap.size w wc))
            case first =>
             have H:=HC28.out;clear HC28
             by_cases c30 : (wrap64 ((wrap64 ((rd l1 x11_2) - (rd l2 x11_2)))+3)) < 0
             ·
              rw [if_pos c30] at H
              have c30b0 : decide ((wrap64 ((wrap64 ((rd l1 x11_2) - (rd l2 x11_2)))+3)) < 0)=true:=decide_eq_true c30
              clear c30
              (first|rw [c30b0]|(simp only [i64_w,i32_w];rw [c30b0])|skip)
              have H' := zm H
              clear H
              go_wp2
              go_meet
              case rel=>exact ⟨_,(true),(by first|rfl|(simp;done)|(simp [*];done)),H',⟨by have:=HJ4.out;have:=HK2.out;first|omega|exact Nat.le_refl _⟩,⟨by (with_reducible repeat (first|apply zA|apply zB|apply zC));exact HO_820001.out⟩,⟨by (with_reducible repeat (first|apply zA|apply zB|apply zC));exact HO_824001.out⟩,⟨by (with_reducible repeat (first|refine zh ?_ _|refine zj ?_|refine zi ?_ _));exact BK819.out⟩,⟨by (with_reducible repeat (first|refine zh ?_ _|refine zj ?_|refine zi ?_ _));exact BK820.out⟩,⟨by (with_reducible repeat (first|refine zh ?_ _|refine zj ?_|refine zi ?_ _));exact BK823.out⟩,⟨by repeat (first|(with_reducible first|exact HB.out|apply ze|apply zd|apply zf|refine zk ?_ GE819.out|refine zk ?_ GE820.out|refine zk ?_ GE823.out)|exact HB.out)⟩⟩
             ·
              rw [if_neg c30] at H
              have c30b0 : decide ((wrap64 ((wrap64 ((rd l1 x11_2) - (rd l2 x11_2)))+3)) < 0)=false:=decide_eq_false c30
              clear c30
              (first|rw [c30b0]|(simp only [i64_w,i32_w];rw [c30b0])|skip)
              have H' := zm H
              clear H
              go_wp2
              go_meet
              case rel=>exact ⟨_,(decide ((wrap64 ((wrap64 ((rd l1 x11_2) - (rd l2 x11_2)))+3)) > 6)),(by first|rfl|(simp;done)|(simp [*];done)),H',⟨by have:=HJ4.out;have:=HK2.out;first|omega|exact Nat.le_refl _⟩,⟨by (with_reducible repeat (first|apply zA|apply zB|apply zC));exact HO_820001.out⟩,⟨by (with_reducible repeat (first|apply zA|apply zB|apply zC));exact HO_824001.out⟩,⟨by (with_reducible repeat (first|refine zh ?_ _|refine zj ?_|refine zi ?_ _));exact BK819.out⟩,⟨by (with_reducible repeat (first|refine zh ?_ _|refine zj ?_|refine zi ?_ _));exact BK820.out⟩,⟨by (with_reducible repeat (first|refine zh ?_ _|refine zj ?_|refine zi ?_ _));exact BK823.out⟩,⟨by repeat (first|(with_reducible first|exact HB.out|apply ze|apply zd|apply zf|refine zk ?_ GE819.out|refine zk ?_ GE820.out|refine zk ?_ GE823.out)|exact HB.out)⟩⟩
            case rest =>
             clear HC28
             try clear c1
             try clear c2
             try clear p2
             try clear c3
             try clear c4
             try clear p6
             try clear p8
             try clear q8
             try clear hx8
             try clear c9
             try clear c10
             try clear c12
             try clear c13
             try clear c16
             try clear c19
             try clear c20
             try clear c22
             try clear c22b0
             try clear c24
             try clear c25
             try clear c25b0
             try clear c26
             try clear c26b0
             try clear c27
             try clear c27b0
             try clear c30
             try clear c30b0
             try clear hcz14_0
             try clear hcz14_1
             try clear hcz15_0
             try clear hcz15_1
             try clear hcz17_0
             try clear hcz17_1
             try clear hcz21_0
             try clear hcz21_1
             try clear hfz14_0
             try clear hfz14_1
             try clear hfz15_0
             try clear hfz15_1
             try clear hfz17_0
             try clear hfz17_1
             try clear hfz21_0
             try clear hfz21_1
             try clear hx824_0
             try clear hx825_0
             try clear p2
             try clear p824
             try clear p825
             try clear q824
             try clear q825
             obtain ⟨kq,x51_27,rfl,HA,HJ27,HO_820001,HO_824001,BK819,BK820,BK823,HB⟩:=hcut
             cases kq with
             | zero=>exact absurd HA.out (by simp [psalteryref11_Put.j2])
             | succ kj27 =>
              have H:=HA.out;clear HA
              simp only [psalteryref11_Put.j2] at H
              by_cases c31 : x51_27=true
              ·
               subst c31
               have H1 : ((psalteryref05_Put.f kj27 x824000_2 x824001_2 7 (7+1) 8).bind fun bt826=>(if bt826.2.2=0 then (psalteryref11_Put.j3 kj27 l1 l2 false x11_2 true a0_0 l0_1 bt826.1 bt826.2.1) else (some (a0_0,l0_1,bt826.2.2))))=some (r1,r2,r3):=by rw [if_pos rfl] at H;exact H
               clear H;have H:=H1;clear H1
               replace H:=Option.bind_eq_some_iff.mp H
               obtain ⟨⟨t826,t827,t830⟩,A320,H⟩:=H
               replace H : (if t830=0 then (psalteryref11_Put.j3 kj27 l1 l2 false x11_2 true a0_0 l0_1 t826 t827) else (some (a0_0,l0_1,t830)))=some (r1,r2,r3):=H
               have A32:=zm A320;clear A320
               by_cases c33 : t830=0
               ·
                rw [if_pos c33] at H
                have c33b0 : (t830 == 0)=true:=beq_iff_eq.mpr c33
                have c33b1 : (t830 != 0)=false:=bne_eq_false_iff_eq.mpr c33
                clear c33
                have H' := zm H
                clear H;have hnb34:=NB823_819.out;have hnc34:=NB819_823.out;have hnb35:=NB823_820.out;have hnc35:=NB820_823.out
                have hcz36_0 : wc.cell? ⟨gb823,0,none⟩=some (.int .u64 x824000_2):=(zs BK823.out 0).trans rfl
                have hcz36_1 : wc.cell? ⟨gb823,1,none⟩=some (u824001):=(zs BK823.out 1).trans rfl
                have hfz36_0:=zx BK823.out 0
                have hfz36_1:=zx BK823.out 1
                obtain ⟨Ao37,co37,eo37⟩:=Kd.V_slice HO_824001.out
                subst eo37
                go_wp2_with (first|((with_reducible refine gate_callee (f:=19) rfl ?_);refine goesL_ (some 57) rfl rfl Try.func19 (by kernel_rfl) rfl #[.agg #[.int .u64 x824000_2, .slice Ao37 x824001_2.length co37], .int .i64 7, .int .i64 (7+1), .int .i64 8] rfl (by (try simp only [List.map_toArray,List.map_cons,List.map_nil]);first|done|rfl|(simp only [List.length_drop,List.length_take];rfl)) ?_;(with_reducible refine (psalteryref05_Put.calls kj27 x824000_2 (fun k_=>((P0_1_ k_∨w.heap.size≤k_)∧(k_≠gb819∧(k_≠gb820∧k_≠gb823)))) _ _ x824001_2 7 (7+1) 8 t826 t827 t830 _ ?side1 A32.out).mono ?_);(case side1=>exact HO_824001.out);rintro e w38 ⟨v828,rfl,ho0,hb⟩;refine ⟨_,rfl, ?_⟩;have n0_:=zm (Kd.V_below (by (with_reducible repeat (first|apply zA|apply zB|apply zC));exact HO_820001.out) hb);have n1_:=zm (Kd.V_below (by (with_reducible repeat (first|apply zA|apply zB|apply zC));exact HO_824001.out) hb);have n2_:=zm (Kd.V_lower (zy (ok' := fun k_=>(P0_1_ k_∨w.heap.size≤k_)∧k_≠gb819∧k_≠gb820∧k_≠gb823) ho0 (fun k_ hk_=>⟨Or.elim hk_ (fun hs_=>hs_.1) (fun hn_=>(.inr (Nat.le_trans (zE (by repeat (first|(with_reducible first|exact HB.out|apply ze|apply zd|apply zf|refine zk ?_ GE819.out|refine zk ?_ GE820.out|refine zk ?_ GE823.out)|exact HB.out))) hn_))),Or.elim hk_ (fun hs_=>hs_.2.1) (fun hn_=>(Kd.freshB (g:=gb819) (o:=.cells #[.int .u64 a0_0, .slice A0_1 l0_1.length c0_1] 33 (0,0)) (by (with_reducible repeat (first|refine zh ?_ _|refine zj ?_|refine zi ?_ _));exact BK819.out) k_ hn_)),Or.elim hk_ (fun hs_=>hs_.2.2.1) (fun hn_=>(Kd.freshB (g:=gb820) (o:=.cells #[.int .u64 x821000_2, .slice none 0 0] 33 (0,0)) (by (with_reducible repeat (first|refine zh ?_ _|refine zj ?_|refine zi ?_ _));exact BK820.out) k_ hn_)),Or.elim hk_ (fun hs_=>hs_.2.2.2) (fun hn_=>(Kd.freshB (g:=gb823) (o:=.cells #[.int .u64 x824000_2, .slice Ao37 x824001_2.length co37] 33 (0,0)) (by (with_reducible repeat (first|refine zh ?_ _|refine zj ?_|refine zi ?_ _));exact BK823.out) k_ hn_))⟩)) (zE (by repeat (first|(with_reducible first|exact HB.out|apply ze|apply zd|apply zf|refine zk ?_ GE819.out|refine zk ?_ GE820.out|refine zk ?_ GE823.out)|exact HB.out))));have n3_:=zm (zF (g:=gb819) (o:=.cells #[.int .u64 a0_0, .slice A0_1 l0_1.length c0_1] 33 (0,0)) (by (with_reducible repeat (first|refine zh ?_ _|refine zj ?_|refine zi ?_ _));exact BK819.out) hb);have n4_:=zm (zF (g:=gb820) (o:=.cells #[.int .u64 x821000_2, .slice none 0 0] 33 (0,0)) (by (with_reducible repeat (first|refine zh ?_ _|refine zj ?_|refine zi ?_ _));exact BK820.out) hb);have n5_:=zm (zF (g:=gb823) (o:=.cells #[.int .u64 x824000_2, .slice Ao37 x824001_2.length co37] 33 (0,0)) (by (with_reducible repeat (first|refine zh ?_ _|refine zj ?_|refine zi ?_ _));exact BK823.out) hb);have n6_:=zm (zJ (by repeat (first|(with_reducible first|exact HB.out|apply ze|apply zd|apply zf|refine zk ?_ GE819.out|refine zk ?_ GE820.out|refine zk ?_ GE823.out)|exact HB.out)) hb);clear HO_820001;clear HO_824001;clear BK819;clear BK820;clear BK823;clear HB;have HO_820001:=n0_;have HO_824001:=n1_;have HO829:=n2_;have BK819:=n3_;have BK820:=n4_;have BK823:=n5_;have HB:=n6_;clear n0_ n1_ n2_ n3_ n4_ n5_ n6_;(try clear hb);(try clear hb2);(try clear hk);(try clear hi);(try clear ho0);have hcz39_0 : w38.cell? ⟨gb823,0,none⟩=some (.int .u64 x824000_2):=(zs BK823.out 0).trans rfl;have hcz39_1 : w38.cell? ⟨gb823,1,none⟩=some (.slice Ao37 x824001_2.length co37):=(zs BK823.out 1).trans rfl;have hfz39_0:=zx BK823.out 0;have hfz39_1:=zx BK823.out 1;obtain ⟨Ao40,co40,eo40⟩:=Kd.V_slice HO829.out;subst eo40))
                go_meet
                case rel=>exact ⟨_,(true),(x821000_2),(t826),(t827),(.slice Ao40 t827.length co40),(by first|rfl|(simp;done)|(simp [*];done)),H',⟨by have:=HJ4.out;have:=HK2.out;have:=HJ27.out;first|omega|exact Nat.le_refl _⟩,⟨by (with_reducible repeat (first|apply zA|apply zB|apply zC));exact zy (zI (p:=⟨gb823,1,none⟩) (zI (p:=⟨gb823,0,none⟩) (zy HO_820001.out (fun k_ hk=>(⟨hk,hk.2.2.2⟩ : _∧k_≠gb823))) (fun _ hk=>hk.2) (.int .u64 t826)) (fun _ hk=>hk.2) (.slice Ao40 t827.length co40)) (fun _ hk=>⟨hk.1.1,⟨hk.1.2.1,⟨hk.1.2.2.1,hk.1.2.2.2⟩⟩⟩)⟩,⟨by (with_reducible repeat (first|apply zA|apply zB|apply zC));exact zy (zI (p:=⟨gb823,1,none⟩) (zI (p:=⟨gb823,0,none⟩) (zy HO829.out (fun k_ hk=>(⟨hk,hk.2.2.2⟩ : _∧k_≠gb823))) (fun _ hk=>hk.2) (.int .u64 t826)) (fun _ hk=>hk.2) (.slice Ao40 t827.length co40)) (fun _ hk=>⟨hk.1.1,⟨hk.1.2.1,⟨hk.1.2.2.1,hk.1.2.2.2⟩⟩⟩)⟩,⟨by (with_reducible repeat (first|refine zh ?_ _|refine zj ?_|refine zi ?_ _|refine zv ?_ NB819_823.out _));exact BK819.out⟩,⟨by (with_reducible repeat (first|refine zh ?_ _|refine zj ?_|refine zi ?_ _|refine zv ?_ NB820_823.out _));exact BK820.out⟩,⟨by (with_reducible repeat (first|refine zh ?_ _|refine zj ?_|refine zi ?_ _));refine zw (cs := #[.int .u64 t826, .slice Ao37 x824001_2.length co37]) ?_ 1 _ rfl;(with_reducible repeat (first|refine zh ?_ _|refine zj ?_|refine zi ?_ _));refine zw (cs := #[.int .u64 x824000_2, .slice Ao37 x824001_2.length co37]) ?_ 0 _ rfl;(with_reducible repeat (first|refine zh ?_ _|refine zj ?_|refine zi ?_ _));exact BK823.out⟩,⟨by repeat (first|(with_reducible first|exact HB.out|apply ze|apply zd|apply zf|refine zk ?_ GE819.out|refine zk ?_ GE820.out|refine zk ?_ GE823.out)|exact HB.out)⟩⟩
               ·
                rw [if_neg c33] at H
                have c33b0 : (t830 == 0)=false:=beq_eq_false_iff_ne.mpr c33
                have c33b1 : (t830 != 0)=true:=bne_iff_ne.mpr c33
                simp only [Option.some.injEq,Prod.mk.injEq] at H
                obtain ⟨rfl,rfl,rfl⟩:=H
                have hnb41:=NB823_819.out;have hnc41:=NB819_823.out;have hnb42:=NB823_820.out;have hnc42:=NB820_823.out
                have hcz43_0 : wc.cell? ⟨gb823,0,none⟩=some (.int .u64 x824000_2):=(zs BK823.out 0).trans rfl
                have hcz43_1 : wc.cell? ⟨gb823,1,none⟩=some (u824001):=(zs BK823.out 1).trans rfl
                have hfz43_0:=zx BK823.out 0
                have hfz43_1:=zx BK823.out 1
                obtain ⟨Ao44,co44,eo44⟩:=Kd.V_slice HO_824001.out
                subst eo44
                go_wp2_with (first|((with_reducible refine gate_callee (f:=19) rfl ?_);refine goesL_ (some 57) rfl rfl Try.func19 (by kernel_rfl) rfl #[.agg #[.int .u64 x824000_2, .slice Ao44 x824001_2.length co44], .int .i64 7, .int .i64 (7+1), .int .i64 8] rfl (by (try simp only [List.map_toArray,List.map_cons,List.map_nil]);first|done|rfl|(simp only [List.length_drop,List.length_take];rfl)) ?_;(with_reducible refine (psalteryref05_Put.calls kj27 x824000_2 (fun k_=>((P0_1_ k_∨w.heap.size≤k_)∧(k_≠gb819∧(k_≠gb820∧k_≠gb823)))) _ _ x824001_2 7 (7+1) 8 t826 t827 t830 _ ?side1 A32.out).mono ?_);(case side1=>exact HO_824001.out);rintro e w45 ⟨v828,rfl,ho0,hb⟩;refine ⟨_,rfl, ?_⟩;have n0_:=zm (Kd.V_below (by (with_reducible repeat (first|apply zA|apply zB|apply zC));exact HO_820001.out) hb);have n1_:=zm (Kd.V_below (by (with_reducible repeat (first|apply zA|apply zB|apply zC));exact HO_824001.out) hb);have n2_:=zm (Kd.V_lower (zy (ok' := fun k_=>(P0_1_ k_∨w.heap.size≤k_)∧k_≠gb819∧k_≠gb820∧k_≠gb823) ho0 (fun k_ hk_=>⟨Or.elim hk_ (fun hs_=>hs_.1) (fun hn_=>(.inr (Nat.le_trans (zE (by repeat (first|(with_reducible first|exact HB.out|apply ze|apply zd|apply zf|refine zk ?_ GE819.out|refine zk ?_ GE820.out|refine zk ?_ GE823.out)|exact HB.out))) hn_))),Or.elim hk_ (fun hs_=>hs_.2.1) (fun hn_=>(Kd.freshB (g:=gb819) (o:=.cells #[.int .u64 a0_0, .slice A0_1 l0_1.length c0_1] 33 (0,0)) (by (with_reducible repeat (first|refine zh ?_ _|refine zj ?_|refine zi ?_ _));exact BK819.out) k_ hn_)),Or.elim hk_ (fun hs_=>hs_.2.2.1) (fun hn_=>(Kd.freshB (g:=gb820) (o:=.cells #[.int .u64 x821000_2, .slice none 0 0] 33 (0,0)) (by (with_reducible repeat (first|refine zh ?_ _|refine zj ?_|refine zi ?_ _));exact BK820.out) k_ hn_)),Or.elim hk_ (fun hs_=>hs_.2.2.2) (fun hn_=>(Kd.freshB (g:=gb823) (o:=.cells #[.int .u64 x824000_2, .slice Ao44 x824001_2.length co44] 33 (0,0)) (by (with_reducible repeat (first|refine zh ?_ _|refine zj ?_|refine zi ?_ _));exact BK823.out) k_ hn_))⟩)) (zE (by repeat (first|(with_reducible first|exact HB.out|apply ze|apply zd|apply zf|refine zk ?_ GE819.out|refine zk ?_ GE820.out|refine zk ?_ GE823.out)|exact HB.out))));have n3_:=zm (zF (g:=gb819) (o:=.cells #[.int .u64 a0_0, .slice A0_1 l0_1.length c0_1] 33 (0,0)) (by (with_reducible repeat (first|refine zh ?_ _|refine zj ?_|refine zi ?_ _));exact BK819.out) hb);have n4_:=zm (zF (g:=gb820) (o:=.cells #[.int .u64 x821000_2, .slice none 0 0] 33 (0,0)) (by (with_reducible repeat (first|refine zh ?_ _|refine zj ?_|refine zi ?_ _));exact BK820.out) hb);have n5_:=zm (zF (g:=gb823) (o:=.cells #[.int .u64 x824000_2, .slice Ao44 x824001_2.length co44] 33 (0,0)) (by (with_reducible repeat (first|refine zh ?_ _|refine zj ?_|refine zi ?_ _));exact BK823.out) hb);have n6_:=zm (zJ (by repeat (first|(with_reducible first|exact HB.out|apply ze|apply zd|apply zf|refine zk ?_ GE819.out|refine zk ?_ GE820.out|refine zk ?_ GE823.out)|exact HB.out)) hb);clear HO_820001;clear HO_824001;clear BK819;clear BK820;clear BK823;clear HB;have HO_820001:=n0_;have HO_824001:=n1_;have HO829:=n2_;have BK819:=n3_;have BK820:=n4_;have BK823:=n5_;have HB:=n6_;clear n0_ n1_ n2_ n3_ n4_ n5_ n6_;(try clear hb);(try clear hb2);(try clear hk);(try clear hi);(try clear ho0);have hcz46_0 : w45.cell? ⟨gb823,0,none⟩=some (.int .u64 x824000_2):=(zs BK823.out 0).trans rfl;have hcz46_1 : w45.cell? ⟨gb823,1,none⟩=some (.slice Ao44 x824001_2.length co44):=(zs BK823.out 1).trans rfl;have hfz46_0:=zx BK823.out 0;have hfz46_1:=zx BK823.out 1;obtain ⟨Ao47,co47,eo47⟩:=Kd.V_slice HO829.out;subst eo47;have hnb48:=NB819_820.out;have hnc48:=NB820_819.out;have hcz49_0 : w45.cell? ⟨gb819,0,none⟩=some (.int .u64 a0_0):=(zs BK819.out 0).trans rfl;have hcz49_1 : w45.cell? ⟨gb819,1,none⟩=some (.slice A0_1 l0_1.length c0_1):=(zs BK819.out 1).trans rfl;have hfz49_0:=zx BK819.out 0;have hfz49_1:=zx BK819.out 1;have hcz50_0 : w45.cell? ⟨gb820,0,none⟩=some (.int .u64 x821000_2):=(zs BK820.out 0).trans rfl;have hcz50_1 : w45.cell? ⟨gb820,1,none⟩=some (.slice none 0 0):=(zs BK820.out 1).trans rfl;have hfz50_0:=zx BK820.out 0;have hfz50_1:=zx BK820.out 1))
                refine bodyPost_ret (results_ct rfl _ _ gb820 33 #[.int .u64 a0_0, .slice A0_1 l0_1.length c0_1] (0,0) _ rfl (by (with_reducible repeat (first|refine zh ?_ _|refine zj ?_|refine zi ?_ _));refine zw (cs := #[.int .u64 a0_0, .slice none 0 0]) ?_ 1 _ rfl;(with_reducible repeat (first|refine zh ?_ _|refine zj ?_|refine zi ?_ _));refine zw (cs := #[.int .u64 x821000_2, .slice none 0 0]) ?_ 0 _ rfl;(with_reducible repeat (first|refine zh ?_ _|refine zj ?_|refine zi ?_ _|refine zv ?_ NB820_823.out _));exact BK820.out) Try.underlying33 rfl (by kernel_rfl)) rfl ?_
                exact ⟨_,by first|rfl|(simp [errW_none,errW_some] <;> rfl)|(simp [*,errW_none,errW_some] <;> rfl),by (with_reducible repeat (first|apply zA|apply zB|apply zC));exact zy (zI (p:=⟨gb820,1,none⟩) (zI (p:=⟨gb820,0,none⟩) (zI (p:=⟨gb823,1,none⟩) (zI (p:=⟨gb823,0,none⟩) (zy (zy HO_820001.out (fun k_ hk=>(⟨hk,hk.2.2.2⟩ : _∧k_≠gb823))) (fun k_ hk=>(⟨hk,hk.1.2.2.1⟩ : _∧k_≠gb820))) (fun _ hk=>hk.1.2) (.int .u64 t826)) (fun _ hk=>hk.1.2) (.slice Ao47 t827.length co47)) (fun _ hk=>hk.2) (.int .u64 a0_0)) (fun _ hk=>hk.2) (.slice A0_1 l0_1.length c0_1)) (fun _ hk=>hk.1.1.1),by repeat (first|(with_reducible first|exact HB.out|apply ze|apply zd|apply zf|refine zk ?_ GE819.out|refine zk ?_ GE820.out|refine zk ?_ GE823.out)|exact HB.out)⟩
              ·
               replace c31:=Bool.eq_false_iff.mpr c31
               subst c31
               have H1 : ((psalteryref05_Put.f kj27 x824000_2 x824001_2 (wrap64 ((wrap64 ((rd l1 x11_2) - (rd l2 x11_2)))+3)) (wrap64 ((wrap64 ((wrap64 ((rd l1 x11_2) - (rd l2 x11_2)))+3))+1)) 8).bind fun bt831=>(if bt831.2.2=0 then (psalteryref11_Put.j3 kj27 l1 l2 false x11_2 false a0_0 l0_1 bt831.1 bt831.2.1) else (some (a0_0,l0_1,bt831.2.2))))=some (r1,r2,r3):=by rw [if_neg (show ¬ (false=true) by decide)] at H;exact H
               clear H;have H:=H1;clear H1
               replace H:=Option.bind_eq_some_iff.mp H
               obtain ⟨⟨t831,t832,t835⟩,A510,H⟩:=H
               replace H : (if t835=0 then (psalteryref11_Put.j3 kj27 l1 l2 false x11_2 false a0_0 l0_1 t831 t832) else (some (a0_0,l0_1,t835)))=some (r1,r2,r3):=H
               have A51:=zm A510;clear A510
               by_cases c52 : t835=0
               ·
                rw [if_pos c52] at H
                have c52b0 : (t835 == 0)=true:=beq_iff_eq.mpr c52
                have c52b1 : (t835 != 0)=false:=bne_eq_false_iff_eq.mpr c52
                clear c52
                have H' := zm H
                clear H;have hnb53:=NB823_819.out;have hnc53:=NB819_823.out;have hnb54:=NB823_820.out;have hnc54:=NB820_823.out
                have hcz55_0 : wc.cell? ⟨gb823,0,none⟩=some (.int .u64 x824000_2):=(zs BK823.out 0).trans rfl
                have hcz55_1 : wc.cell? ⟨gb823,1,none⟩=some (u824001):=(zs BK823.out 1).trans rfl
                have hfz55_0:=zx BK823.out 0
                have hfz55_1:=zx BK823.out 1
                obtain ⟨Ao56,co56,eo56⟩:=Kd.V_slice HO_824001.out
                subst eo56
                go_wp2_with (first|((with_reducible refine gate_callee (f:=19) rfl ?_);refine goesL_ (some 57) rfl rfl Try.func19 (by kernel_rfl) rfl #[.agg #[.int .u64 x824000_2, .slice Ao56 x824001_2.length co56], .int .i64 (wrap64 ((wrap64 ((rd l1 x11_2) - (rd l2 x11_2)))+3)), .int .i64 (wrap64 ((wrap64 ((wrap64 ((rd l1 x11_2) - (rd l2 x11_2)))+3))+1)), .int .i64 8] rfl (by (try simp only [List.map_toArray,List.map_cons,List.map_nil]);first|done|rfl|(simp only [List.length_drop,List.length_take];rfl)) ?_;(with_reducible refine (psalteryref05_Put.calls kj27 x824000_2 (fun k_=>((P0_1_ k_∨w.heap.size≤k_)∧(k_≠gb819∧(k_≠gb820∧k_≠gb823)))) _ _ x824001_2 (wrap64 ((wrap64 ((rd l1 x11_2) - (rd l2 x11_2)))+3)) (wrap64 ((wrap64 ((wrap64 ((rd l1 x11_2) - (rd l2 x11_2)))+3))+1)) 8 t831 t832 t835 _ ?side1 A51.out).mono ?_);(case side1=>exact HO_824001.out);rintro e w57 ⟨v833,rfl,ho0,hb⟩;refine ⟨_,rfl, ?_⟩;have n0_:=zm (Kd.V_below (by (with_reducible repeat (first|apply zA|apply zB|apply zC));exact HO_820001.out) hb);have n1_:=zm (Kd.V_below (by (with_reducible repeat (first|apply zA|apply zB|apply zC));exact HO_824001.out) hb);have n2_:=zm (Kd.V_lower (zy (ok' := fun k_=>(P0_1_ k_∨w.heap.size≤k_)∧k_≠gb819∧k_≠gb820∧k_≠gb823) ho0 (fun k_ hk_=>⟨Or.elim hk_ (fun hs_=>hs_.1) (fun hn_=>(.inr (Nat.le_trans (zE (by repeat (first|(with_reducible first|exact HB.out|apply ze|apply zd|apply zf|refine zk ?_ GE819.out|refine zk ?_ GE820.out|refine zk ?_ GE823.out)|exact HB.out))) hn_))),Or.elim hk_ (fun hs_=>hs_.2.1) (fun hn_=>(Kd.freshB (g:=gb819) (o:=.cells #[.int .u64 a0_0, .slice A0_1 l0_1.length c0_1] 33 (0,0)) (by (with_reducible repeat (first|refine zh ?_ _|refine zj ?_|refine zi ?_ _));exact BK819.out) k_ hn_)),Or.elim hk_ (fun hs_=>hs_.2.2.1) (fun hn_=>(Kd.freshB (g:=gb820) (o:=.cells #[.int .u64 x821000_2, .slice none 0 0] 33 (0,0)) (by (with_reducible repeat (first|refine zh ?_ _|refine zj ?_|refine zi ?_ _));exact BK820.out) k_ hn_)),Or.elim hk_ (fun hs_=>hs_.2.2.2) (fun hn_=>(Kd.freshB (g:=gb823) (o:=.cells #[.int .u64 x824000_2, .slice Ao56 x824001_2.length co56] 33 (0,0)) (by (with_reducible repeat (first|refine zh ?_ _|refine zj ?_|refine zi ?_ _));exact BK823.out) k_ hn_))⟩)) (zE (by repeat (first|(with_reducible first|exact HB.out|apply ze|apply zd|apply zf|refine zk ?_ GE819.out|refine zk ?_ GE820.out|refine zk ?_ GE823.out)|exact HB.out))));have n3_:=zm (zF (g:=gb819) (o:=.cells #[.int .u64 a0_0, .slice A0_1 l0_1.length c0_1] 33 (0,0)) (by (with_reducible repeat (first|refine zh ?_ _|refine zj ?_|refine zi ?_ _));exact BK819.out) hb);have n4_:=zm (zF (g:=gb820) (o:=.cells #[.int .u64 x821000_2, .slice none 0 0] 33 (0,0)) (by (with_reducible repeat (first|refine zh ?_ _|refine zj ?_|refine zi ?_ _));exact BK820.out) hb);have n5_:=zm (zF (g:=gb823) (o:=.cells #[.int .u64 x824000_2, .slice Ao56 x824001_2.length co56] 33 (0,0)) (by (with_reducible repeat (first|refine zh ?_ _|refine zj ?_|refine zi ?_ _));exact BK823.out) hb);have n6_:=zm (zJ (by repeat (first|(with_reducible first|exact HB.out|apply ze|apply zd|apply zf|refine zk ?_ GE819.out|refine zk ?_ GE820.out|refine zk ?_ GE823.out)|exact HB.out)) hb);clear HO_820001;clear HO_824001;clear BK819;clear BK820;clear BK823;clear HB;have HO_820001:=n0_;have HO_824001:=n1_;have HO834:=n2_;have BK819:=n3_;have BK820:=n4_;have BK823:=n5_;have HB:=n6_;clear n0_ n1_ n2_ n3_ n4_ n5_ n6_;(try clear hb);(try clear hb2);(try clear hk);(try clear hi);(try clear ho0);have hcz58_0 : w57.cell? ⟨gb823,0,none⟩=some (.int .u64 x824000_2):=(zs BK823.out 0).trans rfl;have hcz58_1 : w57.cell? ⟨gb823,1,none⟩=some (.slice Ao56 x824001_2.length co56):=(zs BK823.out 1).trans rfl;have hfz58_0:=zx BK823.out 0;have hfz58_1:=zx BK823.out 1;obtain ⟨Ao59,co59,eo59⟩:=Kd.V_slice HO834.out;subst eo59))
                go_meet
                case rel=>exact ⟨_,(false),(x821000_2),(t831),(t832),(.slice Ao59 t832.length co59),(by first|rfl|(simp;done)|(simp [*];done)),H',⟨by have:=HJ4.out;have:=HK2.out;have:=HJ27.out;first|omega|exact Nat.le_refl _⟩,⟨by (with_reducible repeat (first|apply zA|apply zB|apply zC));exact zy (zI (p:=⟨gb823,1,none⟩) (zI (p:=⟨gb823,0,none⟩) (zy HO_820001.out (fun k_ hk=>(⟨hk,hk.2.2.2⟩ : _∧k_≠gb823))) (fun _ hk=>hk.2) (.int .u64 t831)) (fun _ hk=>hk.2) (.slice Ao59 t832.length co59)) (fun _ hk=>⟨hk.1.1,⟨hk.1.2.1,⟨hk.1.2.2.1,hk.1.2.2.2⟩⟩⟩)⟩,⟨by (with_reducible repeat (first|apply zA|apply zB|apply zC));exact zy (zI (p:=⟨gb823,1,none⟩) (zI (p:=⟨gb823,0,none⟩) (zy HO834.out (fun k_ hk=>(⟨hk,hk.2.2.2⟩ : _∧k_≠gb823))) (fun _ hk=>hk.2) (.int .u64 t831)) (fun _ hk=>hk.2) (.slice Ao59 t832.length co59)) (fun _ hk=>⟨hk.1.1,⟨hk.1.2.1,⟨hk.1.2.2.1,hk.1.2.2.2⟩⟩⟩)⟩,⟨by (with_reducible repeat (first|refine zh ?_ _|refine zj ?_|refine zi ?_ _|refine zv ?_ NB819_823.out _));exact BK819.out⟩,⟨by (with_reducible repeat (first|refine zh ?_ _|refine zj ?_|refine zi ?_ _|refine zv ?_ NB820_823.out _));exact BK820.out⟩,⟨by (with_reducible repeat (first|refine zh ?_ _|refine zj ?_|refine zi ?_ _));refine zw (cs := #[.int .u64 t831, .slice Ao56 x824001_2.length co56]) ?_ 1 _ rfl;(with_reducible repeat (first|refine zh ?_ _|refine zj ?_|refine zi ?_ _));refine zw (cs := #[.int .u64 x824000_2, .slice Ao56 x824001_2.length co56]) ?_ 0 _ rfl;(with_reducible repeat (first|refine zh ?_ _|refine zj ?_|refine zi ?_ _));exact BK823.out⟩,⟨by repeat (first|(with_reducible first|exact HB.out|apply ze|apply zd|apply zf|refine zk ?_ GE819.out|refine zk ?_ GE820.out|refine zk ?_ GE823.out)|exact HB.out)⟩⟩
               ·
                rw [if_neg c52] at H
                have c52b0 : (t835 == 0)=false:=beq_eq_false_iff_ne.mpr c52
                have c52b1 : (t835 != 0)=true:=bne_iff_ne.mpr c52
                simp only [Option.some.injEq,Prod.mk.injEq] at H
                obtain ⟨rfl,rfl,rfl⟩:=H
                have hnb60:=NB823_819.out;have hnc60:=NB819_823.out;have hnb61:=NB823_820.out;have hnc61:=NB820_823.out
                have hcz62_0 : wc.cell? ⟨gb823,0,none⟩=some (.int .u64 x824000_2):=(zs BK823.out 0).trans rfl
                have hcz62_1 : wc.cell? ⟨gb823,1,none⟩=some (u824001):=(zs BK823.out 1).trans rfl
                have hfz62_0:=zx BK823.out 0
                have hfz62_1:=zx BK823.out 1
                obtain ⟨Ao63,co63,eo63⟩:=Kd.V_slice HO_824001.out
                subst eo63
                go_wp2_with (first|((with_reducible refine gate_callee (f:=19) rfl ?_);refine goesL_ (some 57) rfl rfl Try.func19 (by kernel_rfl) rfl #[.agg #[.int .u64 x824000_2, .slice Ao63 x824001_2.length co63], .int .i64 (wrap64 ((wrap64 ((rd l1 x11_2) - (rd l2 x11_2)))+3)), .int .i64 (wrap64 ((wrap64 ((wrap64 ((rd l1 x11_2) - (rd l2 x11_2)))+3))+1)), .int .i64 8] rfl (by (try simp only [List.map_toArray,List.map_cons,List.map_nil]);first|done|rfl|(simp only [List.length_drop,List.length_take];rfl)) ?_;(with_reducible refine (psalteryref05_Put.calls kj27 x824000_2 (fun k_=>((P0_1_ k_∨w.heap.size≤k_)∧(k_≠gb819∧(k_≠gb820∧k_≠gb823)))) _ _ x824001_2 (wrap64 ((wrap64 ((rd l1 x11_2) - (rd l2 x11_2)))+3)) (wrap64 ((wrap64 ((wrap64 ((rd l1 x11_2) - (rd l2 x11_2)))+3))+1)) 8 t831 t832 t835 _ ?side1 A51.out).mono ?_);(case side1=>exact HO_824001.out);rintro e w64 ⟨v833,rfl,ho0,hb⟩;refine ⟨_,rfl, ?_⟩;have n0_:=zm (Kd.V_below (by (with_reducible repeat (first|apply zA|apply zB|apply zC));exact HO_820001.out) hb);have n1_:=zm (Kd.V_below (by (with_reducible repeat (first|apply zA|apply zB|apply zC));exact HO_824001.out) hb);have n2_:=zm (Kd.V_lower (zy (ok' := fun k_=>(P0_1_ k_∨w.heap.size≤k_)∧k_≠gb819∧k_≠gb820∧k_≠gb823) ho0 (fun k_ hk_=>⟨Or.elim hk_ (fun hs_=>hs_.1) (fun hn_=>(.inr (Nat.le_trans (zE (by repeat (first|(with_reducible first|exact HB.out|apply ze|apply zd|apply zf|refine zk ?_ GE819.out|refine zk ?_ GE820.out|refine zk ?_ GE823.out)|exact HB.out))) hn_))),Or.elim hk_ (fun hs_=>hs_.2.1) (fun hn_=>(Kd.freshB (g:=gb819) (o:=.cells #[.int .u64 a0_0, .slice A0_1 l0_1.length c0_1] 33 (0,0)) (by (with_reducible repeat (first|refine zh ?_ _|refine zj ?_|refine zi ?_ _));exact BK819.out) k_ hn_)),Or.elim hk_ (fun hs_=>hs_.2.2.1) (fun hn_=>(Kd.freshB (g:=gb820) (o:=.cells #[.int .u64 x821000_2, .slice none 0 0] 33 (0,0)) (by (with_reducible repeat (first|refine zh ?_ _|refine zj ?_|refine zi ?_ _));exact BK820.out) k_ hn_)),Or.elim hk_ (fun hs_=>hs_.2.2.2) (fun hn_=>(Kd.freshB (g:=gb823) (o:=.cells #[.int .u64 x824000_2, .slice Ao63 x824001_2.length co63] 33 (0,0)) (by (with_reducible repeat (first|refine zh ?_ _|refine zj ?_|refine zi ?_ _));exact BK823.out) k_ hn_))⟩)) (zE (by repeat (first|(with_reducible first|exact HB.out|apply ze|apply zd|apply zf|refine zk ?_ GE819.out|refine zk ?_ GE820.out|refine zk ?_ GE823.out)|exact HB.out))));have n3_:=zm (zF (g:=gb819) (o:=.cells #[.int .u64 a0_0, .slice A0_1 l0_1.length c0_1] 33 (0,0)) (by (with_reducible repeat (first|refine zh ?_ _|refine zj ?_|refine zi ?_ _));exact BK819.out) hb);have n4_:=zm (zF (g:=gb820) (o:=.cells #[.int .u64 x821000_2, .slice none 0 0] 33 (0,0)) (by (with_reducible repeat (first|refine zh ?_ _|refine zj ?_|refine zi ?_ _));exact BK820.out) hb);have n5_:=zm (zF (g:=gb823) (o:=.cells #[.int .u64 x824000_2, .slice Ao63 x824001_2.length co63] 33 (0,0)) (by (with_reducible repeat (first|refine zh ?_ _|refine zj ?_|refine zi ?_ _));exact BK823.out) hb);have n6_:=zm (zJ (by repeat (first|(with_reducible first|exact HB.out|apply ze|apply zd|apply zf|refine zk ?_ GE819.out|refine zk ?_ GE820.out|refine zk ?_ GE823.out)|exact HB.out)) hb);clear HO_820001;clear HO_824001;clear BK819;clear BK820;clear BK823;clear HB;have HO_820001:=n0_;have HO_824001:=n1_;have HO834:=n2_;have BK819:=n3_;have BK820:=n4_;have BK823:=n5_;have HB:=n6_;clear n0_ n1_ n2_ n3_ n4_ n5_ n6_;(try clear hb);(try clear hb2);(try clear hk);(try clear hi);(try clear ho0);have hcz65_0 : w64.cell? ⟨gb823,0,none⟩=some (.int .u64 x824000_2):=(zs BK823.out 0).trans rfl;have hcz65_1 : w64.cell? ⟨gb823,1,none⟩=some (.slice Ao63 x824001_2.length co63):=(zs BK823.out 1).trans rfl;have hfz65_0:=zx BK823.out 0;have hfz65_1:=zx BK823.out 1;obtain ⟨Ao66,co66,eo66⟩:=Kd.V_slice HO834.out;subst eo66;have hnb67:=NB819_820.out;have hnc67:=NB820_819.out;have hcz68_0 : w64.cell? ⟨gb819,0,none⟩=some (.int .u64 a0_0):=(zs BK819.out 0).trans rfl;have hcz68_1 : w64.cell? ⟨gb819,1,none⟩=some (.slice A0_1 l0_1.length c0_1):=(zs BK819.out 1).trans rfl;have hfz68_0:=zx BK819.out 0;have hfz68_1:=zx BK819.out 1;have hcz69_0 : w64.cell? ⟨gb820,0,none⟩=some (.int .u64 x821000_2):=(zs BK820.out 0).trans rfl;have hcz69_1 : w64.cell? ⟨gb820,1,none⟩=some (.slice none 0 0):=(zs BK820.out 1).trans rfl;have hfz69_0:=zx BK820.out 0;have hfz69_1:=zx BK820.out 1))
                refine bodyPost_ret (results_ct rfl _ _ gb820 33 #[.int .u64 a0_0, .slice A0_1 l0_1.length c0_1] (0,0) _ rfl (by (with_reducible repeat (first|refine zh ?_ _|refine zj ?_|refine zi ?_ _));refine zw (cs := #[.int .u64 a0_0, .slice none 0 0]) ?_ 1 _ rfl;(with_reducible repeat (first|refine zh ?_ _|refine zj ?_|refine zi ?_ _));refine zw (cs := #[.int .u64 x821000_2, .slice none 0 0]) ?_ 0 _ rfl;(with_reducible repeat (first|refine zh ?_ _|refine zj ?_|refine zi ?_ _|refine zv ?_ NB820_823.out _));exact BK820.out) Try.underlying33 rfl (by kernel_rfl)) rfl ?_
                exact ⟨_,by first|rfl|(simp [errW_none,errW_some] <;> rfl)|(simp [*,errW_none,errW_some] <;> rfl),by (with_reducible repeat (first|apply zA|apply zB|apply zC));exact zy (zI (p:=⟨gb820,1,none⟩) (zI (p:=⟨gb820,0,none⟩) (zI (p:=⟨gb823,1,none⟩) (zI (p:=⟨gb823,0,none⟩) (zy (zy HO_820001.out (fun k_ hk=>(⟨hk,hk.2.2.2⟩ : _∧k_≠gb823))) (fun k_ hk=>(⟨hk,hk.1.2.2.1⟩ : _∧k_≠gb820))) (fun _ hk=>hk.1.2) (.int .u64 t831)) (fun _ hk=>hk.1.2) (.slice Ao66 t832.length co66)) (fun _ hk=>hk.2) (.int .u64 a0_0)) (fun _ hk=>hk.2) (.slice A0_1 l0_1.length c0_1)) (fun _ hk=>hk.1.1.1),by repeat (first|(with_reducible first|exact HB.out|apply ze|apply zd|apply zf|refine zk ?_ GE819.out|refine zk ?_ GE820.out|refine zk ?_ GE823.out)|exact HB.out)⟩
           ·
            rw [if_neg c27] at H
            exact absurd H (by simp)
          ·
           rw [if_neg c26] at H
           exact absurd H (by simp)
         ·
          rw [if_neg c25] at H
          exact absurd H (by simp)
       case rest =>
        clear HC23
        try clear c1
        try clear c2
        try clear p2
        try clear c3
        try clear c4
        try clear c5
        try clear c6
        try clear p6
        try clear p8
        try clear q8
        try clear hx8
        try clear c9
        try clear c10
        try clear c12
        try clear c13
        try clear c16
        try clear c19
        try clear c20
        try clear c22
        try clear c22b0
        try clear c24
        try clear c25
        try clear c25b0
        try clear c26
        try clear c26b0
        try clear c27
        try clear c27b0
        try clear c30
        try clear c30b0
        try clear c31
        try clear c33
        try clear c33b0
        try clear c33b1
        try clear c34
        try clear c35
        try clear c41
        try clear c42
        try clear c44
        try clear c46
        try clear c48
        try clear c52
        try clear c52b0
        try clear c52b1
        try clear c53
        try clear c54
        try clear c60
        try clear c61
        try clear p64
        try clear c67
        try clear hcz14_0
        try clear hcz14_1
        try clear hcz15_0
        try clear hcz15_1
        try clear hcz17_0
        try clear hcz17_1
        try clear hcz21_0
        try clear hcz21_1
        try clear hcz36_0
        try clear hcz36_1
        try clear hcz39_0
        try clear hcz39_1
        try clear hcz43_0
        try clear hcz43_1
        try clear hcz46_0
        try clear hcz46_1
        try clear hcz49_0
        try clear hcz49_1
        try clear hcz50_0
        try clear hcz50_1
        try clear hcz55_0
        try clear hcz55_1
        try clear hcz58_0
        try clear hcz58_1
        try clear hcz62_0
        try clear hcz62_1
        try clear hcz65_0
        try clear hcz65_1
        try clear hcz68_0
        try clear hcz68_1
        try clear hcz69_0
        try clear hcz69_1
        try clear hfz14_0
        try clear hfz14_1
        try clear hfz15_0
        try clear hfz15_1
        try clear hfz17_0
        try clear hfz17_1
        try clear hfz21_0
        try clear hfz21_1
        try clear hfz36_0
        try clear hfz36_1
        try clear hfz39_0
        try clear hfz39_1
        try clear hfz43_0
        try clear hfz43_1
        try clear hfz46_0
        try clear hfz46_1
        try clear hfz49_0
        try clear hfz49_1
        try clear hfz50_0
        try clear hfz50_1
        try clear hfz55_0
        try clear hfz55_1
        try clear hfz58_0
        try clear hfz58_1
        try clear hfz62_0
        try clear hfz62_1
        try clear hfz65_0
        try clear hfz65_1
        try clear hfz68_0
        try clear hfz68_1
        try clear hfz69_0
        try clear hfz69_1
        try clear hx824_0
        try clear hx825_0
        try clear p2
        try clear p6
        try clear p8
        try clear p824
        try clear p825
        try clear q8
        try clear q824
        try clear q825
        obtain ⟨kq,x13_22,x821000_22,x824000_22,x824001_22,u824001,rfl,HA,HJ22,HO_820001,HO_824001,BK819,BK820,BK823,HB⟩:=hcut
        cases kq with
        | zero=>exact absurd HA.out (by simp [psalteryref11_Put.j3])
        | succ kj22 =>
         have H:=HA.out;clear HA
         simp only [psalteryref11_Put.j3] at H
         by_cases c70 : x13_22=true
         ·
          subst c70
          have H1 : (if 0≤x11_2 then (if x11_2 < (l1.length : Int) then ((psalteryref05_PutNum.f kj22 x824000_22 x824001_22 (IntKind.u64.wrap (rd l1 x11_2)) 45).bind fun bt837=>(if bt837.2.2=0 then (psalteryref11_Put.l0 kj22 l1 l2 a3 (wrap64 (x11_2+1)) a0_0 l0_1 bt837.1 bt837.2.1) else (some (a0_0,l0_1,bt837.2.2)))) else (none)) else (none))=some (r1,r2,r3):=by rw [if_pos rfl] at H;exact H
          clear H;have H:=H1;clear H1
          by_cases c71 : 0≤x11_2
          ·
           rw [if_pos c71] at H
           have c71b0 : decide (0≤x11_2)=true:=decide_eq_true c71
           clear c71
           by_cases c72 : x11_2 < (l1.length : Int)
           ·
            rw [if_pos c72] at H
            have c72b0 : decide (x11_2 < (l1.length : Int))=true:=decide_eq_true c72
            clear c72
            replace H:=Option.bind_eq_some_iff.mp H
            obtain ⟨⟨t837,t838,t841⟩,A730,H⟩:=H
            replace H : (if t841=0 then (psalteryref11_Put.l0 kj22 l1 l2 a3 (wrap64 (x11_2+1)) a0_0 l0_1 t837 t838) else (some (a0_0,l0_1,t841)))=some (r1,r2,r3):=H
            have A73:=zm A730;clear A730
            by_cases c74 : t841=0
            ·
             rw [if_pos c74] at H
             have c74b0 : (t841 == 0)=true:=beq_iff_eq.mpr c74
             have c74b1 : (t841 != 0)=false:=bne_eq_false_iff_eq.mpr c74
             clear c74
             have H' := zm H
             clear H
             try go_wp2
             have n0_:=zm (zC HO_820001.out);have n1_:=zm (zC HO_824001.out);have n2_:=zm (zj BK819.out);have n3_:=zm (zj BK820.out);have n4_:=zm (zj BK823.out);have n5_:=zm (zf HB.out);clear HO_820001;clear HO_824001;clear BK819;clear BK820;clear BK823;clear HB;have HO_820001:=n0_;have HO_824001:=n1_;have BK819:=n2_;have BK820:=n3_;have BK823:=n4_;have HB:=n5_;clear n0_ n1_ n2_ n3_ n4_ n5_
             have p836 : 0≤(x11_2 : Int):=of_decide_eq_true (by first|(with_reducible assumption)|assumption)
             have q836 : x11_2 < (l1.length : Int):=of_decide_eq_true (by first|(with_reducible assumption)|assumption)
             obtain ⟨ad836,e836,hx836_0⟩:=Kd.at_int HR1.out x11_2 p836 q836
             have hw836_0:=hx836_0
             cases e836
             replace hx836_0:=(HB.out.cell (zb w _ hx836_0)).trans hx836_0
             replace p836:=eq_true p836
             replace q836:=eq_true q836
             obtain ⟨Ao76,co76,eo76⟩:=Kd.V_slice HO_824001.out
             (first|subst eo76|(injection eo76 with f1_ f2_ f3_;have f4_:=f1_.symm;have f5_:=f3_.symm;clear f1_ f2_ f3_;subst f4_;subst f5_))
             refine start_ (n:=12) (S:=fun w' => w'.cell? ⟨gb823,0,none⟩=some (.int .u64 x824000_22)∧w'.cell? ⟨gb823,1,none⟩=some (.slice Ao76 x824001_22.length co76)∧w'.cell? (ad836.add (x11_2).toNat)=some (.int .i64 (rd l1 x11_2))) (ds := [10]) #[false,false,false,false,false,false,false,false,false,false,false,false] (by kernel_rfl) rfl rfl ⟨(zs BK823.out 0).trans rfl,(zs BK823.out 1).trans rfl,((HB.out.cell (zb w _ hw836_0)).trans hw836_0)⟩ (fun hHeld => ?_);refine with_tabW psalteryref11_Put.tab18 psalteryref11_Put.bits18 (fun HT_ HW_ => ?_)
             generalize wc.drew=w75 at HO_820001 HO_824001 BK819 BK820 BK823 HB hx836_0 hHeld ⊢
             refine pure_ (i:=1) (N:=some 67) (v := ?_) (a' := ?_) #[false,true,false,false,false,false,false,false,false,false,false,false] rfl rfl (any_of HT_.out (by kernel_rfl)) (fun _ _ _ h=>h) (Or.inl ⟨by rfl, ?_⟩) ?_ ?_
             rotate_left
             ·
              intro w'
              go_simp
              with_reducible rfl
             rotate_left
             ·
              simp only [Act.put,List.setIfInBounds_toArray,List.set_cons_zero,List.set_cons_succ,i64_w,i32_w]
              rfl
             refine pure_ (i:=2) (N:=some 68) (v := ?_) (a' := ?_) #[false,true,true,false,false,false,false,false,false,false,false,false] rfl rfl (any_of HT_.out (by kernel_rfl)) (fun _ _ _ h=>h) (Or.inl ⟨by rfl, ?_⟩) ?_ ?_
             rotate_left
             ·
              intro w'
              go_simp
              with_reducible rfl
             rotate_left
             ·
              simp only [Act.put,List.setIfInBounds_toArray,List.set_cons_zero,List.set_cons_succ,i64_w,i32_w]
              rfl
             refine pure_ (i:=3) (N:=some 69) (v := ?_) (a' := ?_) #[false,true,true,true,false,false,false,false,false,false,false,false] rfl rfl (any_of HT_.out (by kernel_rfl)) (fun _ _ _ h=>h) (Or.inl ⟨by rfl, ?_⟩) ?_ ?_
             rotate_left
             ·
              intro w'
              go_simp
              with_reducible rfl
             rotate_left
             ·
              simp only [Act.put,List.setIfInBounds_toArray,List.set_cons_zero,List.set_cons_succ,i64_w,i32_w]
              rfl
             refine take_ (i:=0) (N:=some 66) (v := ?_) (a' := ?_) #[true,true,true,true,false,false,false,false,false,false,false,false] rfl rfl (take_ofW HT_.out HW_.out (by kernel_rfl)) (fun _ _ _ h=>h) (Or.inl ⟨by rfl, ?_⟩) hHeld ?_ ?_
             rotate_left
             ·
              rintro w' ⟨s0,s1,s2⟩
              go_simp
              with_reducible rfl
             rotate_left
             ·
              simp only [Act.put,List.setIfInBounds_toArray,List.set_cons_zero,List.set_cons_succ,i64_w,i32_w]
              rfl
             refine take_ (i:=4) (N:=some 70) (v := ?_) (a' := ?_) #[true,true,true,true,true,false,false,false,false,false,false,false] rfl rfl (take_ofW HT_.out HW_.out (by kernel_rfl)) (fun _ _ _ h=>h) (Or.inl ⟨by rfl, ?_⟩) hHeld ?_ ?_
             rotate_left
             ·
              rintro w' ⟨s0,s1,s2⟩
              go_simp
              with_reducible rfl
             rotate_left
             ·
              simp only [Act.put,List.setIfInBounds_toArray,List.set_cons_zero,List.set_cons_succ,i64_w,i32_w]
              rfl
             refine pure_ (i:=5) (N:=some 71) (v := ?_) (a' := ?_) #[true,true,true,true,true,true,false,false,false,false,false,false] rfl rfl (any_of HT_.out (by kernel_rfl)) (fun _ _ _ h=>h) (Or.inl ⟨by rfl, ?_⟩) ?_ ?_
             rotate_left
             ·
              intro w'
              go_simp
              with_reducible rfl
             rotate_left
             ·
              simp only [Act.put,List.setIfInBounds_toArray,List.set_cons_zero,List.set_cons_succ,i64_w,i32_w]
              rfl
             refine one_ (i:=6) (N:=some 72) #[true,true,true,true,true,true,true,false,false,false,false,false] rfl rfl (one_of HT_.out (by kernel_rfl)) (by decide) (fun K hK => ?_)
             refine goes_ Try.func38 (by kernel_rfl) rfl #[.agg #[.int .u64 x824000_22, .slice Ao76 x824001_22.length co76], .int .u64 (IntKind.u64.wrap (rd l1 x11_2)), .int .u64 45] (by rfl) rfl rfl (by (try simp only [List.map_toArray,List.map_cons,List.map_nil]);first|done|rfl|(simp only [List.length_drop,List.length_take];rfl)) ?_
             with_reducible refine (psalteryref05_PutNum.calls kj22 x824000_22 (fun k_=>((P0_1_ k_∨w.heap.size≤k_)∧(k_≠gb819∧(k_≠gb820∧k_≠gb823)))) _ _ x824001_22 (IntKind.u64.wrap (rd l1 x11_2)) 45 t837 t838 t841 _ ?side1 A73.out).mono ?_
             (case side1=>exact HO_824001.out)
             rintro e w77 ⟨v839,rfl,ho0,hb⟩
             refine ⟨_,rfl, ?_⟩
             have n0_:=zm (Kd.V_below (by (with_reducible repeat (first|apply zA|apply zB|apply zC));exact HO_820001.out) hb)
             have n1_:=zm (Kd.V_below (by (with_reducible repeat (first|apply zA|apply zB|apply zC));exact HO_824001.out) hb)
             have n2_:=zm (Kd.V_lower (zy (ok' := fun k_=>(P0_1_ k_∨w.heap.size≤k_)∧k_≠gb819∧k_≠gb820∧k_≠gb823) ho0 (fun k_ hk_=>⟨Or.elim hk_ (fun hs_=>hs_.1) (fun hn_=>(.inr (Nat.le_trans (zE (by repeat (first|(with_reducible first|exact HB.out|apply ze|apply zd|apply zf|refine zk ?_ GE819.out|refine zk ?_ GE820.out|refine zk ?_ GE823.out)|exact HB.out))) hn_))),Or.elim hk_ (fun hs_=>hs_.2.1) (fun hn_=>(Kd.freshB (g:=gb819) (o:=.cells #[.int .u64 a0_0, .slice A0_1 l0_1.length c0_1] 33 (0,0)) (by (with_reducible repeat (first|refine zh ?_ _|refine zj ?_|refine zi ?_ _));exact BK819.out) k_ hn_)),Or.elim hk_ (fun hs_=>hs_.2.2.1) (fun hn_=>(Kd.freshB (g:=gb820) (o:=.cells #[.int .u64 x821000_22, .slice none 0 0] 33 (0,0)) (by (with_reducible repeat (first|refine zh ?_ _|refine zj ?_|refine zi ?_ _));exact BK820.out) k_ hn_)),Or.elim hk_ (fun hs_=>hs_.2.2.2) (fun hn_=>(Kd.freshB (g:=gb823) (o:=.cells #[.int .u64 x824000_22, .slice Ao76 x824001_22.length co76] 33 (0,0)) (by (with_reducible repeat (first|refine zh ?_ _|refine zj ?_|refine zi ?_ _));exact BK823.out) k_ hn_))⟩)) (zE (by repeat (first|(with_reducible first|exact HB.out|apply ze|apply zd|apply zf|refine zk ?_ GE819.out|refine zk ?_ GE820.out|refine zk ?_ GE823.out)|exact HB.out))))
             have n3_:=zm (zF (g:=gb819) (o:=.cells #[.int .u64 a0_0, .slice A0_1 l0_1.length c0_1] 33 (0,0)) (by (with_reducible repeat (first|refine zh ?_ _|refine zj ?_|refine zi ?_ _));exact BK819.out) hb)
             have n4_:=zm (zF (g:=gb820) (o:=.cells #[.int .u64 x821000_22, .slice none 0 0] 33 (0,0)) (by (with_reducible repeat (first|refine zh ?_ _|refine zj ?_|refine zi ?_ _));exact BK820.out) hb)
             have n5_:=zm (zF (g:=gb823) (o:=.cells #[.int .u64 x824000_22, .slice Ao76 x824001_22.length co76] 33 (0,0)) (by (with_reducible repeat (first|refine zh ?_ _|refine zj ?_|refine zi ?_ _));exact BK823.out) hb)
             have n6_:=zm (zJ (by repeat (first|(with_reducible first|exact HB.out|apply ze|apply zd|apply zf|refine zk ?_ GE819.out|refine zk ?_ GE820.out|refine zk ?_ GE823.out)|exact HB.out)) hb)
             clear HO_820001;clear HO_824001;clear BK819;clear BK820;clear BK823;clear HB;have HO_820001:=n0_;have HO_824001:=n1_;have HO840:=n2_;have BK819:=n3_;have BK820:=n4_;have BK823:=n5_;have HB:=n6_;clear n0_ n1_ n2_ n3_ n4_ n5_ n6_
             (try clear hb)
             (try clear hb2)
             (try clear hk)
             (try clear hi)
             (try clear ho0)
             obtain ⟨Ao79,co79,eo79⟩:=Kd.V_slice HO840.out
             (first|subst eo79|(injection eo79 with f1_ f2_ f3_;have f4_:=f1_.symm;have f5_:=f3_.symm;clear f1_ f2_ f3_;subst f4_;subst f5_))
             refine hK.out _ _ ⟨(zs BK823.out 0).trans rfl,(zs BK823.out 1).trans rfl,((HB.out.cell (zb w _ hw836_0)).trans hw836_0)⟩ (fun hHeld => ?_)
             clear hK K
             refine norm_ (a' := ?_) ?_ ?_
             rotate_left
             ·
              show Act.put _ (some 72) _=_
              simp only [Act.put,List.setIfInBounds_toArray,List.set_cons_zero,List.set_cons_succ,i64_w,i32_w]
              rfl
             refine pure_ (i:=7) (N:=some 65) (v := ?_) (a' := ?_) #[true,true,true,true,true,true,true,true,false,false,false,false] rfl rfl (any_of HT_.out (by kernel_rfl)) (fun _ _ _ h=>h) (Or.inl ⟨by rfl, ?_⟩) ?_ ?_
             rotate_left
             ·
              intro w'
              go_simp
              with_reducible rfl
             rotate_left
             ·
              simp only [Act.put,List.setIfInBounds_toArray,List.set_cons_zero,List.set_cons_succ,i64_w,i32_w]
              rfl
             refine pure_ (i:=8) (N:=some 73) (v := ?_) (a' := ?_) #[true,true,true,true,true,true,true,true,true,false,false,false] rfl rfl (any_of HT_.out (by kernel_rfl)) (fun _ _ _ h=>h) (Or.inl ⟨by rfl, ?_⟩) ?_ ?_
             rotate_left
             ·
              intro w'
              go_simp
              with_reducible rfl
             rotate_left
             ·
              simp only [Act.put,List.setIfInBounds_toArray,List.set_cons_zero,List.set_cons_succ,i64_w,i32_w]
              rfl
             refine pure_ (i:=9) (N:=some 74) (v := ?_) (a' := ?_) #[true,true,true,true,true,true,true,true,true,true,false,false] rfl rfl (any_of HT_.out (by kernel_rfl)) (fun _ _ _ h=>h) (Or.inl ⟨by rfl, ?_⟩) ?_ ?_
             rotate_left
             ·
              intro w'
              go_simp
              with_reducible rfl
             rotate_left
             ·
              simp only [Act.put,List.setIfInBounds_toArray,List.set_cons_zero,List.set_cons_succ,i64_w,i32_w]
              rfl
             refine last_ (i:=10) (N:=none) #[true,true,true,true,true,true,true,true,true,true,true,false] rfl rfl (one_of HT_.out (by kernel_rfl)) (by decide) (fun K hK => ?_)
             have hs78 : w77.cell? ⟨gb823,0,none⟩=some (.int .u64 x824000_22):=(zs BK823.out 0).trans rfl
             have hfs78:=zx BK823.out 0
             have hns78_0:=NB819_823.out;have hns78_1:=NB820_823.out;have hms78_0:=NB823_819.out;have hms78_1:=NB823_820.out
             have hs80 : w77.cell? ⟨gb823,1,none⟩=some (.slice Ao76 x824001_22.length co76):=(zs BK823.out 1).trans rfl
             have hfs80:=zx BK823.out 1
             have hns80_0:=NB819_823.out;have hns80_1:=NB820_823.out;have hms80_0:=NB823_819.out;have hms80_1:=NB823_820.out
             refine skip_ (w1 := ?_) (by rfl) rfl ?_ ?_
             rotate_left
             ·
              go_simp
              rfl
             refine hK.out _ _ ?_
             clear hK K
             refine pure_ (i:=11) (N:=some 12) (v := ?_) (a' := ?_) #[true,true,true,true,true,true,true,true,true,true,true,true] rfl rfl (any_of HT_.out (by kernel_rfl)) (fun _ _ _ h=>h) (Or.inl ⟨by rfl, ?_⟩) ?_ ?_
             rotate_left
             ·
              intro w'
              go_simp
              with_reducible rfl
             rotate_left
             ·
              simp only [Act.put,List.setIfInBounds_toArray,List.set_cons_zero,List.set_cons_succ,i64_w,i32_w]
              rfl
             refine done_ (done_of HT_.out (by kernel_rfl)) ?_
             try go_wp2
             go_roundg kj22
             case measure=>have:=HJ4.out;have:=HK2.out;have:=HJ22.out;omega
             case rel=>exact ⟨(wrap64 (x11_2+1)),(x821000_22),(t837),(t838),(.slice Ao79 t838.length co79),(by first|rfl|(simp;done)|(simp [*];done)),H',⟨by have:=HJ4.out;have:=HK2.out;have:=HJ22.out;omega⟩,⟨by (with_reducible repeat (first|apply zA|apply zB|apply zC));exact zy (zI (p:=⟨gb823,1,none⟩) (zI (p:=⟨gb823,0,none⟩) (zy HO_820001.out (fun k_ hk=>(⟨hk,hk.2.2.2⟩ : _∧k_≠gb823))) (fun _ hk=>hk.2) (.int .u64 t837)) (fun _ hk=>hk.2) (.slice Ao79 t838.length co79)) (fun _ hk=>⟨hk.1.1,⟨hk.1.2.1,⟨hk.1.2.2.1,hk.1.2.2.2⟩⟩⟩)⟩,⟨by (with_reducible repeat (first|apply zA|apply zB|apply zC));exact zy (zI (p:=⟨gb823,1,none⟩) (zI (p:=⟨gb823,0,none⟩) (zy HO840.out (fun k_ hk=>(⟨hk,hk.2.2.2⟩ : _∧k_≠gb823))) (fun _ hk=>hk.2) (.int .u64 t837)) (fun _ hk=>hk.2) (.slice Ao79 t838.length co79)) (fun _ hk=>⟨hk.1.1,⟨hk.1.2.1,⟨hk.1.2.2.1,hk.1.2.2.2⟩⟩⟩)⟩,⟨by (with_reducible repeat (first|refine zh ?_ _|refine zj ?_|refine zi ?_ _|refine zv ?_ NB819_823.out _));exact BK819.out⟩,⟨by (with_reducible repeat (first|refine zh ?_ _|refine zj ?_|refine zi ?_ _|refine zv ?_ NB820_823.out _));exact BK820.out⟩,⟨by (with_reducible repeat (first|refine zh ?_ _|refine zj ?_|refine zi ?_ _));refine zw (cs := #[.int .u64 t837, .slice Ao76 x824001_22.length co76]) ?_ 1 _ rfl;(with_reducible repeat (first|refine zh ?_ _|refine zj ?_|refine zi ?_ _));refine zw (cs := #[.int .u64 x824000_22, .slice Ao76 x824001_22.length co76]) ?_ 0 _ rfl;(with_reducible repeat (first|refine zh ?_ _|refine zj ?_|refine zi ?_ _));exact BK823.out⟩,⟨by repeat (first|(with_reducible first|exact HB.out|apply ze|apply zd|apply zf|refine zk ?_ GE819.out|refine zk ?_ GE820.out|refine zk ?_ GE823.out)|exact HB.out)⟩⟩
            ·
             rw [if_neg c74] at H
             have c74b0 : (t841 == 0)=false:=beq_eq_false_iff_ne.mpr c74
             have c74b1 : (t841 != 0)=true:=bne_iff_ne.mpr c74
             simp only [Option.some.injEq,Prod.mk.injEq] at H
             obtain ⟨rfl,rfl,rfl⟩:=H
             try go_wp2
             have n0_:=zm (zC HO_820001.out);have n1_:=zm (zC HO_824001.out);have n2_:=zm (zj BK819.out);have n3_:=zm (zj BK820.out);have n4_:=zm (zj BK823.out);have n5_:=zm (zf HB.out);clear HO_820001;clear HO_824001;clear BK819;clear BK820;clear BK823;clear HB;have HO_820001:=n0_;have HO_824001:=n1_;have BK819:=n2_;have BK820:=n3_;have BK823:=n4_;have HB:=n5_;clear n0_ n1_ n2_ n3_ n4_ n5_
             have p836 : 0≤(x11_2 : Int):=of_decide_eq_true (by first|(with_reducible assumption)|assumption)
             have q836 : x11_2 < (l1.length : Int):=of_decide_eq_true (by first|(with_reducible assumption)|assumption)
             obtain ⟨ad836,e836,hx836_0⟩:=Kd.at_int HR1.out x11_2 p836 q836
             have hw836_0:=hx836_0
             cases e836
             replace hx836_0:=(HB.out.cell (zb w _ hx836_0)).trans hx836_0
             replace p836:=eq_true p836
             replace q836:=eq_true q836
             obtain ⟨Ao82,co82,eo82⟩:=Kd.V_slice HO_824001.out
             (first|subst eo82|(injection eo82 with f1_ f2_ f3_;have f4_:=f1_.symm;have f5_:=f3_.symm;clear f1_ f2_ f3_;subst f4_;subst f5_))
             refine start_ (n:=12) (S:=fun w' => w'.cell? ⟨gb823,0,none⟩=some (.int .u64 x824000_22)∧w'.cell? ⟨gb823,1,none⟩=some (.slice Ao82 x824001_22.length co82)∧w'.cell? (ad836.add (x11_2).toNat)=some (.int .i64 (rd l1 x11_2))) (ds := [10]) #[false,false,false,false,false,false,false,false,false,false,false,false] (by kernel_rfl) rfl rfl ⟨(zs BK823.out 0).trans rfl,(zs BK823.out 1).trans rfl,((HB.out.cell (zb w _ hw836_0)).trans hw836_0)⟩ (fun hHeld => ?_);refine with_tabW psalteryref11_Put.tab18 psalteryref11_Put.bits18 (fun HT_ HW_ => ?_)
             generalize wc.drew=w81 at HO_820001 HO_824001 BK819 BK820 BK823 HB hx836_0 hHeld ⊢
             refine pure_ (i:=1) (N:=some 67) (v := ?_) (a' := ?_) #[false,true,false,false,false,false,false,false,false,false,false,false] rfl rfl (any_of HT_.out (by kernel_rfl)) (fun _ _ _ h=>h) (Or.inl ⟨by rfl, ?_⟩) ?_ ?_
             rotate_left
             ·
              intro w'
              go_simp
              with_reducible rfl
             rotate_left
             ·
              simp only [Act.put,List.setIfInBounds_toArray,List.set_cons_zero,List.set_cons_succ,i64_w,i32_w]
              rfl
             refine pure_ (i:=2) (N:=some 68) (v := ?_) (a' := ?_) #[false,true,true,false,false,false,false,false,false,false,false,false] rfl rfl (any_of HT_.out (by kernel_rfl)) (fun _ _ _ h=>h) (Or.inl ⟨by rfl, ?_⟩) ?_ ?_
             rotate_left
             ·
              intro w'
              go_simp
              with_reducible rfl
             rotate_left
             ·
              simp only [Act.put,List.setIfInBounds_toArray,List.set_cons_zero,List.set_cons_succ,i64_w,i32_w]
              rfl
             refine pure_ (i:=3) (N:=some 69) (v := ?_) (a' := ?_) #[false,true,true,true,false,false,false,false,false,false,false,false] rfl rfl (any_of HT_.out (by kernel_rfl)) (fun _ _ _ h=>h) (Or.inl ⟨by rfl, ?_⟩) ?_ ?_
             rotate_left
             ·
              intro w'
              go_simp
              with_reducible rfl
             rotate_left
             ·
              simp only [Act.put,List.setIfInBounds_toArray,List.set_cons_zero,List.set_cons_succ,i64_w,i32_w]
              rfl
             refine take_ (i:=0) (N:=some 66) (v := ?_) (a' := ?_) #[true,true,true,true,false,false,false,false,false,false,false,false] rfl rfl (take_ofW HT_.out HW_.out (by kernel_rfl)) (fun _ _ _ h=>h) (Or.inl ⟨by rfl, ?_⟩) hHeld ?_ ?_
             rotate_left
             ·
              rintro w' ⟨s0,s1,s2⟩
              go_simp
              with_reducible rfl
             rotate_left
             ·
              simp only [Act.put,List.setIfInBounds_toArray,List.set_cons_zero,List.set_cons_succ,i64_w,i32_w]
              rfl
             refine take_ (i:=4) (N:=some 70) (v := ?_) (a' := ?_) #[true,true,true,true,true,false,false,false,false,false,false,false] rfl rfl (take_ofW HT_.out HW_.out (by kernel_rfl)) (fun _ _ _ h=>h) (Or.inl ⟨by rfl, ?_⟩) hHeld ?_ ?_
             rotate_left
             ·
              rintro w' ⟨s0,s1,s2⟩
              go_simp
              with_reducible rfl
             rotate_left
             ·
              simp only [Act.put,List.setIfInBounds_toArray,List.set_cons_zero,List.set_cons_succ,i64_w,i32_w]
              rfl
             refine pure_ (i:=5) (N:=some 71) (v := ?_) (a' := ?_) #[true,true,true,true,true,true,false,false,false,false,false,false] rfl rfl (any_of HT_.out (by kernel_rfl)) (fun _ _ _ h=>h) (Or.inl ⟨by rfl, ?_⟩) ?_ ?_
             rotate_left
             ·
              intro w'
              go_simp
              with_reducible rfl
             rotate_left
             ·
              simp only [Act.put,List.setIfInBounds_toArray,List.set_cons_zero,List.set_cons_succ,i64_w,i32_w]
              rfl
             refine one_ (i:=6) (N:=some 72) #[true,true,true,true,true,true,true,false,false,false,false,false] rfl rfl (one_of HT_.out (by kernel_rfl)) (by decide) (fun K hK => ?_)
             refine goes_ Try.func38 (by kernel_rfl) rfl #[.agg #[.int .u64 x824000_22, .slice Ao82 x824001_22.length co82], .int .u64 (IntKind.u64.wrap (rd l1 x11_2)), .int .u64 45] (by rfl) rfl rfl (by (try simp only [List.map_toArray,List.map_cons,List.map_nil]);first|done|rfl|(simp only [List.length_drop,List.length_take];rfl)) ?_
             with_reducible refine (psalteryref05_PutNum.calls kj22 x824000_22 (fun k_=>((P0_1_ k_∨w.heap.size≤k_)∧(k_≠gb819∧(k_≠gb820∧k_≠gb823)))) _ _ x824001_22 (IntKind.u64.wrap (rd l1 x11_2)) 45 t837 t838 t841 _ ?side1 A73.out).mono ?_
             (case side1=>exact HO_824001.out)
             rintro e w83 ⟨v839,rfl,ho0,hb⟩
             refine ⟨_,rfl, ?_⟩
             have n0_:=zm (Kd.V_below (by (with_reducible repeat (first|apply zA|apply zB|apply zC));exact HO_820001.out) hb)
             have n1_:=zm (Kd.V_below (by (with_reducible repeat (first|apply zA|apply zB|apply zC));exact HO_824001.out) hb)
             have n2_:=zm (Kd.V_lower (zy (ok' := fun k_=>(P0_1_ k_∨w.heap.size≤k_)∧k_≠gb819∧k_≠gb820∧k_≠gb823) ho0 (fun k_ hk_=>⟨Or.elim hk_ (fun hs_=>hs_.1) (fun hn_=>(.inr (Nat.le_trans (zE (by repeat (first|(with_reducible first|exact HB.out|apply ze|apply zd|apply zf|refine zk ?_ GE819.out|refine zk ?_ GE820.out|refine zk ?_ GE823.out)|exact HB.out))) hn_))),Or.elim hk_ (fun hs_=>hs_.2.1) (fun hn_=>(Kd.freshB (g:=gb819) (o:=.cells #[.int .u64 a0_0, .slice A0_1 l0_1.length c0_1] 33 (0,0)) (by (with_reducible repeat (first|refine zh ?_ _|refine zj ?_|refine zi ?_ _));exact BK819.out) k_ hn_)),Or.elim hk_ (fun hs_=>hs_.2.2.1) (fun hn_=>(Kd.freshB (g:=gb820) (o:=.cells #[.int .u64 x821000_22, .slice none 0 0] 33 (0,0)) (by (with_reducible repeat (first|refine zh ?_ _|refine zj ?_|refine zi ?_ _));exact BK820.out) k_ hn_)),Or.elim hk_ (fun hs_=>hs_.2.2.2) (fun hn_=>(Kd.freshB (g:=gb823) (o:=.cells #[.int .u64 x824000_22, .slice Ao82 x824001_22.length co82] 33 (0,0)) (by (with_reducible repeat (first|refine zh ?_ _|refine zj ?_|refine zi ?_ _));exact BK823.out) k_ hn_))⟩)) (zE (by repeat (first|(with_reducible first|exact HB.out|apply ze|apply zd|apply zf|refine zk ?_ GE819.out|refine zk ?_ GE820.out|refine zk ?_ GE823.out)|exact HB.out))))
             have n3_:=zm (zF (g:=gb819) (o:=.cells #[.int .u64 a0_0, .slice A0_1 l0_1.length c0_1] 33 (0,0)) (by (with_reducible repeat (first|refine zh ?_ _|refine zj ?_|refine zi ?_ _));exact BK819.out) hb)
             have n4_:=zm (zF (g:=gb820) (o:=.cells #[.int .u64 x821000_22, .slice none 0 0] 33 (0,0)) (by (with_reducible repeat (first|refine zh ?_ _|refine zj ?_|refine zi ?_ _));exact BK820.out) hb)
             have n5_:=zm (zF (g:=gb823) (o:=.cells #[.int .u64 x824000_22, .slice Ao82 x824001_22.length co82] 33 (0,0)) (by (with_reducible repeat (first|refine zh ?_ _|refine zj ?_|refine zi ?_ _));exact BK823.out) hb)
             have n6_:=zm (zJ (by repeat (first|(with_reducible first|exact HB.out|apply ze|apply zd|apply zf|refine zk ?_ GE819.out|refine zk ?_ GE820.out|refine zk ?_ GE823.out)|exact HB.out)) hb)
             clear HO_820001;clear HO_824001;clear BK819;clear BK820;clear BK823;clear HB;have HO_820001:=n0_;have HO_824001:=n1_;have HO840:=n2_;have BK819:=n3_;have BK820:=n4_;have BK823:=n5_;have HB:=n6_;clear n0_ n1_ n2_ n3_ n4_ n5_ n6_
             (try clear hb)
             (try clear hb2)
             (try clear hk)
             (try clear hi)
             (try clear ho0)
             obtain ⟨Ao85,co85,eo85⟩:=Kd.V_slice HO840.out
             (first|subst eo85|(injection eo85 with f1_ f2_ f3_;have f4_:=f1_.symm;have f5_:=f3_.symm;clear f1_ f2_ f3_;subst f4_;subst f5_))
             refine hK.out _ _ ⟨(zs BK823.out 0).trans rfl,(zs BK823.out 1).trans rfl,((HB.out.cell (zb w _ hw836_0)).trans hw836_0)⟩ (fun hHeld => ?_)
             clear hK K
             refine norm_ (a' := ?_) ?_ ?_
             rotate_left
             ·
              show Act.put _ (some 72) _=_
              simp only [Act.put,List.setIfInBounds_toArray,List.set_cons_zero,List.set_cons_succ,i64_w,i32_w]
              rfl
             refine pure_ (i:=7) (N:=some 65) (v := ?_) (a' := ?_) #[true,true,true,true,true,true,true,true,false,false,false,false] rfl rfl (any_of HT_.out (by kernel_rfl)) (fun _ _ _ h=>h) (Or.inl ⟨by rfl, ?_⟩) ?_ ?_
             rotate_left
             ·
              intro w'
              go_simp
              with_reducible rfl
             rotate_left
             ·
              simp only [Act.put,List.setIfInBounds_toArray,List.set_cons_zero,List.set_cons_succ,i64_w,i32_w]
              rfl
             refine pure_ (i:=8) (N:=some 73) (v := ?_) (a' := ?_) #[true,true,true,true,true,true,true,true,true,false,false,false] rfl rfl (any_of HT_.out (by kernel_rfl)) (fun _ _ _ h=>h) (Or.inl ⟨by rfl, ?_⟩) ?_ ?_
             rotate_left
             ·
              intro w'
              go_simp
              with_reducible rfl
             rotate_left
             ·
              simp only [Act.put,List.setIfInBounds_toArray,List.set_cons_zero,List.set_cons_succ,i64_w,i32_w]
              rfl
             refine pure_ (i:=9) (N:=some 74) (v := ?_) (a' := ?_) #[true,true,true,true,true,true,true,true,true,true,false,false] rfl rfl (any_of HT_.out (by kernel_rfl)) (fun _ _ _ h=>h) (Or.inl ⟨by rfl, ?_⟩) ?_ ?_
             rotate_left
             ·
              intro w'
              go_simp
              with_reducible rfl
             rotate_left
             ·
              simp only [Act.put,List.setIfInBounds_toArray,List.set_cons_zero,List.set_cons_succ,i64_w,i32_w]
              rfl
             refine last_ (i:=10) (N:=none) #[true,true,true,true,true,true,true,true,true,true,true,false] rfl rfl (one_of HT_.out (by kernel_rfl)) (by decide) (fun K hK => ?_)
             have hs84 : w83.cell? ⟨gb823,0,none⟩=some (.int .u64 x824000_22):=(zs BK823.out 0).trans rfl
             have hfs84:=zx BK823.out 0
             have hns84_0:=NB819_823.out;have hns84_1:=NB820_823.out;have hms84_0:=NB823_819.out;have hms84_1:=NB823_820.out
             have hs86 : w83.cell? ⟨gb823,1,none⟩=some (.slice Ao82 x824001_22.length co82):=(zs BK823.out 1).trans rfl
             have hfs86:=zx BK823.out 1
             have hns86_0:=NB819_823.out;have hns86_1:=NB820_823.out;have hms86_0:=NB823_819.out;have hms86_1:=NB823_820.out
             refine skip_ (w1 := ?_) (by rfl) rfl ?_ ?_
             rotate_left
             ·
              go_simp
              rfl
             refine hK.out _ _ ?_
             clear hK K
             refine pure_ (i:=11) (N:=some 12) (v := ?_) (a' := ?_) #[true,true,true,true,true,true,true,true,true,true,true,true] rfl rfl (any_of HT_.out (by kernel_rfl)) (fun _ _ _ h=>h) (Or.inl ⟨by rfl, ?_⟩) ?_ ?_
             rotate_left
             ·
              intro w'
              go_simp
              with_reducible rfl
             rotate_left
             ·
              simp only [Act.put,List.setIfInBounds_toArray,List.set_cons_zero,List.set_cons_succ,i64_w,i32_w]
              rfl
             refine done_ (done_of HT_.out (by kernel_rfl)) ?_
             have hnb87:=NB819_820.out;have hnc87:=NB820_819.out;have hnb88:=NB819_823.out;have hnc88:=NB823_819.out
             have hcz89_0 : w83.cell? ⟨gb819,0,none⟩=some (.int .u64 a0_0):=(zs BK819.out 0).trans rfl
             have hcz89_1 : w83.cell? ⟨gb819,1,none⟩=some (.slice A0_1 l0_1.length c0_1):=(zs BK819.out 1).trans rfl
             have hfz89_0:=zx BK819.out 0
             have hfz89_1:=zx BK819.out 1
             have hnb90:=NB820_823.out;have hnc90:=NB823_820.out
             have hcz91_0 : w83.cell? ⟨gb820,0,none⟩=some (.int .u64 x821000_22):=(zs BK820.out 0).trans rfl
             have hcz91_1 : w83.cell? ⟨gb820,1,none⟩=some (.slice none 0 0):=(zs BK820.out 1).trans rfl
             have hfz91_0:=zx BK820.out 0
             have hfz91_1:=zx BK820.out 1
             try go_wp2
             refine bodyPost_ret (results_ct rfl _ _ gb820 33 #[.int .u64 a0_0, .slice A0_1 l0_1.length c0_1] (0,0) _ rfl (by (with_reducible repeat (first|refine zh ?_ _|refine zj ?_|refine zi ?_ _));refine zw (cs := #[.int .u64 a0_0, .slice none 0 0]) ?_ 1 _ rfl;(with_reducible repeat (first|refine zh ?_ _|refine zj ?_|refine zi ?_ _));refine zw (cs := #[.int .u64 x821000_22, .slice none 0 0]) ?_ 0 _ rfl;(with_reducible repeat (first|refine zh ?_ _|refine zj ?_|refine zi ?_ _|refine zv ?_ NB820_823.out _));exact BK820.out) Try.underlying33 rfl (by kernel_rfl)) rfl ?_
             exact ⟨_,by first|rfl|(simp [errW_none,errW_some] <;> rfl)|(simp [*,errW_none,errW_some] <;> rfl),by (with_reducible repeat (first|apply zA|apply zB|apply zC));exact zy (zI (p:=⟨gb820,1,none⟩) (zI (p:=⟨gb820,0,none⟩) (zI (p:=⟨gb823,1,none⟩) (zI (p:=⟨gb823,0,none⟩) (zy (zy HO_820001.out (fun k_ hk=>(⟨hk,hk.2.2.2⟩ : _∧k_≠gb823))) (fun k_ hk=>(⟨hk,hk.1.2.2.1⟩ : _∧k_≠gb820))) (fun _ hk=>hk.1.2) (.int .u64 t837)) (fun _ hk=>hk.1.2) (.slice Ao85 t838.length co85)) (fun _ hk=>hk.2) (.int .u64 a0_0)) (fun _ hk=>hk.2) (.slice A0_1 l0_1.length c0_1)) (fun _ hk=>hk.1.1.1),by repeat (first|(with_reducible first|exact HB.out|apply ze|apply zd|apply zf|refine zk ?_ GE819.out|refine zk ?_ GE820.out|refine zk ?_ GE823.out)|exact HB.out)⟩
           ·
            rw [if_neg c72] at H
            exact absurd H (by simp)
          ·
           rw [if_neg c71] at H
           exact absurd H (by simp)
         ·
          replace c70:=Bool.eq_false_iff.mpr c70
          subst c70
          have H1 : (psalteryref11_Put.l0 kj22 l1 l2 a3 (wrap64 (x11_2+1)) a0_0 l0_1 x824000_22 x824001_22)=some (r1,r2,r3):=by rw [if_neg (show ¬ (false=true) by decide)] at H;exact H
          clear H;have H:=H1;clear H1
          have H' := zm H
          clear H
          go_wp2
          go_roundg kj22
          case measure=>have:=HJ4.out;have:=HK2.out;have:=HJ22.out;omega
          case rel=>exact ⟨(wrap64 (x11_2+1)),(x821000_22),(x824000_22),(x824001_22),(u824001),(by first|rfl|(simp;done)|(simp [*];done)),H',⟨by have:=HJ4.out;have:=HK2.out;have:=HJ22.out;omega⟩,⟨by (with_reducible repeat (first|apply zA|apply zB|apply zC));exact HO_820001.out⟩,⟨by (with_reducible repeat (first|apply zA|apply zB|apply zC));exact HO_824001.out⟩,⟨by (with_reducible repeat (first|refine zh ?_ _|refine zj ?_|refine zi ?_ _));exact BK819.out⟩,⟨by (with_reducible repeat (first|refine zh ?_ _|refine zj ?_|refine zi ?_ _));exact BK820.out⟩,⟨by (with_reducible repeat (first|refine zh ?_ _|refine zj ?_|refine zi ?_ _));exact BK823.out⟩,⟨by repeat (first|(with_reducible first|exact HB.out|apply ze|apply zd|apply zf|refine zk ?_ GE819.out|refine zk ?_ GE820.out|refine zk ?_ GE823.out)|exact HB.out)⟩⟩
      ·
       rw [if_neg c22] at H
       have c22b0 : decide (x11_2 < 5)=false:=decide_eq_false c22
       clear c22
       simp only [Option.some.injEq,Prod.mk.injEq] at H
       obtain ⟨rfl,rfl,rfl⟩:=H
       have hnb92:=NB823_819.out;have hnc92:=NB819_823.out;have hnb93:=NB823_820.out;have hnc93:=NB820_823.out
       have hcz94_0 : wr.cell? ⟨gb823,0,none⟩=some (.int .u64 x824000_2):=(zs BK823.out 0).trans rfl
       have hcz94_1 : wr.cell? ⟨gb823,1,none⟩=some (u824001):=(zs BK823.out 1).trans rfl
       have hfz94_0:=zx BK823.out 0
       have hfz94_1:=zx BK823.out 1
       have hnb95:=NB820_819.out;have hnc95:=NB819_820.out
       have hcz96_0 : wr.cell? ⟨gb820,0,none⟩=some (.int .u64 x821000_2):=(zs BK820.out 0).trans rfl
       have hcz96_1 : wr.cell? ⟨gb820,1,none⟩=some (.slice none 0 0):=(zs BK820.out 1).trans rfl
       have hfz96_0:=zx BK820.out 0
       have hfz96_1:=zx BK820.out 1
       obtain ⟨Ao97,co97,eo97⟩:=Kd.V_slice HO_824001.out
       subst eo97
       go_wp2
       refine bodyPost_ret (results_ct rfl _ _ gb820 33 #[.int .u64 x824000_2, .slice Ao97 x824001_2.length co97] (0,0) _ rfl (by (with_reducible repeat (first|refine zh ?_ _|refine zj ?_|refine zi ?_ _));refine zw (cs := #[.int .u64 x824000_2, .slice none 0 0]) ?_ 1 _ rfl;(with_reducible repeat (first|refine zh ?_ _|refine zj ?_|refine zi ?_ _));refine zw (cs := #[.int .u64 x821000_2, .slice none 0 0]) ?_ 0 _ rfl;(with_reducible repeat (first|refine zh ?_ _|refine zj ?_|refine zi ?_ _));exact BK820.out) Try.underlying33 rfl (by kernel_rfl)) rfl ?_
       exact ⟨_,by first|rfl|(simp [errW_none,errW_some] <;> rfl)|(simp [*,errW_none,errW_some] <;> rfl),by (with_reducible repeat (first|apply zA|apply zB|apply zC));exact zy (zI (p:=⟨gb820,1,none⟩) (zI (p:=⟨gb820,0,none⟩) (zy HO_824001.out (fun k_ hk=>(⟨hk,hk.2.2.1⟩ : _∧k_≠gb820))) (fun _ hk=>hk.2) (.int .u64 x824000_2)) (fun _ hk=>hk.2) (.slice Ao97 x824001_2.length co97)) (fun _ hk=>hk.1.1),by repeat (first|(with_reducible first|exact HB.out|apply ze|apply zd|apply zf|refine zk ?_ GE819.out|refine zk ?_ GE820.out|refine zk ?_ GE823.out)|exact HB.out)⟩

end Go.Proofs.Ytkaoiblgfpphoaa.Prt

namespace Go.Proofs.Ytkaoiblgfpphoaa.Prt
open Go.RowKit Go.Proofs.YtkaoiblgfpphoaaW.PrintWords Go.Proofs.YtkaoiblgfpphoaaW.PrintLast Go.Proofs.YtkaoiblgfpphoaaW.PrintMore
attribute [local go_sem] max2_int min2_int max_two min_two max_three min_three max_four min_four   -- for this text's walks alone
set_option linter.unusedVariables false
set_option linter.unusedSimpArgs false

/-! ### psalterylaw11_GainPuts: function 11 -/
def psalterylaw11_GainPuts.f (k : Nat) (a0_0 : Int) (a0_1 : Int) (l0_2 : List Int) (l1 : List Int) (l2 : List Int) (a3 : Bool) : Option (Bool):=(psalterylaw11_great.f a0_0 a0_1 l0_2 0 0 ([] : List Int) 0 l1 l2).bind fun t843=>(if t843=true then ((psalterylaw11_knows.f k).bind fun t844=>(some t844)) else ((gain_Put.f k a0_0 a0_1 l0_2 l1 l2 a3).bind fun bt845=>((psalterylaw05_AsEnc.f k a0_0 a0_1 l0_2).bind fun bt852=>((psalteryref11_Put.f k bt852.1 bt852.2 l1 l2 a3).bind fun bt856=>((psalterylaw05_SameEnc.f k bt845.1 bt845.2.1 bt845.2.2.1 bt856.1 bt856.2.1).bind fun t862=>(if t862=true then (if bt845.2.2.2=bt856.2.2 then ((gain_Right.f k l1).bind fun t863=>((psalteryref11_Right.f k l1).bind fun t864=>(if (t863 == t864)=true then ((psalterylaw11_knows.f k).bind fun t865=>(some t865)) else (none)))) else (none)) else (none)))))))
theorem psalterylaw11_GainPuts.mono : ∀ a0 a1 a2 a3 a4 a5 k,LeO (psalterylaw11_GainPuts.f k a0 a1 a2 a3 a4 a5) (psalterylaw11_GainPuts.f (k+1) a0 a1 a2 a3 a4 a5):=by
 intro a0 a1 a2 a3 a4 a5 k
 unfold psalterylaw11_GainPuts.f
 repeat' first
   | (with_reducible exact gain_Put.mono _ _ _ _ _ _ _)
   | (with_reducible exact gain_Right.mono _ _)
   | (with_reducible exact psalterylaw05_AsEnc.mono _ _ _ _)
   | (with_reducible exact psalterylaw05_SameEnc.mono _ _ _ _ _ _)
   | (with_reducible exact psalterylaw11_knows.mono _)
   | (with_reducible exact psalteryref11_Put.mono _ _ _ _ _ _)
   | (with_reducible exact psalteryref11_Right.mono _ _)
   | (with_reducible exact LeO.refl _)
   | (with_reducible exact LeO.none _)
   | (with_reducible refine LeO.ite ?_ ?_)
   | (with_reducible refine LeO.bind ?_ (fun _ => ?_))
   | exact gain_Put.mono _ _ _ _ _ _ _
   | exact gain_Right.mono _ _
   | exact psalterylaw05_AsEnc.mono _ _ _ _
   | exact psalterylaw05_SameEnc.mono _ _ _ _ _ _
   | exact psalterylaw11_knows.mono _
   | exact psalteryref11_Put.mono _ _ _ _ _ _
   | exact psalteryref11_Right.mono _ _
   | exact LeO.none _
   | refine LeO.ite ?_ ?_
   | refine LeO.bind ?_ (fun _ => ?_)
set_option maxHeartbeats 8000000 in
set_option maxRecDepth 100000 in
theorem psalterylaw11_GainPuts.calls (k : Nat) (a0_0 : Int) (a0_1 : Int) (A0_2 : Option Addr) (c0_2 : Nat) (l0_2 : List Int) (A1 : Option Addr) (c1 : Nat) (l1 : List Int) (A2 : Option Addr) (c2 : Nat) (l2 : List Int) (a3 : Bool) (r : Bool) (w : World) (hr0_2 : Kd.C (Kd.int .u8) w A0_2 l0_2.length l0_2) (hc0_2 : l0_2.length≤c0_2) (hr1 : Kd.C (Kd.int .i64) w A1 l1.length l1) (hc1 : l1.length≤c1) (hr2 : Kd.C (Kd.int .i64) w A2 l2.length l2) (hc2 : l2.length≤c2) (h : psalterylaw11_GainPuts.f k a0_0 a0_1 l0_2 l1 l2 a3=some r) :
  Calls Try.prog 11 #[.agg #[.int .u64 a0_0, .int .u32 a0_1, .slice A0_2 l0_2.length c0_2], .slice A1 l1.length c1, .slice A2 l2.length c2, .bool a3] w fun e w' => e=.returned (.bool r)∧Below w.heap.size w w' := by
 have hu26:=Try.underlying26;have hu43:=Try.underlying43;have hu33:=Try.underlying33;have HR0_2:=zm hr0_2;have HC0_2:=zm hc0_2;clear hr0_2 hc0_2;have HR1:=zm hr1;have HC1:=zm hc1;clear hr1 hc1;have HR2:=zm hr2;have HC2:=zm hc2;clear hr2 hc2;have HB:=zm (Below.refl w.heap.size w)
 have H : ((psalterylaw11_great.f a0_0 a0_1 l0_2 0 0 ([] : List Int) 0 l1 l2).bind fun t843=>(if t843=true then ((psalterylaw11_knows.f k).bind fun t844=>(some t844)) else ((gain_Put.f k a0_0 a0_1 l0_2 l1 l2 a3).bind fun bt845=>((psalterylaw05_AsEnc.f k a0_0 a0_1 l0_2).bind fun bt852=>((psalteryref11_Put.f k bt852.1 bt852.2 l1 l2 a3).bind fun bt856=>((psalterylaw05_SameEnc.f k bt845.1 bt845.2.1 bt845.2.2.1 bt856.1 bt856.2.1).bind fun t862=>(if t862=true then (if bt845.2.2.2=bt856.2.2 then ((gain_Right.f k l1).bind fun t863=>((psalteryref11_Right.f k l1).bind fun t864=>(if (t863 == t864)=true then ((psalterylaw11_knows.f k).bind fun t865=>(some t865)) else (none)))) else (none)) else (none))))))))=some r:=h
 clear h
 replace H:=Option.bind_eq_some_iff.mp H
 obtain ⟨t843,A50,H⟩:=H
 replace H : (if t843=true then ((psalterylaw11_knows.f k).bind fun t844=>(some t844)) else ((gain_Put.f k a0_0 a0_1 l0_2 l1 l2 a3).bind fun bt845=>((psalterylaw05_AsEnc.f k a0_0 a0_1 l0_2).bind fun bt852=>((psalteryref11_Put.f k bt852.1 bt852.2 l1 l2 a3).bind fun bt856=>((psalterylaw05_SameEnc.f k bt845.1 bt845.2.1 bt845.2.2.1 bt856.1 bt856.2.1).bind fun t862=>(if t862=true then (if bt845.2.2.2=bt856.2.2 then ((gain_Right.f k l1).bind fun t863=>((psalteryref11_Right.f k l1).bind fun t864=>(if (t863 == t864)=true then ((psalterylaw11_knows.f k).bind fun t865=>(some t865)) else (none)))) else (none)) else (none)))))))=some r:=H
 have A5:=zm A50;clear A50
 by_cases c6 : t843=true
 ·
  subst c6
  have H1 : ((psalterylaw11_knows.f k).bind fun t844=>(some t844))=some r:=by rw [if_pos rfl] at H;exact H
  clear H;have H:=H1;clear H1
  replace H:=Option.bind_eq_some_iff.mp H
  obtain ⟨t844,A70,H⟩:=H
  replace H : (some t844)=some r:=H
  have A7:=zm A70;clear A70
  obtain rfl:=Option.some.inj H
  go_enter Try.func11,Try.ntmps11
  go_wp2_with (first|((with_reducible refine gate_dst (N:=4) rfl ?_);refine box_event ?hg (N:=4) ?hd (cs := #[.int .u64 a0_0, .int .u32 a0_1, .slice A0_2 l0_2.length c0_2]) (t:=26) ?hr ?_;(case hd=>rfl);(case hg=>rfl);(case hr=>first|(go_simp;done)|(go_simp;rfl));intro gb842 hg w8 hbox hb;have n0_:=zm (zJ (by repeat (first|(with_reducible first|exact HB.out|apply ze|apply zd|apply zf)|exact HB.out)) hb);have n1_:=zm (hbox);have n2_:=zm ((by rw [hg];exact (zE (by repeat (first|(with_reducible first|exact HB.out|apply ze|apply zd|apply zf)|exact HB.out))) : w.heap.size≤gb842));have n3_:=zm ((by rw [hg];exact (zE (by repeat (first|(with_reducible first|exact HB.out|apply ze|apply zd|apply zf)|exact HB.out))) : w.heap.size≤gb842));clear HB;have HB:=n0_;have BK842:=n1_;have GW842:=n2_;have GE842:=n3_;clear n0_ n1_ n2_ n3_;clear hb hbox hg;have hcz9_0 : w8.cell? ⟨gb842,0,none⟩=some (.int .u64 a0_0):=(zs BK842.out 0).trans rfl;have hcz9_1 : w8.cell? ⟨gb842,1,none⟩=some (.int .u32 a0_1):=(zs BK842.out 1).trans rfl;have hcz9_2 : w8.cell? ⟨gb842,2,none⟩=some (.slice A0_2 l0_2.length c0_2):=(zs BK842.out 2).trans rfl;have hfz9_0:=zx BK842.out 0;have hfz9_1:=zx BK842.out 1;have hfz9_2:=zx BK842.out 2)|((with_reducible refine gate_callee (f:=41) rfl ?_);refine goesL_ (some 17) rfl rfl Try.func41 (by kernel_rfl) rfl #[.agg #[.int .u64 a0_0, .int .u32 a0_1, .slice A0_2 l0_2.length c0_2], .agg #[.int .u64 0, .int .u32 0, .slice none 0 0, .int .i64 0], .slice A1 l1.length c1, .slice A2 l2.length c2] rfl (by (try simp only [List.map_toArray,List.map_cons,List.map_nil]);first|done|rfl|(simp only [List.length_drop,List.length_take];rfl)) ?_;(refine (psalterylaw11_great.calls a0_0 a0_1 _ _ l0_2 0 0 _ _ ([] : List Int) 0 _ _ l1 _ _ l2 true _ ?side1 ?side2 ?side3 ?side4 ?side5 ?side6 ?side7 ?side8 A5.out).mono ?_);(case side1=>repeat (first|exact (Kd.C_below HR0_2.out HB.out)|(with_reducible refine Kd.C_alloc ?_ _)|(with_reducible refine Kd.C_drewN ?_ _)|(with_reducible refine Kd.C_drew ?_)));(case side2=>exact HC0_2.out);(case side3=>exact Kd.C_nil _ _);(case side4=>exact Nat.le_refl _);(case side5=>repeat (first|exact (Kd.C_below HR1.out HB.out)|(with_reducible refine Kd.C_alloc ?_ _)|(with_reducible refine Kd.C_drewN ?_ _)|(with_reducible refine Kd.C_drew ?_)));(case side6=>exact HC1.out);(case side7=>repeat (first|exact (Kd.C_below HR2.out HB.out)|(with_reducible refine Kd.C_alloc ?_ _)|(with_reducible refine Kd.C_drewN ?_ _)|(with_reducible refine Kd.C_drew ?_)));(case side8=>exact HC2.out);rintro e w10 ⟨rfl,hb⟩;refine ⟨_,rfl, ?_⟩;have n0_:=zm (zF (g:=gb842) (o:=.cells #[.int .u64 a0_0, .int .u32 a0_1, .slice A0_2 l0_2.length c0_2] 26 (0,0)) (by (with_reducible repeat (first|refine zh ?_ _|refine zj ?_|refine zi ?_ _));exact BK842.out) hb);have n1_:=zm (zJ (by repeat (first|(with_reducible first|exact HB.out|apply ze|apply zd|apply zf|refine zk ?_ GE842.out)|exact HB.out)) hb);clear BK842;clear HB;have BK842:=n0_;have HB:=n1_;clear n0_ n1_;(try clear hb);(try clear hb2);(try clear hk);(try clear hi))|((with_reducible refine gate_callee (f:=42) rfl ?_);refine goesL_ (some 18) rfl rfl Try.func42 (by kernel_rfl) rfl #[] rfl (by (try simp only [List.map_toArray,List.map_cons,List.map_nil]);first|done|rfl|(simp only [List.length_drop,List.length_take];rfl)) ?_;(with_reducible refine (psalterylaw11_knows.calls k  t844 _ A7.out).mono ?_);rintro e w11 ⟨rfl,hb⟩;refine ⟨_,rfl, ?_⟩;have n0_:=zm (zF (g:=gb842) (o:=.cells #[.int .u64 a0_0, .int .u32 a0_1, .slice A0_2 l0_2.length c0_2] 26 (0,0)) (by (with_reducible repeat (first|refine zh ?_ _|refine zj ?_|refine zi ?_ _));exact BK842.out) hb);have n1_:=zm (zJ (by repeat (first|(with_reducible first|exact HB.out|apply ze|apply zd|apply zf|refine zk ?_ GE842.out)|exact HB.out)) hb);clear BK842;clear HB;have BK842:=n0_;have HB:=n1_;clear n0_ n1_;(try clear hb);(try clear hb2);(try clear hk);(try clear hi)))
  go_ret
  exact ⟨by first|rfl|(simp [errW_none,errW_some] <;> rfl)|(simp [*,errW_none,errW_some] <;> rfl),by repeat (first|(with_reducible first|exact HB.out|apply ze|apply zd|apply zf|refine zk ?_ GE842.out)|exact HB.out)⟩
 ·
  replace c6:=Bool.eq_false_iff.mpr c6
  subst c6
  have H1 : ((gain_Put.f k a0_0 a0_1 l0_2 l1 l2 a3).bind fun bt845=>((psalterylaw05_AsEnc.f k a0_0 a0_1 l0_2).bind fun bt852=>((psalteryref11_Put.f k bt852.1 bt852.2 l1 l2 a3).bind fun bt856=>((psalterylaw05_SameEnc.f k bt845.1 bt845.2.1 bt845.2.2.1 bt856.1 bt856.2.1).bind fun t862=>(if t862=true then (if bt845.2.2.2=bt856.2.2 then ((gain_Right.f k l1).bind fun t863=>((psalteryref11_Right.f k l1).bind fun t864=>(if (t863 == t864)=true then ((psalterylaw11_knows.f k).bind fun t865=>(some t865)) else (none)))) else (none)) else (none))))))=some r:=by rw [if_neg (show ¬ (false=true) by decide)] at H;exact H
  clear H;have H:=H1;clear H1
  replace H:=Option.bind_eq_some_iff.mp H
  obtain ⟨⟨t845,t846,t847,t850⟩,A120,H⟩:=H
  replace H : ((psalterylaw05_AsEnc.f k a0_0 a0_1 l0_2).bind fun bt852=>((psalteryref11_Put.f k bt852.1 bt852.2 l1 l2 a3).bind fun bt856=>((psalterylaw05_SameEnc.f k t845 t846 t847 bt856.1 bt856.2.1).bind fun t862=>(if t862=true then (if t850=bt856.2.2 then ((gain_Right.f k l1).bind fun t863=>((psalteryref11_Right.f k l1).bind fun t864=>(if (t863 == t864)=true then ((psalterylaw11_knows.f k).bind fun t865=>(some t865)) else (none)))) else (none)) else (none)))))=some r:=H
  have A12:=zm A120;clear A120
  replace H:=Option.bind_eq_some_iff.mp H
  obtain ⟨⟨t852,t853⟩,A130,H⟩:=H
  replace H : ((psalteryref11_Put.f k t852 t853 l1 l2 a3).bind fun bt856=>((psalterylaw05_SameEnc.f k t845 t846 t847 bt856.1 bt856.2.1).bind fun t862=>(if t862=true then (if t850=bt856.2.2 then ((gain_Right.f k l1).bind fun t863=>((psalteryref11_Right.f k l1).bind fun t864=>(if (t863 == t864)=true then ((psalterylaw11_knows.f k).bind fun t865=>(some t865)) else (none)))) else (none)) else (none))))=some r:=H
  have A13:=zm A130;clear A130
  replace H:=Option.bind_eq_some_iff.mp H
  obtain ⟨⟨t856,t857,t860⟩,A140,H⟩:=H
  replace H : ((psalterylaw05_SameEnc.f k t845 t846 t847 t856 t857).bind fun t862=>(if t862=true then (if t850=t860 then ((gain_Right.f k l1).bind fun t863=>((psalteryref11_Right.f k l1).bind fun t864=>(if (t863 == t864)=true then ((psalterylaw11_knows.f k).bind fun t865=>(some t865)) else (none)))) else (none)) else (none)))=some r:=H
  have A14:=zm A140;clear A140
  replace H:=Option.bind_eq_some_iff.mp H
  obtain ⟨t862,A150,H⟩:=H
  replace H : (if t862=true then (if t850=t860 then ((gain_Right.f k l1).bind fun t863=>((psalteryref11_Right.f k l1).bind fun t864=>(if (t863 == t864)=true then ((psalterylaw11_knows.f k).bind fun t865=>(some t865)) else (none)))) else (none)) else (none))=some r:=H
  have A15:=zm A150;clear A150
  by_cases c16 : t862=true
  ·
   subst c16
   have H1 : (if t850=t860 then ((gain_Right.f k l1).bind fun t863=>((psalteryref11_Right.f k l1).bind fun t864=>(if (t863 == t864)=true then ((psalterylaw11_knows.f k).bind fun t865=>(some t865)) else (none)))) else (none))=some r:=by rw [if_pos rfl] at H;exact H
   clear H;have H:=H1;clear H1
   by_cases c17 : t850=t860
   ·
    rw [if_pos c17] at H
    have c17b0 : (t850 == t860)=true:=beq_iff_eq.mpr c17
    have c17b1 : (t850 != t860)=false:=bne_eq_false_iff_eq.mpr c17
    clear c17
    replace H:=Option.bind_eq_some_iff.mp H
    obtain ⟨t863,A180,H⟩:=H
    replace H : ((psalteryref11_Right.f k l1).bind fun t864=>(if (t863 == t864)=true then ((psalterylaw11_knows.f k).bind fun t865=>(some t865)) else (none)))=some r:=H
    have A18:=zm A180;clear A180
    replace H:=Option.bind_eq_some_iff.mp H
    obtain ⟨t864,A190,H⟩:=H
    replace H : (if (t863 == t864)=true then ((psalterylaw11_knows.f k).bind fun t865=>(some t865)) else (none))=some r:=H
    have A19:=zm A190;clear A190
    by_cases c20 : (t863 == t864)=true
    ·
     rw [if_pos c20] at H
     have c20b0 : (t863 == t864)=true:=c20
     (try (have c20b1 : decide (t863=t864)=true:=by simpa using c20))
     (try (have c20b2 : (t863 == t864)=true:=by simpa using c20))
     clear c20
     replace H:=Option.bind_eq_some_iff.mp H
     obtain ⟨t865,A210,H⟩:=H
     replace H : (some t865)=some r:=H
     have A21:=zm A210;clear A210
     obtain rfl:=Option.some.inj H
     go_enter Try.func11,Try.ntmps11
     go_wp2_with (first|((with_reducible refine gate_dst (N:=4) rfl ?_);refine box_event ?hg (N:=4) ?hd (cs := #[.int .u64 a0_0, .int .u32 a0_1, .slice A0_2 l0_2.length c0_2]) (t:=26) ?hr ?_;(case hd=>rfl);(case hg=>rfl);(case hr=>first|(go_simp;done)|(go_simp;rfl));intro gb842 hg w22 hbox hb;have n0_:=zm (zJ (by repeat (first|(with_reducible first|exact HB.out|apply ze|apply zd|apply zf)|exact HB.out)) hb);have n1_:=zm (hbox);have n2_:=zm ((by rw [hg];exact (zE (by repeat (first|(with_reducible first|exact HB.out|apply ze|apply zd|apply zf)|exact HB.out))) : w.heap.size≤gb842));have n3_:=zm ((by rw [hg];exact (zE (by repeat (first|(with_reducible first|exact HB.out|apply ze|apply zd|apply zf)|exact HB.out))) : w.heap.size≤gb842));clear HB;have HB:=n0_;have BK842:=n1_;have GW842:=n2_;have GE842:=n3_;clear n0_ n1_ n2_ n3_;clear hb hbox hg;have hcz23_0 : w22.cell? ⟨gb842,0,none⟩=some (.int .u64 a0_0):=(zs BK842.out 0).trans rfl;have hcz23_1 : w22.cell? ⟨gb842,1,none⟩=some (.int .u32 a0_1):=(zs BK842.out 1).trans rfl;have hcz23_2 : w22.cell? ⟨gb842,2,none⟩=some (.slice A0_2 l0_2.length c0_2):=(zs BK842.out 2).trans rfl;have hfz23_0:=zx BK842.out 0;have hfz23_1:=zx BK842.out 1;have hfz23_2:=zx BK842.out 2)|((with_reducible refine gate_callee (f:=41) rfl ?_);refine goesL_ (some 17) rfl rfl Try.func41 (by kernel_rfl) rfl #[.agg #[.int .u64 a0_0, .int .u32 a0_1, .slice A0_2 l0_2.length c0_2], .agg #[.int .u64 0, .int .u32 0, .slice none 0 0, .int .i64 0], .slice A1 l1.length c1, .slice A2 l2.length c2] rfl (by (try simp only [List.map_toArray,List.map_cons,List.map_nil]);first|done|rfl|(simp only [List.length_drop,List.length_take];rfl)) ?_;(refine (psalterylaw11_great.calls a0_0 a0_1 _ _ l0_2 0 0 _ _ ([] : List Int) 0 _ _ l1 _ _ l2 false _ ?side1 ?side2 ?side3 ?side4 ?side5 ?side6 ?side7 ?side8 A5.out).mono ?_);(case side1=>repeat (first|exact (Kd.C_below HR0_2.out HB.out)|(with_reducible refine Kd.C_alloc ?_ _)|(with_reducible refine Kd.C_drewN ?_ _)|(with_reducible refine Kd.C_drew ?_)));(case side2=>exact HC0_2.out);(case side3=>exact Kd.C_nil _ _);(case side4=>exact Nat.le_refl _);(case side5=>repeat (first|exact (Kd.C_below HR1.out HB.out)|(with_reducible refine Kd.C_alloc ?_ _)|(with_reducible refine Kd.C_drewN ?_ _)|(with_reducible refine Kd.C_drew ?_)));(case side6=>exact HC1.out);(case side7=>repeat (first|exact (Kd.C_below HR2.out HB.out)|(with_reducible refine Kd.C_alloc ?_ _)|(with_reducible refine Kd.C_drewN ?_ _)|(with_reducible refine Kd.C_drew ?_)));(case side8=>exact HC2.out);rintro e w24 ⟨rfl,hb⟩;refine ⟨_,rfl, ?_⟩;have n0_:=zm (zF (g:=gb842) (o:=.cells #[.int .u64 a0_0, .int .u32 a0_1, .slice A0_2 l0_2.length c0_2] 26 (0,0)) (by (with_reducible repeat (first|refine zh ?_ _|refine zj ?_|refine zi ?_ _));exact BK842.out) hb);have n1_:=zm (zJ (by repeat (first|(with_reducible first|exact HB.out|apply ze|apply zd|apply zf|refine zk ?_ GE842.out)|exact HB.out)) hb);clear BK842;clear HB;have BK842:=n0_;have HB:=n1_;clear n0_ n1_;(try clear hb);(try clear hb2);(try clear hk);(try clear hi);have hcz25_0 : w24.cell? ⟨gb842,0,none⟩=some (.int .u64 a0_0):=(zs BK842.out 0).trans rfl;have hcz25_1 : w24.cell? ⟨gb842,1,none⟩=some (.int .u32 a0_1):=(zs BK842.out 1).trans rfl;have hcz25_2 : w24.cell? ⟨gb842,2,none⟩=some (.slice A0_2 l0_2.length c0_2):=(zs BK842.out 2).trans rfl;have hfz25_0:=zx BK842.out 0;have hfz25_1:=zx BK842.out 1;have hfz25_2:=zx BK842.out 2)|((with_reducible refine gate_callee (f:=43) rfl ?_);refine goesL_ (some 24) rfl rfl Try.func43 (by kernel_rfl) rfl #[.agg #[.int .u64 a0_0, .int .u32 a0_1, .slice A0_2 l0_2.length c0_2], .slice A1 l1.length c1, .slice A2 l2.length c2, .bool a3] rfl (by (try simp only [List.map_toArray,List.map_cons,List.map_nil]);first|done|rfl|(simp only [List.length_drop,List.length_take];rfl)) ?_;(with_reducible refine (gain_Put.calls k a0_0 a0_1 (fun k_=>k_ < w.heap.size) _ _ l0_2 _ _ l1 _ _ l2 a3 t845 t846 t847 t850 _ ?side1 ?side2 ?side3 ?side4 ?side5 A12.out).mono ?_);(case side1=>exact Kd.V_mk HC0_2.out (Kd.F_below (Kd.C_F (Kd.heap_int .u8) HR0_2.out) (by repeat (first|(with_reducible first|exact HB.out|apply ze|apply zd|apply zf|refine zk ?_ GE842.out)|exact HB.out))));(case side2=>repeat (first|exact (Kd.C_below HR1.out HB.out)|(with_reducible refine Kd.C_alloc ?_ _)|(with_reducible refine Kd.C_drewN ?_ _)|(with_reducible refine Kd.C_drew ?_)));(case side3=>exact HC1.out);(case side4=>repeat (first|exact (Kd.C_below HR2.out HB.out)|(with_reducible refine Kd.C_alloc ?_ _)|(with_reducible refine Kd.C_drewN ?_ _)|(with_reducible refine Kd.C_drew ?_)));(case side5=>exact HC2.out);rintro e w26 ⟨v848,rfl,ho0,hb⟩;refine ⟨_,rfl, ?_⟩;have n0_:=zm (Kd.V_lower (zy (ok' := fun k_=>k_≠gb842) ho0 (fun k_ hk_=>Or.elim hk_ (fun hs_=>fun e_=>Nat.not_le.2 hs_ (by rw [e_];exact GW842.out)) (fun hn_=>(Kd.freshB (g:=gb842) (o:=.cells #[.int .u64 a0_0, .int .u32 a0_1, .slice A0_2 l0_2.length c0_2] 26 (0,0)) (by (with_reducible repeat (first|refine zh ?_ _|refine zj ?_|refine zi ?_ _));exact BK842.out) k_ hn_)))) (zE (by repeat (first|(with_reducible first|exact HB.out|apply ze|apply zd|apply zf|refine zk ?_ GE842.out)|exact HB.out))));have n1_:=zm (zF (g:=gb842) (o:=.cells #[.int .u64 a0_0, .int .u32 a0_1, .slice A0_2 l0_2.length c0_2] 26 (0,0)) (by (with_reducible repeat (first|refine zh ?_ _|refine zj ?_|refine zi ?_ _));exact BK842.out) hb);have n2_:=zm (zJ (by repeat (first|(with_reducible first|exact HB.out|apply ze|apply zd|apply zf|refine zk ?_ GE842.out)|exact HB.out)) hb);clear BK842;clear HB;have HO849:=n0_;have BK842:=n1_;have HB:=n2_;clear n0_ n1_ n2_;(try clear hb);(try clear hb2);(try clear hk);(try clear hi);(try clear ho0))|((with_reducible refine gate_dst (N:=9) rfl ?_);refine box_event ?hg (N:=9) ?hd (cs := #[.int .u64 0, .int .u32 0, .slice none 0 0]) (t:=26) ?hr ?_;(case hd=>rfl);(case hg=>rfl);(case hr=>first|(go_simp;done)|(go_simp;rfl));intro gb851 hg w27 hbox hb;have n0_:=zm (Kd.V_below (Kd.V_elderB (by (with_reducible repeat (first|apply zA|apply zB|apply zC));exact HO849.out) gb851 (Nat.le_of_eq hg.symm)) hb);have n1_:=zm (zF (g:=gb842) (o:=.cells #[.int .u64 a0_0, .int .u32 a0_1, .slice A0_2 l0_2.length c0_2] 26 (0,0)) (by (with_reducible repeat (first|refine zh ?_ _|refine zj ?_|refine zi ?_ _));exact BK842.out) hb);have n2_:=zm (zJ (by repeat (first|(with_reducible first|exact HB.out|apply ze|apply zd|apply zf|refine zk ?_ GE842.out)|exact HB.out)) hb);have n3_:=zm (hbox);have n4_:=zm ((by rw [hg];exact (zE (by repeat (first|(with_reducible first|exact HB.out|apply ze|apply zd|apply zf|refine zk ?_ GE842.out)|exact HB.out))) : w.heap.size≤gb851));have n5_:=zm ((by rw [hg];exact (zE (by repeat (first|(with_reducible first|exact HB.out|apply ze|apply zd|apply zf|refine zk ?_ GE842.out)|exact HB.out))) : w.heap.size≤gb851));have n6_:=zm ((by rw [hg];exact zn (zD (g:=gb842) (o:=.cells #[.int .u64 a0_0, .int .u32 a0_1, .slice A0_2 l0_2.length c0_2] 26 (0,0)) (by (with_reducible repeat (first|refine zh ?_ _|refine zj ?_|refine zi ?_ _));exact BK842.out)) : gb842≠gb851));have n7_:=zm ((by rw [hg];exact zg (zD (g:=gb842) (o:=.cells #[.int .u64 a0_0, .int .u32 a0_1, .slice A0_2 l0_2.length c0_2] 26 (0,0)) (by (with_reducible repeat (first|refine zh ?_ _|refine zj ?_|refine zi ?_ _));exact BK842.out)) : gb851≠gb842));clear HO849;clear BK842;clear HB;have HO849:=n0_;have BK842:=n1_;have HB:=n2_;have BK851:=n3_;have GW851:=n4_;have GE851:=n5_;have NB842_851:=n6_;have NB851_842:=n7_;clear n0_ n1_ n2_ n3_ n4_ n5_ n6_ n7_;clear hb hbox hg;have hnb28:=NB851_842.out;have hnc28:=NB842_851.out;have hcz29_0 : w27.cell? ⟨gb851,0,none⟩=some (.int .u64 0):=(zs BK851.out 0).trans rfl;have hcz29_1 : w27.cell? ⟨gb851,1,none⟩=some (.int .u32 0):=(zs BK851.out 1).trans rfl;have hcz29_2 : w27.cell? ⟨gb851,2,none⟩=some (.slice none 0 0):=(zs BK851.out 2).trans rfl;have hfz29_0:=zx BK851.out 0;have hfz29_1:=zx BK851.out 1;have hfz29_2:=zx BK851.out 2;obtain ⟨Ao30,co30,eo30⟩:=Kd.V_slice HO849.out;subst eo30;have hcz31_0 : w27.cell? ⟨gb842,0,none⟩=some (.int .u64 a0_0):=(zs BK842.out 0).trans rfl;have hcz31_1 : w27.cell? ⟨gb842,1,none⟩=some (.int .u32 a0_1):=(zs BK842.out 1).trans rfl;have hcz31_2 : w27.cell? ⟨gb842,2,none⟩=some (.slice A0_2 l0_2.length c0_2):=(zs BK842.out 2).trans rfl;have hfz31_0:=zx BK842.out 0;have hfz31_1:=zx BK842.out 1;have hfz31_2:=zx BK842.out 2)|((with_reducible refine gate_callee (f:=20) rfl ?_);refine goesL_ (some 29) rfl rfl Try.func20 (by kernel_rfl) rfl #[.agg #[.int .u64 a0_0, .int .u32 a0_1, .slice A0_2 l0_2.length c0_2]] rfl (by (try simp only [List.map_toArray,List.map_cons,List.map_nil]);first|done|rfl|(simp only [List.length_drop,List.length_take];rfl)) ?_;(with_reducible refine (psalterylaw05_AsEnc.calls k a0_0 a0_1 _ _ l0_2 t852 t853 _ ?side1 ?side2 A13.out).mono ?_);(case side1=>exact Kd.C_below HR0_2.out (by repeat (first|(with_reducible first|exact HB.out|apply ze|apply zd|apply zf|refine zk ?_ GE842.out|refine zk ?_ GE851.out)|exact HB.out)));(case side2=>exact HC0_2.out);rintro e w32 ⟨v854,rfl,ho0,hb⟩;refine ⟨_,rfl, ?_⟩;have n0_:=zm (Kd.V_elder' (by (with_reducible repeat (first|apply zA|apply zB|apply zC));exact (zy (zI (p:=⟨gb851,2,none⟩) (zI (p:=⟨gb851,1,none⟩) (zI (p:=⟨gb851,0,none⟩) (zy HO849.out (fun k_ hk=>(⟨hk,hk.2⟩ : _∧k_≠gb851))) (fun _ hk=>hk.2) (.int .u64 t845)) (fun _ hk=>hk.2) (.int .u32 t846)) (fun _ hk=>hk.2) (.slice Ao30 t847.length co30)) (fun _ h_=>h_.1))) (Kd.R_base ho0) hb);have n1_:=zm (Kd.R_lower ho0 (zE (by repeat (first|(with_reducible first|exact HB.out|apply ze|apply zd|apply zf|refine zk ?_ GE842.out|refine zk ?_ GE851.out)|exact HB.out))));have n2_:=zm (zF (g:=gb842) (o:=.cells #[.int .u64 a0_0, .int .u32 a0_1, .slice A0_2 l0_2.length c0_2] 26 (0,0)) (by (with_reducible repeat (first|refine zh ?_ _|refine zj ?_|refine zi ?_ _|refine zv ?_ NB842_851.out _));exact BK842.out) hb);have n3_:=zm (zF (g:=gb851) (o:=.cells #[.int .u64 t845, .int .u32 t846, .slice Ao30 t847.length co30] 26 (0,0)) (by (with_reducible repeat (first|refine zh ?_ _|refine zj ?_|refine zi ?_ _));refine zw (cs := #[.int .u64 t845, .int .u32 t846, .slice none 0 0]) ?_ 2 _ rfl;(with_reducible repeat (first|refine zh ?_ _|refine zj ?_|refine zi ?_ _));refine zw (cs := #[.int .u64 t845, .int .u32 0, .slice none 0 0]) ?_ 1 _ rfl;(with_reducible repeat (first|refine zh ?_ _|refine zj ?_|refine zi ?_ _));refine zw (cs := #[.int .u64 0, .int .u32 0, .slice none 0 0]) ?_ 0 _ rfl;(with_reducible repeat (first|refine zh ?_ _|refine zj ?_|refine zi ?_ _));exact BK851.out) hb);have n4_:=zm (zJ (by repeat (first|(with_reducible first|exact HB.out|apply ze|apply zd|apply zf|refine zk ?_ GE842.out|refine zk ?_ GE851.out)|exact HB.out)) hb);clear HO849;clear BK842;clear BK851;clear HB;have HO849:=n0_;have HO855:=n1_;have BK842:=n2_;have BK851:=n3_;have HB:=n4_;clear n0_ n1_ n2_ n3_ n4_;(try clear hb);(try clear hb2);(try clear hk);(try clear hi);(try clear ho0);obtain ⟨Ao33,co33,eo33⟩:=Kd.R_slice HO855.out;subst eo33)|((with_reducible refine gate_callee (f:=44) rfl ?_);refine goesL_ (some 33) rfl rfl Try.func44 (by kernel_rfl) rfl #[.agg #[.int .u64 t852, .slice Ao33 t853.length co33], .slice A1 l1.length c1, .slice A2 l2.length c2, .bool a3] rfl (by (try simp only [List.map_toArray,List.map_cons,List.map_nil]);first|done|rfl|(simp only [List.length_drop,List.length_take];rfl)) ?_;(with_reducible refine (psalteryref11_Put.calls k t852 (fun k_=>some k_=(.slice Ao33 t853.length co33 : Value).ownBlock) _ _ t853 _ _ l1 _ _ l2 a3 t856 t857 t860 _ ?side1 ?side2 ?side3 ?side4 ?side5 A14.out).mono ?_);(case side1=>exact Kd.R_V (Kd.R_tight rfl (Kd.R_types (Kd.R_types (HO855.out) BK842.out (by decide)) BK851.out (by decide))));(case side2=>repeat (first|exact (Kd.C_below HR1.out HB.out)|(with_reducible refine Kd.C_alloc ?_ _)|(with_reducible refine Kd.C_drewN ?_ _)|(with_reducible refine Kd.C_drew ?_)));(case side3=>exact HC1.out);(case side4=>repeat (first|exact (Kd.C_below HR2.out HB.out)|(with_reducible refine Kd.C_alloc ?_ _)|(with_reducible refine Kd.C_drewN ?_ _)|(with_reducible refine Kd.C_drew ?_)));(case side5=>exact HC2.out);rintro e w34 ⟨v858,rfl,ho0,hb⟩;refine ⟨_,rfl, ?_⟩;have n0_:=zm (Kd.V_below (by (with_reducible repeat (first|apply zA|apply zB|apply zC));exact HO849.out) hb);have n1_:=zm (Kd.R_below (by (with_reducible repeat (first|apply zo|apply zp|apply zq));exact HO855.out) hb);have n2_:=zm (Kd.V_lower (zy (ok' := fun k_=>k_≠gb842∧k_≠gb851) ho0 (fun k_ hk_=>⟨Or.elim hk_ (fun hs_=>((Kd.R_types (Kd.R_types (HO855.out) BK842.out (by decide)) BK851.out (by decide)).1 k_ hs_.symm).1.2) (fun hn_=>(Kd.freshB (g:=gb842) (o:=.cells #[.int .u64 a0_0, .int .u32 a0_1, .slice A0_2 l0_2.length c0_2] 26 (0,0)) (by (with_reducible repeat (first|refine zh ?_ _|refine zj ?_|refine zi ?_ _));exact BK842.out) k_ hn_)),Or.elim hk_ (fun hs_=>((Kd.R_types (Kd.R_types (HO855.out) BK842.out (by decide)) BK851.out (by decide)).1 k_ hs_.symm).2) (fun hn_=>(Kd.freshB (g:=gb851) (o:=.cells #[.int .u64 t845, .int .u32 t846, .slice Ao30 t847.length co30] 26 (0,0)) (by (with_reducible repeat (first|refine zh ?_ _|refine zj ?_|refine zi ?_ _));exact BK851.out) k_ hn_))⟩)) (zE (by repeat (first|(with_reducible first|exact HB.out|apply ze|apply zd|apply zf|refine zk ?_ GE842.out|refine zk ?_ GE851.out)|exact HB.out))));have n3_:=zm (zF (g:=gb842) (o:=.cells #[.int .u64 a0_0, .int .u32 a0_1, .slice A0_2 l0_2.length c0_2] 26 (0,0)) (by (with_reducible repeat (first|refine zh ?_ _|refine zj ?_|refine zi ?_ _));exact BK842.out) hb);have n4_:=zm (zF (g:=gb851) (o:=.cells #[.int .u64 t845, .int .u32 t846, .slice Ao30 t847.length co30] 26 (0,0)) (by (with_reducible repeat (first|refine zh ?_ _|refine zj ?_|refine zi ?_ _));exact BK851.out) hb);have n5_:=zm (zJ (by repeat (first|(with_reducible first|exact HB.out|apply ze|apply zd|apply zf|refine zk ?_ GE842.out|refine zk ?_ GE851.out)|exact HB.out)) hb);clear HO849;clear HO855;clear BK842;clear BK851;clear HB;have HO849:=n0_;have HO855:=n1_;have HO859:=n2_;have BK842:=n3_;have BK851:=n4_;have HB:=n5_;clear n0_ n1_ n2_ n3_ n4_ n5_;(try clear hb);(try clear hb2);(try clear hk);(try clear hi);(try clear ho0))|((with_reducible refine gate_dst (N:=11) rfl ?_);refine box_event ?hg (N:=11) ?hd (cs := #[.int .u64 0, .slice none 0 0]) (t:=33) ?hr ?_;(case hd=>rfl);(case hg=>rfl);(case hr=>first|(go_simp;done)|(go_simp;rfl));intro gb861 hg w35 hbox hb;have n0_:=zm (Kd.V_below (Kd.V_elderB (by (with_reducible repeat (first|apply zA|apply zB|apply zC));exact HO849.out) gb861 (Nat.le_of_eq hg.symm)) hb);have n1_:=zm (Kd.R_below (by (with_reducible repeat (first|apply zo|apply zp|apply zq));exact HO855.out) hb);have n2_:=zm (Kd.V_below (Kd.V_elderB (by (with_reducible repeat (first|apply zA|apply zB|apply zC));exact HO859.out) gb861 (Nat.le_of_eq hg.symm)) hb);have n3_:=zm (zF (g:=gb842) (o:=.cells #[.int .u64 a0_0, .int .u32 a0_1, .slice A0_2 l0_2.length c0_2] 26 (0,0)) (by (with_reducible repeat (first|refine zh ?_ _|refine zj ?_|refine zi ?_ _));exact BK842.out) hb);have n4_:=zm (zF (g:=gb851) (o:=.cells #[.int .u64 t845, .int .u32 t846, .slice Ao30 t847.length co30] 26 (0,0)) (by (with_reducible repeat (first|refine zh ?_ _|refine zj ?_|refine zi ?_ _));exact BK851.out) hb);have n5_:=zm (zJ (by repeat (first|(with_reducible first|exact HB.out|apply ze|apply zd|apply zf|refine zk ?_ GE842.out|refine zk ?_ GE851.out)|exact HB.out)) hb);have n6_:=zm (hbox);have n7_:=zm ((by rw [hg];exact (zE (by repeat (first|(with_reducible first|exact HB.out|apply ze|apply zd|apply zf|refine zk ?_ GE842.out|refine zk ?_ GE851.out)|exact HB.out))) : w.heap.size≤gb861));have n8_:=zm ((by rw [hg];exact (zE (by repeat (first|(with_reducible first|exact HB.out|apply ze|apply zd|apply zf|refine zk ?_ GE842.out|refine zk ?_ GE851.out)|exact HB.out))) : w.heap.size≤gb861));have n9_:=zm ((by rw [hg];exact zn (zD (g:=gb842) (o:=.cells #[.int .u64 a0_0, .int .u32 a0_1, .slice A0_2 l0_2.length c0_2] 26 (0,0)) (by (with_reducible repeat (first|refine zh ?_ _|refine zj ?_|refine zi ?_ _));exact BK842.out)) : gb842≠gb861));have n10_:=zm ((by rw [hg];exact zg (zD (g:=gb842) (o:=.cells #[.int .u64 a0_0, .int .u32 a0_1, .slice A0_2 l0_2.length c0_2] 26 (0,0)) (by (with_reducible repeat (first|refine zh ?_ _|refine zj ?_|refine zi ?_ _));exact BK842.out)) : gb861≠gb842));have n11_:=zm ((by rw [hg];exact zn (zD (g:=gb851) (o:=.cells #[.int .u64 t845, .int .u32 t846, .slice Ao30 t847.length co30] 26 (0,0)) (by (with_reducible repeat (first|refine zh ?_ _|refine zj ?_|refine zi ?_ _));exact BK851.out)) : gb851≠gb861));have n12_:=zm ((by rw [hg];exact zg (zD (g:=gb851) (o:=.cells #[.int .u64 t845, .int .u32 t846, .slice Ao30 t847.length co30] 26 (0,0)) (by (with_reducible repeat (first|refine zh ?_ _|refine zj ?_|refine zi ?_ _));exact BK851.out)) : gb861≠gb851));clear HO849;clear HO855;clear HO859;clear BK842;clear BK851;clear HB;have HO849:=n0_;have HO855:=n1_;have HO859:=n2_;have BK842:=n3_;have BK851:=n4_;have HB:=n5_;have BK861:=n6_;have GW861:=n7_;have GE861:=n8_;have NB842_861:=n9_;have NB861_842:=n10_;have NB851_861:=n11_;have NB861_851:=n12_;clear n0_ n1_ n2_ n3_ n4_ n5_ n6_ n7_ n8_ n9_ n10_ n11_ n12_;clear hb hbox hg;have hnb36:=NB861_842.out;have hnc36:=NB842_861.out;have hnb37:=NB861_851.out;have hnc37:=NB851_861.out;have hcz38_0 : w35.cell? ⟨gb861,0,none⟩=some (.int .u64 0):=(zs BK861.out 0).trans rfl;have hcz38_1 : w35.cell? ⟨gb861,1,none⟩=some (.slice none 0 0):=(zs BK861.out 1).trans rfl;have hfz38_0:=zx BK861.out 0;have hfz38_1:=zx BK861.out 1;obtain ⟨Ao39,co39,eo39⟩:=Kd.V_slice HO859.out;subst eo39;have hcz40_0 : w35.cell? ⟨gb851,0,none⟩=some (.int .u64 t845):=(zs BK851.out 0).trans rfl;have hcz40_1 : w35.cell? ⟨gb851,1,none⟩=some (.int .u32 t846):=(zs BK851.out 1).trans rfl;have hcz40_2 : w35.cell? ⟨gb851,2,none⟩=some (.slice Ao30 t847.length co30):=(zs BK851.out 2).trans rfl;have hfz40_0:=zx BK851.out 0;have hfz40_1:=zx BK851.out 1;have hfz40_2:=zx BK851.out 2)|((with_reducible refine gate_callee (f:=23) rfl ?_);refine goesL_ (some 38) rfl rfl Try.func23 (by kernel_rfl) rfl #[.agg #[.int .u64 t845, .int .u32 t846, .slice Ao30 t847.length co30], .agg #[.int .u64 t856, .slice Ao39 t857.length co39]] rfl (by (try simp only [List.map_toArray,List.map_cons,List.map_nil]);first|done|rfl|(simp only [List.length_drop,List.length_take];rfl)) ?_;(with_reducible refine (psalterylaw05_SameEnc.calls k t845 t846 _ _ t847 t856 _ _ t857 true _ ?side1 ?side2 ?side3 ?side4 A15.out).mono ?_);(case side1=>refine (Kd.V_reads' (e:=5) (base:=w.heap.size) (ok:=fun k_=>(((k_≠gb842∧k_≠gb851)∧some k_≠(.slice Ao33 t853.length co33 : Value).ownBlock)∧k_≠gb861)) (n:=t847.length) (c:=co30) ?_).2.2;exact (by (with_reducible repeat (first|apply zA|apply zB|apply zC));exact (zy (zI (p:=⟨gb861,1,none⟩) (zI (p:=⟨gb861,0,none⟩) (zy HO849.out (fun k_ hk=>(⟨hk,hk.2⟩ : _∧k_≠gb861))) (fun _ hk=>hk.2) (.int .u64 t856)) (fun _ hk=>hk.2) (.slice Ao39 t857.length co39)) (fun _ h_=>h_.1))));(case side2=>exact (Kd.V_reads' HO849.out).2.1);(case side3=>refine (Kd.V_reads' (e:=3) (base:=w.heap.size) (ok:=fun k_=>((k_≠gb842∧k_≠gb851)∧k_≠gb861)) (n:=t857.length) (c:=co39) ?_).2.2;exact (by (with_reducible repeat (first|apply zA|apply zB|apply zC));exact (zy (zI (p:=⟨gb861,1,none⟩) (zI (p:=⟨gb861,0,none⟩) (zy HO859.out (fun k_ hk=>(⟨hk,hk.2⟩ : _∧k_≠gb861))) (fun _ hk=>hk.2) (.int .u64 t856)) (fun _ hk=>hk.2) (.slice Ao39 t857.length co39)) (fun _ h_=>h_.1))));(case side4=>exact (Kd.V_reads' HO859.out).2.1);rintro e w41 ⟨rfl,hb⟩;refine ⟨_,rfl, ?_⟩;have n0_:=zm (Kd.V_below (by (with_reducible repeat (first|apply zA|apply zB|apply zC));exact (zy (zI (p:=⟨gb861,1,none⟩) (zI (p:=⟨gb861,0,none⟩) (zy HO849.out (fun k_ hk=>(⟨hk,hk.2⟩ : _∧k_≠gb861))) (fun _ hk=>hk.2) (.int .u64 t856)) (fun _ hk=>hk.2) (.slice Ao39 t857.length co39)) (fun _ h_=>h_.1))) hb);have n1_:=zm (Kd.R_below (by (with_reducible repeat (first|apply zo|apply zp|apply zq));exact (zG (zH (p:=⟨gb861,1,none⟩) (zH (p:=⟨gb861,0,none⟩) (Kd.R_types HO855.out BK861.out (by decide)) (fun _ hk=>hk.2) (.int .u64 t856)) (fun _ hk=>hk.2) (.slice Ao39 t857.length co39)) (fun _ h_=>h_.1))) hb);have n2_:=zm (Kd.V_below (by (with_reducible repeat (first|apply zA|apply zB|apply zC));exact (zy (zI (p:=⟨gb861,1,none⟩) (zI (p:=⟨gb861,0,none⟩) (zy HO859.out (fun k_ hk=>(⟨hk,hk.2⟩ : _∧k_≠gb861))) (fun _ hk=>hk.2) (.int .u64 t856)) (fun _ hk=>hk.2) (.slice Ao39 t857.length co39)) (fun _ h_=>h_.1))) hb);have n3_:=zm (zF (g:=gb842) (o:=.cells #[.int .u64 a0_0, .int .u32 a0_1, .slice A0_2 l0_2.length c0_2] 26 (0,0)) (by (with_reducible repeat (first|refine zh ?_ _|refine zj ?_|refine zi ?_ _|refine zv ?_ NB842_861.out _));exact BK842.out) hb);have n4_:=zm (zF (g:=gb851) (o:=.cells #[.int .u64 t845, .int .u32 t846, .slice Ao30 t847.length co30] 26 (0,0)) (by (with_reducible repeat (first|refine zh ?_ _|refine zj ?_|refine zi ?_ _|refine zv ?_ NB851_861.out _));exact BK851.out) hb);have n5_:=zm (zF (g:=gb861) (o:=.cells #[.int .u64 t856, .slice Ao39 t857.length co39] 33 (0,0)) (by (with_reducible repeat (first|refine zh ?_ _|refine zj ?_|refine zi ?_ _));refine zw (cs := #[.int .u64 t856, .slice none 0 0]) ?_ 1 _ rfl;(with_reducible repeat (first|refine zh ?_ _|refine zj ?_|refine zi ?_ _));refine zw (cs := #[.int .u64 0, .slice none 0 0]) ?_ 0 _ rfl;(with_reducible repeat (first|refine zh ?_ _|refine zj ?_|refine zi ?_ _));exact BK861.out) hb);have n6_:=zm (zJ (by repeat (first|(with_reducible first|exact HB.out|apply ze|apply zd|apply zf|refine zk ?_ GE842.out|refine zk ?_ GE851.out|refine zk ?_ GE861.out)|exact HB.out)) hb);clear HO849;clear HO855;clear HO859;clear BK842;clear BK851;clear BK861;clear HB;have HO849:=n0_;have HO855:=n1_;have HO859:=n2_;have BK842:=n3_;have BK851:=n4_;have BK861:=n5_;have HB:=n6_;clear n0_ n1_ n2_ n3_ n4_ n5_ n6_;(try clear hb);(try clear hb2);(try clear hk);(try clear hi))|(go_at_call 45;(with_reducible refine (gain_Right.calls k _ _ l1 t863 _ ?side1 ?side2 A18.out).mono ?_);(case side1=>repeat (first|exact (Kd.C_below HR1.out HB.out)|(with_reducible refine Kd.C_alloc ?_ _)|(with_reducible refine Kd.C_drewN ?_ _)|(with_reducible refine Kd.C_drew ?_)));(case side2=>exact HC1.out);rintro e w' ⟨rfl,⟨nd,rfl⟩⟩)|(go_at_call 46;(with_reducible refine (psalteryref11_Right.calls k _ _ l1 t864 _ ?side1 ?side2 A19.out).mono ?_);(case side1=>repeat (first|exact (Kd.C_below HR1.out (by repeat (first|(with_reducible first|exact HB.out|apply ze|apply zd|apply zf|refine zk ?_ GE842.out|refine zk ?_ GE851.out|refine zk ?_ GE861.out)|exact HB.out)))|(with_reducible refine Kd.C_alloc ?_ _)|(with_reducible refine Kd.C_drewN ?_ _)|(with_reducible refine Kd.C_drew ?_)));(case side2=>exact HC1.out);rintro e w' ⟨rfl,⟨nd,rfl⟩⟩)|(go_at_call 42;(with_reducible refine (psalterylaw11_knows.calls k  t865 _ A21.out).mono ?_);rintro e w42 ⟨rfl,hb⟩;have n0_:=zm (Kd.V_below (by (with_reducible repeat (first|apply zA|apply zB|apply zC));exact HO849.out) hb);have n1_:=zm (Kd.R_below (by (with_reducible repeat (first|apply zo|apply zp|apply zq));exact HO855.out) hb);have n2_:=zm (Kd.V_below (by (with_reducible repeat (first|apply zA|apply zB|apply zC));exact HO859.out) hb);have n3_:=zm (zF (g:=gb842) (o:=.cells #[.int .u64 a0_0, .int .u32 a0_1, .slice A0_2 l0_2.length c0_2] 26 (0,0)) (by (with_reducible repeat (first|refine zh ?_ _|refine zj ?_|refine zi ?_ _));exact BK842.out) hb);have n4_:=zm (zF (g:=gb851) (o:=.cells #[.int .u64 t845, .int .u32 t846, .slice Ao30 t847.length co30] 26 (0,0)) (by (with_reducible repeat (first|refine zh ?_ _|refine zj ?_|refine zi ?_ _));exact BK851.out) hb);have n5_:=zm (zF (g:=gb861) (o:=.cells #[.int .u64 t856, .slice Ao39 t857.length co39] 33 (0,0)) (by (with_reducible repeat (first|refine zh ?_ _|refine zj ?_|refine zi ?_ _));exact BK861.out) hb);have n6_:=zm (zJ (by repeat (first|(with_reducible first|exact HB.out|apply ze|apply zd|apply zf|refine zk ?_ GE842.out|refine zk ?_ GE851.out|refine zk ?_ GE861.out)|exact HB.out)) hb);clear HO849;clear HO855;clear HO859;clear BK842;clear BK851;clear BK861;clear HB;have HO849:=n0_;have HO855:=n1_;have HO859:=n2_;have BK842:=n3_;have BK851:=n4_;have BK861:=n5_;have HB:=n6_;clear n0_ n1_ n2_ n3_ n4_ n5_ n6_;(try clear hb);(try clear hb2);(try clear hk);(try clear hi)))
     go_ret
     exact ⟨by first|rfl|(simp [errW_none,errW_some] <;> rfl)|(simp [*,errW_none,errW_some] <;> rfl),by repeat (first|(with_reducible first|exact HB.out|apply ze|apply zd|apply zf|refine zk ?_ GE842.out|refine zk ?_ GE851.out|refine zk ?_ GE861.out)|exact HB.out)⟩
    ·
     rw [if_neg c20] at H
     exact absurd H (by simp)
   ·
    rw [if_neg c17] at H
    exact absurd H (by simp)
  ·
   replace c16:=Bool.eq_false_iff.mpr c16
   subst c16
   have H1 : (none)=some r:=by rw [if_neg (show ¬ (false=true) by decide)] at H;exact H
   clear H;have H:=H1;clear H1
   exact absurd H (by simp)

end Go.Proofs.Ytkaoiblgfpphoaa.Prt
