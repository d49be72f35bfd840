-- Functions of the program and of the document as plain Lean, each with the proof that the code comes to it. Written by a program of this session (wip/tools/myprint.py, pack.py) over the kit's printer; Lean checks it.
import Derived.Test.YtkaoiblgfpphoaaZGainAlonePrt0
import Derived.Test.YtkaoiblgfpphoaaZGainAloneM2
import Derived.Test.YtkaoiblgfpphoaaZGainAloneM3
import Derived.Test.YtkaoiblgfpphoaaZGainAloneM4
namespace Go.Proofs.Ytkaoiblgfpphoaa.Prt
open Go.RowKit Go.Proofs.YtkaoiblgfpphoaaW.PrintWords Go.Proofs.YtkaoiblgfpphoaaW.PrintLast Go.Proofs.YtkaoiblgfpphoaaW.PrintMore
attribute [local go_sem] max2_int min2_int max_two min_two max_three min_three max_four min_four   -- for this text's walks alone
set_option linter.unusedVariables false
set_option linter.unusedSimpArgs false

/-! ### psalterylaw11_GainAlone: function 15 -/
mutual
def psalterylaw11_GainAlone.j0 : Nat→List Int→List Int→List Int→Bool→Int→Int→List Int→Int→Int→List Int→Int→Option (Bool)
 | 0,_,_,_,_,_,_,_,_,_,_,_=>none
 | k+1,x2,x3,x4,x30,x969000,x969001,x969002,x970000,x970001,x970002,x970003=>if x30=true then ((psalterylaw11_knows.f k).bind fun t971=>(some t971)) else ((gain_Put.f k x969000 x969001 x969002 x2 x3 true).bind fun bt972=>((gain_Put.f k x969000 x969001 x969002 x2 x4 true).bind fun bt979=>(if bt972.2.2.2=bt979.2.2.2 then ((psalterylaw05_AsEnc.f k bt979.1 bt979.2.1 bt979.2.2.1).bind fun bt986=>((psalterylaw05_SameEnc.f k bt972.1 bt972.2.1 bt972.2.2.1 bt986.1 bt986.2).bind fun t990=>(psalterylaw11_GainAlone.j1 k x3 x4 (!t990) x970000 x970001 x970002 x970003))) else (psalterylaw11_GainAlone.j1 k x3 x4 true x970000 x970001 x970002 x970003))))
def psalterylaw11_GainAlone.j1 : Nat→List Int→List Int→Bool→Int→Int→List Int→Int→Option (Bool)
 | 0,_,_,_,_,_,_,_=>none
 | k+1,x3,x4,x55,x970000,x970001,x970002,x970003=>if x55=true then (none) else ((gain_Take.f k x970000 x970001 x970002 x970003 x3 true).bind fun bt991=>((gain_Take.f k x970000 x970001 x970002 x970003 x4 true).bind fun bt1002=>(if bt991.2.2.2.2.2=0 then (if bt1002.2.2.2.2.2=0 then ((psalteryref06_Same.f k bt991.2.2.2.2.1 bt1002.2.2.2.2.1).bind fun t1013=>(if t1013=true then ((psalterylaw05_AsDec.f k bt1002.1 bt1002.2.1 bt1002.2.2.1 bt1002.2.2.2.1).bind fun bt1014=>((psalterylaw05_SameDec.f bt991.1 bt991.2.1 bt991.2.2.1 bt991.2.2.2.1 bt1014.1 bt1014.2.1 bt1014.2.2.1 bt1014.2.2.2).bind fun t1020=>(if t1020=true then ((psalterylaw11_knows.f k).bind fun t1021=>(some t1021)) else (none)))) else (none))) else (none)) else (none))))
end
def psalterylaw11_GainAlone.f (k : Nat) (a0_0 : Int) (a0_1 : Int) (l0_2 : List Int) (a1_0 : Int) (a1_1 : Int) (l1_2 : List Int) (a1_3 : Int) (l2 : List Int) (l3 : List Int) (l4 : List Int) : Option (Bool):=(psalterylaw11_great.f a0_0 a0_1 l0_2 a1_0 a1_1 l1_2 a1_3 l2 l3).bind fun t970=>(if t970=true then (psalterylaw11_GainAlone.j0 k l2 l3 l4 true a0_0 a0_1 l0_2 a1_0 a1_1 l1_2 a1_3) else (psalterylaw11_GainAlone.j0 k l2 l3 l4 (decide ((l4.length : Int) > 100)) a0_0 a0_1 l0_2 a1_0 a1_1 l1_2 a1_3))
theorem psalterylaw11_GainAlone.mono_l : ∀ k,(∀ y0 y1 y2 y3 y4 y5 y6 y7 y8 y9 y10,LeO (psalterylaw11_GainAlone.j0 k y0 y1 y2 y3 y4 y5 y6 y7 y8 y9 y10) (psalterylaw11_GainAlone.j0 (k+1) y0 y1 y2 y3 y4 y5 y6 y7 y8 y9 y10))∧(∀ y0 y1 y2 y3 y4 y5 y6,LeO (psalterylaw11_GainAlone.j1 k y0 y1 y2 y3 y4 y5 y6) (psalterylaw11_GainAlone.j1 (k+1) y0 y1 y2 y3 y4 y5 y6))
 | 0=>⟨fun _ _ _ _ _ _ _ _ _ _ _ r h=>by simp [psalterylaw11_GainAlone.j0] at h,fun _ _ _ _ _ _ _ r h=>by simp [psalterylaw11_GainAlone.j1] at h⟩
 | k+1=>by
  obtain ⟨ih0,ih1⟩:=psalterylaw11_GainAlone.mono_l k
  refine ⟨?_, ?_⟩
  ·
   intro y0 y1 y2 y3 y4 y5 y6 y7 y8 y9 y10
   unfold psalterylaw11_GainAlone.j0
   repeat' first
   | (with_reducible exact ih0 _ _ _ _ _ _ _ _ _ _ _)
   | (with_reducible exact ih1 _ _ _ _ _ _ _)
   | (with_reducible exact gain_Put.mono _ _ _ _ _ _ _)
   | (with_reducible exact gain_Take.mono _ _ _ _ _ _ _)
   | (with_reducible exact psalterylaw05_AsDec.mono _ _ _ _ _)
   | (with_reducible exact psalterylaw05_AsEnc.mono _ _ _ _)
   | (with_reducible exact psalterylaw05_SameEnc.mono _ _ _ _ _ _)
   | (with_reducible exact psalterylaw11_knows.mono _)
   | (with_reducible exact psalteryref06_Same.mono _ _ _)
   | (with_reducible exact LeO.refl _)
   | (with_reducible exact LeO.none _)
   | (with_reducible refine LeO.ite ?_ ?_)
   | (with_reducible refine LeO.bind ?_ (fun _ => ?_))
   | exact ih0 _ _ _ _ _ _ _ _ _ _ _
   | exact ih1 _ _ _ _ _ _ _
   | exact gain_Put.mono _ _ _ _ _ _ _
   | exact gain_Take.mono _ _ _ _ _ _ _
   | exact psalterylaw05_AsDec.mono _ _ _ _ _
   | exact psalterylaw05_AsEnc.mono _ _ _ _
   | exact psalterylaw05_SameEnc.mono _ _ _ _ _ _
   | exact psalterylaw11_knows.mono _
   | exact psalteryref06_Same.mono _ _ _
   | exact LeO.none _
   | refine LeO.ite ?_ ?_
   | refine LeO.bind ?_ (fun _ => ?_)
  ·
   intro y0 y1 y2 y3 y4 y5 y6
   unfold psalterylaw11_GainAlone.j1
   repeat' first
   | (with_reducible exact ih0 _ _ _ _ _ _ _ _ _ _ _)
   | (with_reducible exact ih1 _ _ _ _ _ _ _)
   | (with_reducible exact gain_Put.mono _ _ _ _ _ _ _)
   | (with_reducible exact gain_Take.mono _ _ _ _ _ _ _)
   | (with_reducible exact psalterylaw05_AsDec.mono _ _ _ _ _)
   | (with_reducible exact psalterylaw05_AsEnc.mono _ _ _ _)
   | (with_reducible exact psalterylaw05_SameEnc.mono _ _ _ _ _ _)
   | (with_reducible exact psalterylaw11_knows.mono _)
   | (with_reducible exact psalteryref06_Same.mono _ _ _)
   | (with_reducible exact LeO.refl _)
   | (with_reducible exact LeO.none _)
   | (with_reducible refine LeO.ite ?_ ?_)
   | (with_reducible refine LeO.bind ?_ (fun _ => ?_))
   | exact ih0 _ _ _ _ _ _ _ _ _ _ _
   | exact ih1 _ _ _ _ _ _ _
   | exact gain_Put.mono _ _ _ _ _ _ _
   | exact gain_Take.mono _ _ _ _ _ _ _
   | exact psalterylaw05_AsDec.mono _ _ _ _ _
   | exact psalterylaw05_AsEnc.mono _ _ _ _
   | exact psalterylaw05_SameEnc.mono _ _ _ _ _ _
   | exact psalterylaw11_knows.mono _
   | exact psalteryref06_Same.mono _ _ _
   | exact LeO.none _
   | refine LeO.ite ?_ ?_
   | refine LeO.bind ?_ (fun _ => ?_)
theorem psalterylaw11_GainAlone.mono : ∀ a0 a1 a2 a3 a4 a5 a6 a7 a8 a9 k,LeO (psalterylaw11_GainAlone.f k a0 a1 a2 a3 a4 a5 a6 a7 a8 a9) (psalterylaw11_GainAlone.f (k+1) a0 a1 a2 a3 a4 a5 a6 a7 a8 a9):=by
 intro a0 a1 a2 a3 a4 a5 a6 a7 a8 a9 k
 obtain ⟨ih0,ih1⟩:=psalterylaw11_GainAlone.mono_l k
 unfold psalterylaw11_GainAlone.f
 repeat' first
   | (with_reducible exact ih0 _ _ _ _ _ _ _ _ _ _ _)
   | (with_reducible exact ih1 _ _ _ _ _ _ _)
   | (with_reducible exact gain_Put.mono _ _ _ _ _ _ _)
   | (with_reducible exact gain_Take.mono _ _ _ _ _ _ _)
   | (with_reducible exact psalterylaw05_AsDec.mono _ _ _ _ _)
   | (with_reducible exact psalterylaw05_AsEnc.mono _ _ _ _)
   | (with_reducible exact psalterylaw05_SameEnc.mono _ _ _ _ _ _)
   | (with_reducible exact psalterylaw11_knows.mono _)
   | (with_reducible exact psalteryref06_Same.mono _ _ _)
   | (with_reducible exact LeO.refl _)
   | (with_reducible exact LeO.none _)
   | (with_reducible refine LeO.ite ?_ ?_)
   | (with_reducible refine LeO.bind ?_ (fun _ => ?_))
   | exact ih0 _ _ _ _ _ _ _ _ _ _ _
   | exact ih1 _ _ _ _ _ _ _
   | exact gain_Put.mono _ _ _ _ _ _ _
   | exact gain_Take.mono _ _ _ _ _ _ _
   | exact psalterylaw05_AsDec.mono _ _ _ _ _
   | exact psalterylaw05_AsEnc.mono _ _ _ _
   | exact psalterylaw05_SameEnc.mono _ _ _ _ _ _
   | exact psalterylaw11_knows.mono _
   | exact psalteryref06_Same.mono _ _ _
   | exact LeO.none _
   | refine LeO.ite ?_ ?_
   | refine LeO.bind ?_ (fun _ => ?_)
def psalterylaw11_GainAlone.T5 : Bool × List (List Nat × List Nat):=(true, [([], []),([], []),([0,1], [0,1]),([2], [2]),([3], [3]),([3], [3]),([5,3,3], [3,5]),([4,6,6,3], [3,4,6]),([7,3], [3,7]),([3,8], [3,8])])
def psalterylaw11_GainAlone.B5 : List Nat := [0,0,3,7,15,15,47,127,255,511]
theorem psalterylaw11_GainAlone.tab5 : rtab .any (opsOf Try.f15 5)=psalterylaw11_GainAlone.T5:=by kernel_rfl
theorem psalterylaw11_GainAlone.bits5 : waitsOk psalterylaw11_GainAlone.T5.2 psalterylaw11_GainAlone.B5=true:=by kernel_rfl
def psalterylaw11_GainAlone.T9 : Bool × List (List Nat × List Nat):=(true, [([], []),([0], [0]),([1], [1]),([2], [2]),([3,2], [2,3]),([2,4], [2,4]),([5,2], [5]),([6], [6]),([6], [6]),([7,8,6,6], [6,7,8]),([6,9], [6,9]),([10,9], [10]),([11], [11]),([11], [11]),([13,11,11], [11,13]),([12,14,14,11], [11,12,14]),([11,15], [11,15]),([16,15], [16]),([17,17], [17]),([17,18], [17,18]),([19,18,0,1,2,3,4,5,6,7,8,9,10,11,12,13,14,15,16,17,18,19], [19])])
def psalterylaw11_GainAlone.B9 : List Nat := [0,1,3,7,15,31,63,127,127,511,1023,2047,4095,4095,12287,32767,65535,131071,262143,524287,1048575]
theorem psalterylaw11_GainAlone.tab9 : rtab .any (opsOf Try.f15 9)=psalterylaw11_GainAlone.T9:=by kernel_rfl
theorem psalterylaw11_GainAlone.bits9 : waitsOk psalterylaw11_GainAlone.T9.2 psalterylaw11_GainAlone.B9=true:=by kernel_rfl
set_option maxHeartbeats 8000000 in
set_option maxRecDepth 100000 in
theorem psalterylaw11_GainAlone.calls (k : Nat) (a0_0 : Int) (a0_1 : Int) (A0_2 : Option Addr) (c0_2 : Nat) (l0_2 : List Int) (a1_0 : Int) (a1_1 : Int) (A1_2 : Option Addr) (c1_2 : Nat) (l1_2 : List Int) (a1_3 : Int) (A2 : Option Addr) (c2 : Nat) (l2 : List Int) (A3 : Option Addr) (c3 : Nat) (l3 : List Int) (A4 : Option Addr) (c4 : Nat) (l4 : List Int) (r : Bool) (w : World) (hr0_2 : Kd.C (Kd.int .u8) w A0_2 l0_2.length l0_2) (hc0_2 : l0_2.length≤c0_2) (hr1_2 : Kd.C (Kd.int .u8) w A1_2 l1_2.length l1_2) (hc1_2 : l1_2.length≤c1_2) (hr2 : Kd.C (Kd.int .i64) w A2 l2.length l2) (hc2 : l2.length≤c2) (hr3 : Kd.C (Kd.int .i64) w A3 l3.length l3) (hc3 : l3.length≤c3) (hr4 : Kd.C (Kd.int .i64) w A4 l4.length l4) (hc4 : l4.length≤c4) (h : psalterylaw11_GainAlone.f k a0_0 a0_1 l0_2 a1_0 a1_1 l1_2 a1_3 l2 l3 l4=some r) :
  Calls Try.prog 15 #[.agg #[.int .u64 a0_0, .int .u32 a0_1, .slice A0_2 l0_2.length c0_2], .agg #[.int .u64 a1_0, .int .u32 a1_1, .slice A1_2 l1_2.length c1_2, .int .i64 a1_3], .slice A2 l2.length c2, .slice A3 l3.length c3, .slice A4 l4.length c4] w fun e w' => e=.returned (.bool r)∧Below w.heap.size w w' := by
 have hu26:=Try.underlying26;have hu43:=Try.underlying43;have HR0_2:=zm hr0_2;have HC0_2:=zm hc0_2;clear hr0_2 hc0_2;have HR1_2:=zm hr1_2;have HC1_2:=zm hc1_2;clear hr1_2 hc1_2;have HR2:=zm hr2;have HC2:=zm hc2;clear hr2 hc2;have HR3:=zm hr3;have HC3:=zm hc3;clear hr3 hc3;have HR4:=zm hr4;have HC4:=zm hc4;clear hr4 hc4;have HB:=zm (Below.refl w.heap.size w)
 have H : ((psalterylaw11_great.f a0_0 a0_1 l0_2 a1_0 a1_1 l1_2 a1_3 l2 l3).bind fun t970=>(if t970=true then (psalterylaw11_GainAlone.j0 k l2 l3 l4 true a0_0 a0_1 l0_2 a1_0 a1_1 l1_2 a1_3) else (psalterylaw11_GainAlone.j0 k l2 l3 l4 (decide ((l4.length : Int) > 100)) a0_0 a0_1 l0_2 a1_0 a1_1 l1_2 a1_3)))=some r:=h
 clear h;have HC6:=zm H;clear H
 go_enter Try.func15,Try.ntmps15
 go_upto_region 1 with (first|((with_reducible refine gate_dst (N:=5) rfl ?_);(try (refine gate_guard (by rfl) ?_;dsimp only));refine box_event ?hg (N:=5) ?hd (cs := #[.int .u64 a0_0, .int .u32 a0_1, .slice A0_2 l0_2.length c0_2]) (t:=26) ?hr ?_;(case hd=>rfl);(case hg=>rfl);(case hr=>first|(go_simp;done)|(go_simp;rfl));intro gb968 hg w7 hbox hb;have n0_:=zm (zJ (by repeat (first|(with_reducible first|exact HB.out|apply ze|apply zd|apply zf)|exact HB.out)) hb);have n1_:=zm (hbox);have n2_:=zm ((by rw [hg];exact (zE (by repeat (first|(with_reducible first|exact HB.out|apply ze|apply zd|apply zf)|exact HB.out))) : w.heap.size≤gb968));have n3_:=zm ((by rw [hg];exact (zE (by repeat (first|(with_reducible first|exact HB.out|apply ze|apply zd|apply zf)|exact HB.out))) : w.heap.size≤gb968));clear HB;have HB:=n0_;have BK968:=n1_;have GW968:=n2_;have GE968:=n3_;clear n0_ n1_ n2_ n3_;clear hb hbox hg)|((with_reducible refine gate_dst (N:=6) rfl ?_);(try (refine gate_guard (by rfl) ?_;dsimp only));refine box_event ?hg (N:=6) ?hd (cs := #[.int .u64 a1_0, .int .u32 a1_1, .slice A1_2 l1_2.length c1_2, .int .i64 a1_3]) (t:=43) ?hr ?_;(case hd=>rfl);(case hg=>rfl);(case hr=>first|(go_simp;done)|(go_simp;rfl));intro gb969 hg w8 hbox hb;have n0_:=zm (zF (g:=gb968) (o:=.cells #[.int .u64 a0_0, .int .u32 a0_1, .slice A0_2 l0_2.length c0_2] 26 (0,0)) (by (with_reducible repeat (first|refine zh ?_ _|refine zj ?_|refine zi ?_ _));exact BK968.out) hb);have n1_:=zm (zJ (by repeat (first|(with_reducible first|exact HB.out|apply ze|apply zd|apply zf|refine zk ?_ GE968.out)|exact HB.out)) hb);have n2_:=zm (hbox);have n3_:=zm ((by rw [hg];exact (zE (by repeat (first|(with_reducible first|exact HB.out|apply ze|apply zd|apply zf|refine zk ?_ GE968.out)|exact HB.out))) : w.heap.size≤gb969));have n4_:=zm ((by rw [hg];exact (zE (by repeat (first|(with_reducible first|exact HB.out|apply ze|apply zd|apply zf|refine zk ?_ GE968.out)|exact HB.out))) : w.heap.size≤gb969));have n5_:=zm ((by rw [hg];exact zn (zD (g:=gb968) (o:=.cells #[.int .u64 a0_0, .int .u32 a0_1, .slice A0_2 l0_2.length c0_2] 26 (0,0)) (by (with_reducible repeat (first|refine zh ?_ _|refine zj ?_|refine zi ?_ _));exact BK968.out)) : gb968≠gb969));have n6_:=zm ((by rw [hg];exact zg (zD (g:=gb968) (o:=.cells #[.int .u64 a0_0, .int .u32 a0_1, .slice A0_2 l0_2.length c0_2] 26 (0,0)) (by (with_reducible repeat (first|refine zh ?_ _|refine zj ?_|refine zi ?_ _));exact BK968.out)) : gb969≠gb968));clear BK968;clear HB;have BK968:=n0_;have HB:=n1_;have BK969:=n2_;have GW969:=n3_;have GE969:=n4_;have NB968_969:=n5_;have NB969_968:=n6_;clear n0_ n1_ n2_ n3_ n4_ n5_ n6_;clear hb hbox hg))
 (try simp only [Act.put,List.setIfInBounds_toArray,List.set_cons_zero,List.set_cons_succ])
 go_cut [30] (fun v30 wc => ∃ (kq : Nat) (x30_5 : Bool),v30=.bool x30_5∧Aside0 (psalterylaw11_GainAlone.j0 kq l2 l3 l4 x30_5 a0_0 a0_1 l0_2 a1_0 a1_1 l1_2 a1_3=some r)∧Aside0 (kq≤k)∧Aside0 (wc.heap[gb968]? = some (.cells #[.int .u64 a0_0, .int .u32 a0_1,(.slice A0_2 l0_2.length c0_2)] 26 (0,0)))∧Aside0 (wc.heap[gb969]? = some (.cells #[.int .u64 a1_0, .int .u32 a1_1,(.slice A1_2 l1_2.length c1_2), .int .i64 a1_3] 43 (0,0)))∧Aside0 (Below w.heap.size w wc))
 case first =>
  have H:=HC6.out;clear HC6
  replace H:=Option.bind_eq_some_iff.mp H
  obtain ⟨t970,A90,H⟩:=H
  replace H : (if t970=true then (psalterylaw11_GainAlone.j0 k l2 l3 l4 true a0_0 a0_1 l0_2 a1_0 a1_1 l1_2 a1_3) else (psalterylaw11_GainAlone.j0 k l2 l3 l4 (decide ((l4.length : Int) > 100)) a0_0 a0_1 l0_2 a1_0 a1_1 l1_2 a1_3))=some r:=H
  have A9:=zm A90;clear A90
  by_cases c10 : t970=true
  ·
   subst c10
   have H1 : (psalterylaw11_GainAlone.j0 k l2 l3 l4 true a0_0 a0_1 l0_2 a1_0 a1_1 l1_2 a1_3)=some r:=by rw [if_pos rfl] at H;exact H
   clear H;have H:=H1;clear H1
   have H' := zm H
   clear H;have hnb11:=NB968_969.out;have hnc11:=NB969_968.out
   have hcz12_0 : w8.cell? ⟨gb968,0,none⟩=some (.int .u64 a0_0):=(zs BK968.out 0).trans rfl
   have hcz12_1 : w8.cell? ⟨gb968,1,none⟩=some (.int .u32 a0_1):=(zs BK968.out 1).trans rfl
   have hcz12_2 : w8.cell? ⟨gb968,2,none⟩=some (.slice A0_2 l0_2.length c0_2):=(zs BK968.out 2).trans rfl
   have hfz12_0:=zx BK968.out 0
   have hfz12_1:=zx BK968.out 1
   have hfz12_2:=zx BK968.out 2
   have hcz13_0 : w8.cell? ⟨gb969,0,none⟩=some (.int .u64 a1_0):=(zs BK969.out 0).trans rfl
   have hcz13_1 : w8.cell? ⟨gb969,1,none⟩=some (.int .u32 a1_1):=(zs BK969.out 1).trans rfl
   have hcz13_2 : w8.cell? ⟨gb969,2,none⟩=some (.slice A1_2 l1_2.length c1_2):=(zs BK969.out 2).trans rfl
   have hcz13_3 : w8.cell? ⟨gb969,3,none⟩=some (.int .i64 a1_3):=(zs BK969.out 3).trans rfl
   have hfz13_0:=zx BK969.out 0
   have hfz13_1:=zx BK969.out 1
   have hfz13_2:=zx BK969.out 2
   have hfz13_3:=zx BK969.out 3
   go_wp2_with (first|((with_reducible refine gate_callee (f:=41) rfl ?_);refine goesL_ (some 25) rfl rfl Try.func41 (by kernel_rfl) rfl #[.agg #[.int .u64 a0_0, .int .u32 a0_1, .slice A0_2 l0_2.length c0_2], .agg #[.int .u64 a1_0, .int .u32 a1_1, .slice A1_2 l1_2.length c1_2, .int .i64 a1_3], .slice A2 l2.length c2, .slice A3 l3.length c3] rfl (by (try simp only [List.map_toArray,List.map_cons,List.map_nil]);first|done|rfl|(simp only [List.length_drop,List.length_take];rfl)) ?_;(with_reducible refine (psalterylaw11_great.calls a0_0 a0_1 _ _ l0_2 a1_0 a1_1 _ _ l1_2 a1_3 _ _ l2 _ _ l3 true _ ?side1 ?side2 ?side3 ?side4 ?side5 ?side6 ?side7 ?side8 A9.out).mono ?_);(case side1=>repeat (first|exact (Kd.C_below HR0_2.out HB.out)|(with_reducible refine Kd.C_alloc ?_ _)|(with_reducible refine Kd.C_drewN ?_ _)|(with_reducible refine Kd.C_drew ?_)));(case side2=>exact HC0_2.out);(case side3=>repeat (first|exact (Kd.C_below HR1_2.out HB.out)|(with_reducible refine Kd.C_alloc ?_ _)|(with_reducible refine Kd.C_drewN ?_ _)|(with_reducible refine Kd.C_drew ?_)));(case side4=>exact HC1_2.out);(case side5=>repeat (first|exact (Kd.C_below HR2.out HB.out)|(with_reducible refine Kd.C_alloc ?_ _)|(with_reducible refine Kd.C_drewN ?_ _)|(with_reducible refine Kd.C_drew ?_)));(case side6=>exact HC2.out);(case side7=>repeat (first|exact (Kd.C_below HR3.out HB.out)|(with_reducible refine Kd.C_alloc ?_ _)|(with_reducible refine Kd.C_drewN ?_ _)|(with_reducible refine Kd.C_drew ?_)));(case side8=>exact HC3.out);rintro e w14 ⟨rfl,hb⟩;refine ⟨_,rfl, ?_⟩;have n0_:=zm (zF (g:=gb968) (o:=.cells #[.int .u64 a0_0, .int .u32 a0_1, .slice A0_2 l0_2.length c0_2] 26 (0,0)) (by (with_reducible repeat (first|refine zh ?_ _|refine zj ?_|refine zi ?_ _));exact BK968.out) hb);have n1_:=zm (zF (g:=gb969) (o:=.cells #[.int .u64 a1_0, .int .u32 a1_1, .slice A1_2 l1_2.length c1_2, .int .i64 a1_3] 43 (0,0)) (by (with_reducible repeat (first|refine zh ?_ _|refine zj ?_|refine zi ?_ _));exact BK969.out) hb);have n2_:=zm (zJ (by repeat (first|(with_reducible first|exact HB.out|apply ze|apply zd|apply zf|refine zk ?_ GE968.out|refine zk ?_ GE969.out)|exact HB.out)) hb);clear BK968;clear BK969;clear HB;have BK968:=n0_;have BK969:=n1_;have HB:=n2_;clear n0_ n1_ n2_;(try clear hb);(try clear hb2);(try clear hk);(try clear hi)))
   go_meet
   case rel=>exact ⟨_,(true),(by first|rfl|(simp;done)|(simp [*];done)),H',⟨by first|omega|exact Nat.le_refl _⟩,⟨by (with_reducible repeat (first|refine zh ?_ _|refine zj ?_|refine zi ?_ _));exact BK968.out⟩,⟨by (with_reducible repeat (first|refine zh ?_ _|refine zj ?_|refine zi ?_ _));exact BK969.out⟩,⟨by repeat (first|(with_reducible first|exact HB.out|apply ze|apply zd|apply zf|refine zk ?_ GE968.out|refine zk ?_ GE969.out)|exact HB.out)⟩⟩
  ·
   replace c10:=Bool.eq_false_iff.mpr c10
   subst c10
   have H1 : (psalterylaw11_GainAlone.j0 k l2 l3 l4 (decide ((l4.length : Int) > 100)) a0_0 a0_1 l0_2 a1_0 a1_1 l1_2 a1_3)=some r:=by rw [if_neg (show ¬ (false=true) by decide)] at H;exact H
   clear H;have H:=H1;clear H1
   have H' := zm H
   clear H;have hnb15:=NB968_969.out;have hnc15:=NB969_968.out
   have hcz16_0 : w8.cell? ⟨gb968,0,none⟩=some (.int .u64 a0_0):=(zs BK968.out 0).trans rfl
   have hcz16_1 : w8.cell? ⟨gb968,1,none⟩=some (.int .u32 a0_1):=(zs BK968.out 1).trans rfl
   have hcz16_2 : w8.cell? ⟨gb968,2,none⟩=some (.slice A0_2 l0_2.length c0_2):=(zs BK968.out 2).trans rfl
   have hfz16_0:=zx BK968.out 0
   have hfz16_1:=zx BK968.out 1
   have hfz16_2:=zx BK968.out 2
   have hcz17_0 : w8.cell? ⟨gb969,0,none⟩=some (.int .u64 a1_0):=(zs BK969.out 0).trans rfl
   have hcz17_1 : w8.cell? ⟨gb969,1,none⟩=some (.int .u32 a1_1):=(zs BK969.out 1).trans rfl
   have hcz17_2 : w8.cell? ⟨gb969,2,none⟩=some (.slice A1_2 l1_2.length c1_2):=(zs BK969.out 2).trans rfl
   have hcz17_3 : w8.cell? ⟨gb969,3,none⟩=some (.int .i64 a1_3):=(zs BK969.out 3).trans rfl
   have hfz17_0:=zx BK969.out 0
   have hfz17_1:=zx BK969.out 1
   have hfz17_2:=zx BK969.out 2
   have hfz17_3:=zx BK969.out 3
   go_wp2_with (first|((with_reducible refine gate_callee (f:=41) rfl ?_);refine goesL_ (some 25) rfl rfl Try.func41 (by kernel_rfl) rfl #[.agg #[.int .u64 a0_0, .int .u32 a0_1, .slice A0_2 l0_2.length c0_2], .agg #[.int .u64 a1_0, .int .u32 a1_1, .slice A1_2 l1_2.length c1_2, .int .i64 a1_3], .slice A2 l2.length c2, .slice A3 l3.length c3] rfl (by (try simp only [List.map_toArray,List.map_cons,List.map_nil]);first|done|rfl|(simp only [List.length_drop,List.length_take];rfl)) ?_;(with_reducible refine (psalterylaw11_great.calls a0_0 a0_1 _ _ l0_2 a1_0 a1_1 _ _ l1_2 a1_3 _ _ l2 _ _ l3 false _ ?side1 ?side2 ?side3 ?side4 ?side5 ?side6 ?side7 ?side8 A9.out).mono ?_);(case side1=>repeat (first|exact (Kd.C_below HR0_2.out HB.out)|(with_reducible refine Kd.C_alloc ?_ _)|(with_reducible refine Kd.C_drewN ?_ _)|(with_reducible refine Kd.C_drew ?_)));(case side2=>exact HC0_2.out);(case side3=>repeat (first|exact (Kd.C_below HR1_2.out HB.out)|(with_reducible refine Kd.C_alloc ?_ _)|(with_reducible refine Kd.C_drewN ?_ _)|(with_reducible refine Kd.C_drew ?_)));(case side4=>exact HC1_2.out);(case side5=>repeat (first|exact (Kd.C_below HR2.out HB.out)|(with_reducible refine Kd.C_alloc ?_ _)|(with_reducible refine Kd.C_drewN ?_ _)|(with_reducible refine Kd.C_drew ?_)));(case side6=>exact HC2.out);(case side7=>repeat (first|exact (Kd.C_below HR3.out HB.out)|(with_reducible refine Kd.C_alloc ?_ _)|(with_reducible refine Kd.C_drewN ?_ _)|(with_reducible refine Kd.C_drew ?_)));(case side8=>exact HC3.out);rintro e w18 ⟨rfl,hb⟩;refine ⟨_,rfl, ?_⟩;have n0_:=zm (zF (g:=gb968) (o:=.cells #[.int .u64 a0_0, .int .u32 a0_1, .slice A0_2 l0_2.length c0_2] 26 (0,0)) (by (with_reducible repeat (first|refine zh ?_ _|refine zj ?_|refine zi ?_ _));exact BK968.out) hb);have n1_:=zm (zF (g:=gb969) (o:=.cells #[.int .u64 a1_0, .int .u32 a1_1, .slice A1_2 l1_2.length c1_2, .int .i64 a1_3] 43 (0,0)) (by (with_reducible repeat (first|refine zh ?_ _|refine zj ?_|refine zi ?_ _));exact BK969.out) hb);have n2_:=zm (zJ (by repeat (first|(with_reducible first|exact HB.out|apply ze|apply zd|apply zf|refine zk ?_ GE968.out|refine zk ?_ GE969.out)|exact HB.out)) hb);clear BK968;clear BK969;clear HB;have BK968:=n0_;have BK969:=n1_;have HB:=n2_;clear n0_ n1_ n2_;(try clear hb);(try clear hb2);(try clear hk);(try clear hi)))
   go_meet
   case rel=>exact ⟨_,(decide ((l4.length : Int) > 100)),(by first|rfl|(simp;done)|(simp [*];done)),H',⟨by first|omega|exact Nat.le_refl _⟩,⟨by (with_reducible repeat (first|refine zh ?_ _|refine zj ?_|refine zi ?_ _));exact BK968.out⟩,⟨by (with_reducible repeat (first|refine zh ?_ _|refine zj ?_|refine zi ?_ _));exact BK969.out⟩,⟨by repeat (first|(with_reducible first|exact HB.out|apply ze|apply zd|apply zf|refine zk ?_ GE968.out|refine zk ?_ GE969.out)|exact HB.out)⟩⟩
 case rest =>
  clear HC6
  try clear c1
  try clear c2
  try clear p2
  try clear c3
  try clear c4
  try clear c10
  try clear c11
  try clear c15
  try clear hcz12_0
  try clear hcz12_1
  try clear hcz12_2
  try clear hcz13_0
  try clear hcz13_1
  try clear hcz13_2
  try clear hcz13_3
  try clear hcz16_0
  try clear hcz16_1
  try clear hcz16_2
  try clear hcz17_0
  try clear hcz17_1
  try clear hcz17_2
  try clear hcz17_3
  try clear hfz12_0
  try clear hfz12_1
  try clear hfz12_2
  try clear hfz13_0
  try clear hfz13_1
  try clear hfz13_2
  try clear hfz13_3
  try clear hfz16_0
  try clear hfz16_1
  try clear hfz16_2
  try clear hfz17_0
  try clear hfz17_1
  try clear hfz17_2
  try clear hfz17_3
  obtain ⟨kq,x30_5,rfl,HA,HJ5,BK968,BK969,HB⟩:=hcut
  cases kq with
  | zero=>exact absurd HA.out (by simp [psalterylaw11_GainAlone.j0])
  | succ kj5 =>
   have H:=HA.out;clear HA
   simp only [psalterylaw11_GainAlone.j0] at H
   by_cases c19 : x30_5=true
   ·
    subst c19
    have H1 : ((psalterylaw11_knows.f kj5).bind fun t971=>(some t971))=some r:=by rw [if_pos rfl] at H;exact H
    clear H;have H:=H1;clear H1
    replace H:=Option.bind_eq_some_iff.mp H
    obtain ⟨t971,A200,H⟩:=H
    replace H : (some t971)=some r:=H
    have A20:=zm A200;clear A200
    obtain rfl:=Option.some.inj H
    go_wp2_with (first|((with_reducible refine gate_callee (f:=42) rfl ?_);refine goesL_ (some 31) rfl rfl Try.func42 (by kernel_rfl) rfl #[] rfl (by (try simp only [List.map_toArray,List.map_cons,List.map_nil]);first|done|rfl|(simp only [List.length_drop,List.length_take];rfl)) ?_;(with_reducible refine (psalterylaw11_knows.calls kj5  t971 _ A20.out).mono ?_);rintro e w21 ⟨rfl,hb⟩;refine ⟨_,rfl, ?_⟩;have n0_:=zm (zF (g:=gb968) (o:=.cells #[.int .u64 a0_0, .int .u32 a0_1, .slice A0_2 l0_2.length c0_2] 26 (0,0)) (by (with_reducible repeat (first|refine zh ?_ _|refine zj ?_|refine zi ?_ _));exact BK968.out) hb);have n1_:=zm (zF (g:=gb969) (o:=.cells #[.int .u64 a1_0, .int .u32 a1_1, .slice A1_2 l1_2.length c1_2, .int .i64 a1_3] 43 (0,0)) (by (with_reducible repeat (first|refine zh ?_ _|refine zj ?_|refine zi ?_ _));exact BK969.out) hb);have n2_:=zm (zJ (by repeat (first|(with_reducible first|exact HB.out|apply ze|apply zd|apply zf|refine zk ?_ GE968.out|refine zk ?_ GE969.out)|exact HB.out)) hb);clear BK968;clear BK969;clear HB;have BK968:=n0_;have BK969:=n1_;have HB:=n2_;clear n0_ n1_ n2_;(try clear hb);(try clear hb2);(try clear hk);(try clear hi)))
    go_ret
    exact ⟨by first|rfl|(simp [errW_none,errW_some] <;> rfl)|(simp [*,errW_none,errW_some] <;> rfl),by repeat (first|(with_reducible first|exact HB.out|apply ze|apply zd|apply zf|refine zk ?_ GE968.out|refine zk ?_ GE969.out)|exact HB.out)⟩
   ·
    replace c19:=Bool.eq_false_iff.mpr c19
    subst c19
    have H1 : ((gain_Put.f kj5 a0_0 a0_1 l0_2 l2 l3 true).bind fun bt972=>((gain_Put.f kj5 a0_0 a0_1 l0_2 l2 l4 true).bind fun bt979=>(if bt972.2.2.2=bt979.2.2.2 then ((psalterylaw05_AsEnc.f kj5 bt979.1 bt979.2.1 bt979.2.2.1).bind fun bt986=>((psalterylaw05_SameEnc.f kj5 bt972.1 bt972.2.1 bt972.2.2.1 bt986.1 bt986.2).bind fun t990=>(psalterylaw11_GainAlone.j1 kj5 l3 l4 (!t990) a1_0 a1_1 l1_2 a1_3))) else (psalterylaw11_GainAlone.j1 kj5 l3 l4 true a1_0 a1_1 l1_2 a1_3))))=some r:=by rw [if_neg (show ¬ (false=true) by decide)] at H;exact H
    clear H;have H:=H1;clear H1
    replace H:=Option.bind_eq_some_iff.mp H
    obtain ⟨⟨t972,t973,t974,t977⟩,A220,H⟩:=H
    replace H : ((gain_Put.f kj5 a0_0 a0_1 l0_2 l2 l4 true).bind fun bt979=>(if t977=bt979.2.2.2 then ((psalterylaw05_AsEnc.f kj5 bt979.1 bt979.2.1 bt979.2.2.1).bind fun bt986=>((psalterylaw05_SameEnc.f kj5 t972 t973 t974 bt986.1 bt986.2).bind fun t990=>(psalterylaw11_GainAlone.j1 kj5 l3 l4 (!t990) a1_0 a1_1 l1_2 a1_3))) else (psalterylaw11_GainAlone.j1 kj5 l3 l4 true a1_0 a1_1 l1_2 a1_3)))=some r:=H
    have A22:=zm A220;clear A220
    replace H:=Option.bind_eq_some_iff.mp H
    obtain ⟨⟨t979,t980,t981,t984⟩,A230,H⟩:=H
    replace H : (if t977=t984 then ((psalterylaw05_AsEnc.f kj5 t979 t980 t981).bind fun bt986=>((psalterylaw05_SameEnc.f kj5 t972 t973 t974 bt986.1 bt986.2).bind fun t990=>(psalterylaw11_GainAlone.j1 kj5 l3 l4 (!t990) a1_0 a1_1 l1_2 a1_3))) else (psalterylaw11_GainAlone.j1 kj5 l3 l4 true a1_0 a1_1 l1_2 a1_3))=some r:=H
    have A23:=zm A230;clear A230;have HC24:=zm H;clear H;have hnb25:=NB968_969.out;have hnc25:=NB969_968.out
    have hcz26_0 : wc.cell? ⟨gb968,0,none⟩=some (.int .u64 a0_0):=(zs BK968.out 0).trans rfl
    have hcz26_1 : wc.cell? ⟨gb968,1,none⟩=some (.int .u32 a0_1):=(zs BK968.out 1).trans rfl
    have hcz26_2 : wc.cell? ⟨gb968,2,none⟩=some (.slice A0_2 l0_2.length c0_2):=(zs BK968.out 2).trans rfl
    have hfz26_0:=zx BK968.out 0
    have hfz26_1:=zx BK968.out 1
    have hfz26_2:=zx BK968.out 2
    go_upto_region 5 with (first|((with_reducible refine gate_callee (f:=43) rfl ?_);refine goesL_ (some 36) rfl rfl Try.func43 (by kernel_rfl) rfl #[.agg #[.int .u64 a0_0, .int .u32 a0_1, .slice A0_2 l0_2.length c0_2], .slice A2 l2.length c2, .slice A3 l3.length c3, .bool true] rfl (by (try simp only [List.map_toArray,List.map_cons,List.map_nil]);first|done|rfl|(simp only [List.length_drop,List.length_take];rfl)) ?_;(with_reducible refine (gain_Put.calls kj5 a0_0 a0_1 (fun k_=>k_ < w.heap.size) _ _ l0_2 _ _ l2 _ _ l3 true t972 t973 t974 t977 _ ?side1 ?side2 ?side3 ?side4 ?side5 A22.out).mono ?_);(case side1=>exact Kd.V_mk HC0_2.out (Kd.F_below (Kd.C_F (Kd.heap_int .u8) HR0_2.out) (by repeat (first|(with_reducible first|exact HB.out|apply ze|apply zd|apply zf|refine zk ?_ GE968.out|refine zk ?_ GE969.out)|exact HB.out))));(case side2=>repeat (first|exact (Kd.C_below HR2.out HB.out)|(with_reducible refine Kd.C_alloc ?_ _)|(with_reducible refine Kd.C_drewN ?_ _)|(with_reducible refine Kd.C_drew ?_)));(case side3=>exact HC2.out);(case side4=>repeat (first|exact (Kd.C_below HR3.out HB.out)|(with_reducible refine Kd.C_alloc ?_ _)|(with_reducible refine Kd.C_drewN ?_ _)|(with_reducible refine Kd.C_drew ?_)));(case side5=>exact HC3.out);rintro e w27 ⟨v975,rfl,ho0,hb⟩;refine ⟨_,rfl, ?_⟩;have n0_:=zm (Kd.V_lower (zy (ok' := fun k_=>k_≠gb968∧k_≠gb969) ho0 (fun k_ hk_=>⟨Or.elim hk_ (fun hs_=>fun e_=>Nat.not_le.2 hs_ (by rw [e_];exact GW968.out)) (fun hn_=>(Kd.freshB (g:=gb968) (o:=.cells #[.int .u64 a0_0, .int .u32 a0_1, .slice A0_2 l0_2.length c0_2] 26 (0,0)) (by (with_reducible repeat (first|refine zh ?_ _|refine zj ?_|refine zi ?_ _));exact BK968.out) k_ hn_)),Or.elim hk_ (fun hs_=>fun e_=>Nat.not_le.2 hs_ (by rw [e_];exact GW969.out)) (fun hn_=>(Kd.freshB (g:=gb969) (o:=.cells #[.int .u64 a1_0, .int .u32 a1_1, .slice A1_2 l1_2.length c1_2, .int .i64 a1_3] 43 (0,0)) (by (with_reducible repeat (first|refine zh ?_ _|refine zj ?_|refine zi ?_ _));exact BK969.out) k_ hn_))⟩)) (zE (by repeat (first|(with_reducible first|exact HB.out|apply ze|apply zd|apply zf|refine zk ?_ GE968.out|refine zk ?_ GE969.out)|exact HB.out))));have n1_:=zm (zF (g:=gb968) (o:=.cells #[.int .u64 a0_0, .int .u32 a0_1, .slice A0_2 l0_2.length c0_2] 26 (0,0)) (by (with_reducible repeat (first|refine zh ?_ _|refine zj ?_|refine zi ?_ _));exact BK968.out) hb);have n2_:=zm (zF (g:=gb969) (o:=.cells #[.int .u64 a1_0, .int .u32 a1_1, .slice A1_2 l1_2.length c1_2, .int .i64 a1_3] 43 (0,0)) (by (with_reducible repeat (first|refine zh ?_ _|refine zj ?_|refine zi ?_ _));exact BK969.out) hb);have n3_:=zm (zJ (by repeat (first|(with_reducible first|exact HB.out|apply ze|apply zd|apply zf|refine zk ?_ GE968.out|refine zk ?_ GE969.out)|exact HB.out)) hb);clear BK968;clear BK969;clear HB;have HO976:=n0_;have BK968:=n1_;have BK969:=n2_;have HB:=n3_;clear n0_ n1_ n2_ n3_;(try clear hb);(try clear hb2);(try clear hk);(try clear hi);(try clear ho0))|((with_reducible refine gate_dst (N:=11) rfl ?_);(try (refine gate_guard (by rfl) ?_;dsimp only));refine box_event ?hg (N:=11) ?hd (cs := #[.int .u64 0, .int .u32 0, .slice none 0 0]) (t:=26) ?hr ?_;(case hd=>rfl);(case hg=>rfl);(case hr=>first|(go_simp;done)|(go_simp;rfl));intro gb978 hg w28 hbox hb;have n0_:=zm (Kd.V_below (Kd.V_elderB (by (with_reducible repeat (first|apply zA|apply zB|apply zC));exact HO976.out) gb978 (Nat.le_of_eq hg.symm)) hb);have n1_:=zm (zF (g:=gb968) (o:=.cells #[.int .u64 a0_0, .int .u32 a0_1, .slice A0_2 l0_2.length c0_2] 26 (0,0)) (by (with_reducible repeat (first|refine zh ?_ _|refine zj ?_|refine zi ?_ _));exact BK968.out) hb);have n2_:=zm (zF (g:=gb969) (o:=.cells #[.int .u64 a1_0, .int .u32 a1_1, .slice A1_2 l1_2.length c1_2, .int .i64 a1_3] 43 (0,0)) (by (with_reducible repeat (first|refine zh ?_ _|refine zj ?_|refine zi ?_ _));exact BK969.out) hb);have n3_:=zm (zJ (by repeat (first|(with_reducible first|exact HB.out|apply ze|apply zd|apply zf|refine zk ?_ GE968.out|refine zk ?_ GE969.out)|exact HB.out)) hb);have n4_:=zm (hbox);have n5_:=zm ((by rw [hg];exact (zE (by repeat (first|(with_reducible first|exact HB.out|apply ze|apply zd|apply zf|refine zk ?_ GE968.out|refine zk ?_ GE969.out)|exact HB.out))) : w.heap.size≤gb978));have n6_:=zm ((by rw [hg];exact (zE (by repeat (first|(with_reducible first|exact HB.out|apply ze|apply zd|apply zf|refine zk ?_ GE968.out|refine zk ?_ GE969.out)|exact HB.out))) : w.heap.size≤gb978));have n7_:=zm ((by rw [hg];exact zn (zD (g:=gb968) (o:=.cells #[.int .u64 a0_0, .int .u32 a0_1, .slice A0_2 l0_2.length c0_2] 26 (0,0)) (by (with_reducible repeat (first|refine zh ?_ _|refine zj ?_|refine zi ?_ _));exact BK968.out)) : gb968≠gb978));have n8_:=zm ((by rw [hg];exact zg (zD (g:=gb968) (o:=.cells #[.int .u64 a0_0, .int .u32 a0_1, .slice A0_2 l0_2.length c0_2] 26 (0,0)) (by (with_reducible repeat (first|refine zh ?_ _|refine zj ?_|refine zi ?_ _));exact BK968.out)) : gb978≠gb968));have n9_:=zm ((by rw [hg];exact zn (zD (g:=gb969) (o:=.cells #[.int .u64 a1_0, .int .u32 a1_1, .slice A1_2 l1_2.length c1_2, .int .i64 a1_3] 43 (0,0)) (by (with_reducible repeat (first|refine zh ?_ _|refine zj ?_|refine zi ?_ _));exact BK969.out)) : gb969≠gb978));have n10_:=zm ((by rw [hg];exact zg (zD (g:=gb969) (o:=.cells #[.int .u64 a1_0, .int .u32 a1_1, .slice A1_2 l1_2.length c1_2, .int .i64 a1_3] 43 (0,0)) (by (with_reducible repeat (first|refine zh ?_ _|refine zj ?_|refine zi ?_ _));exact BK969.out)) : gb978≠gb969));clear HO976;clear BK968;clear BK969;clear HB;have HO976:=n0_;have BK968:=n1_;have BK969:=n2_;have HB:=n3_;have BK978:=n4_;have GW978:=n5_;have GE978:=n6_;have NB968_978:=n7_;have NB978_968:=n8_;have NB969_978:=n9_;have NB978_969:=n10_;clear n0_ n1_ n2_ n3_ n4_ n5_ n6_ n7_ n8_ n9_ n10_;clear hb hbox hg;have hnb29:=NB978_968.out;have hnc29:=NB968_978.out;have hnb30:=NB978_969.out;have hnc30:=NB969_978.out;have hcz31_0 : w28.cell? ⟨gb978,0,none⟩=some (.int .u64 0):=(zs BK978.out 0).trans rfl;have hcz31_1 : w28.cell? ⟨gb978,1,none⟩=some (.int .u32 0):=(zs BK978.out 1).trans rfl;have hcz31_2 : w28.cell? ⟨gb978,2,none⟩=some (.slice none 0 0):=(zs BK978.out 2).trans rfl;have hfz31_0:=zx BK978.out 0;have hfz31_1:=zx BK978.out 1;have hfz31_2:=zx BK978.out 2;obtain ⟨Ao32,co32,eo32⟩:=Kd.V_slice HO976.out;subst eo32)|((with_reducible refine gate_store (t:=26) (p:=11) rfl ?_);refine store_event (t:=26) (p:=11) (v := ?vo_w33) (w1:=(((w28.setCell ⟨gb978,0,none⟩ (.int .u64 t972)).setCell ⟨gb978,1,none⟩ (.int .u32 t973)).setCell ⟨gb978,2,none⟩ (.slice Ao32 t974.length co32))) ?hg ?ho ?hn ?hr ?_;(case ho=>rfl);(case hg=>rfl);(case hn=>rfl);(case hr=>first|(go_simp;done)|(go_simp;rfl));intro w33 hw;have n0_ : Aside0 (Kd.V (Kd.int .u8) 5 w33 w.heap.size (fun k_=>k_≠gb968∧k_≠gb969∧k_≠gb978) (.slice Ao32 t974.length co32) t974):=⟨(by rw [hw];exact (by (with_reducible repeat (first|apply zA|apply zB|apply zC));exact zy (zI (p:=⟨gb978,2,none⟩) (zI (p:=⟨gb978,1,none⟩) (zI (p:=⟨gb978,0,none⟩) (zy HO976.out (fun k_ hk=>(⟨hk,hk.2⟩ : _∧k_≠gb978))) (fun _ hk=>hk.2) (.int .u64 t972)) (fun _ hk=>hk.2) (.int .u32 t973)) (fun _ hk=>hk.2) (.slice Ao32 t974.length co32)) (fun _ hk=>⟨hk.1.1.1,⟨hk.1.1.2,hk.1.2⟩⟩)))⟩;have n1_ : Aside0 (w33.heap[gb968]? = some (.cells #[.int .u64 a0_0, .int .u32 a0_1, .slice A0_2 l0_2.length c0_2] 26 (0,0))):=⟨(by rw [hw];exact (by (with_reducible repeat (first|refine zh ?_ _|refine zj ?_|refine zi ?_ _|refine zv ?_ NB968_978.out _));exact BK968.out))⟩;have n2_ : Aside0 (w33.heap[gb969]? = some (.cells #[.int .u64 a1_0, .int .u32 a1_1, .slice A1_2 l1_2.length c1_2, .int .i64 a1_3] 43 (0,0))):=⟨(by rw [hw];exact (by (with_reducible repeat (first|refine zh ?_ _|refine zj ?_|refine zi ?_ _|refine zv ?_ NB969_978.out _));exact BK969.out))⟩;have n3_ : Aside0 (w33.heap[gb978]? = some (.cells #[.int .u64 t972, .int .u32 t973, .slice Ao32 t974.length co32] 26 (0,0))):=⟨(by rw [hw];exact (by (with_reducible repeat (first|refine zh ?_ _|refine zj ?_|refine zi ?_ _));refine zw (cs := #[.int .u64 t972, .int .u32 t973, .slice none 0 0]) ?_ 2 _ rfl;(with_reducible repeat (first|refine zh ?_ _|refine zj ?_|refine zi ?_ _));refine zw (cs := #[.int .u64 t972, .int .u32 0, .slice none 0 0]) ?_ 1 _ rfl;(with_reducible repeat (first|refine zh ?_ _|refine zj ?_|refine zi ?_ _));refine zw (cs := #[.int .u64 0, .int .u32 0, .slice none 0 0]) ?_ 0 _ rfl;(with_reducible repeat (first|refine zh ?_ _|refine zj ?_|refine zi ?_ _));exact BK978.out))⟩;have n4_ : Aside0 (Below w.heap.size w w33):=⟨(by rw [hw];exact (by repeat (first|(with_reducible first|exact HB.out|apply ze|apply zd|apply zf|refine zk ?_ GE968.out|refine zk ?_ GE969.out|refine zk ?_ GE978.out)|exact HB.out)))⟩;clear hw;clear HO976;clear BK968;clear BK969;clear BK978;clear HB;have HO976:=n0_;have BK968:=n1_;have BK969:=n2_;have BK978:=n3_;have HB:=n4_;clear n0_ n1_ n2_ n3_ n4_;have hcz34_0 : w33.cell? ⟨gb968,0,none⟩=some (.int .u64 a0_0):=(zs BK968.out 0).trans rfl;have hcz34_1 : w33.cell? ⟨gb968,1,none⟩=some (.int .u32 a0_1):=(zs BK968.out 1).trans rfl;have hcz34_2 : w33.cell? ⟨gb968,2,none⟩=some (.slice A0_2 l0_2.length c0_2):=(zs BK968.out 2).trans rfl;have hfz34_0:=zx BK968.out 0;have hfz34_1:=zx BK968.out 1;have hfz34_2:=zx BK968.out 2)|((with_reducible refine gate_callee (f:=43) rfl ?_);refine goesL_ (some 43) rfl rfl Try.func43 (by kernel_rfl) rfl #[.agg #[.int .u64 a0_0, .int .u32 a0_1, .slice A0_2 l0_2.length c0_2], .slice A2 l2.length c2, .slice A4 l4.length c4, .bool true] rfl (by (try simp only [List.map_toArray,List.map_cons,List.map_nil]);first|done|rfl|(simp only [List.length_drop,List.length_take];rfl)) ?_;(with_reducible refine (gain_Put.calls kj5 a0_0 a0_1 (fun k_=>k_ < w.heap.size) _ _ l0_2 _ _ l2 _ _ l4 true t979 t980 t981 t984 _ ?side1 ?side2 ?side3 ?side4 ?side5 A23.out).mono ?_);(case side1=>exact Kd.V_mk HC0_2.out (Kd.F_below (Kd.C_F (Kd.heap_int .u8) HR0_2.out) (by repeat (first|(with_reducible first|exact HB.out|apply ze|apply zd|apply zf|refine zk ?_ GE968.out|refine zk ?_ GE969.out|refine zk ?_ GE978.out)|exact HB.out))));(case side2=>repeat (first|exact (Kd.C_below HR2.out HB.out)|(with_reducible refine Kd.C_alloc ?_ _)|(with_reducible refine Kd.C_drewN ?_ _)|(with_reducible refine Kd.C_drew ?_)));(case side3=>exact HC2.out);(case side4=>repeat (first|exact (Kd.C_below HR4.out HB.out)|(with_reducible refine Kd.C_alloc ?_ _)|(with_reducible refine Kd.C_drewN ?_ _)|(with_reducible refine Kd.C_drew ?_)));(case side5=>exact HC4.out);rintro e w35 ⟨v982,rfl,ho0,hb⟩;refine ⟨_,rfl, ?_⟩;have n0_:=zm (Kd.V_below (by (with_reducible repeat (first|apply zA|apply zB|apply zC));exact HO976.out) hb);have n1_:=zm (Kd.V_lower (zy (ok' := fun k_=>k_≠gb968∧k_≠gb969∧k_≠gb978) ho0 (fun k_ hk_=>⟨Or.elim hk_ (fun hs_=>fun e_=>Nat.not_le.2 hs_ (by rw [e_];exact GW968.out)) (fun hn_=>(Kd.freshB (g:=gb968) (o:=.cells #[.int .u64 a0_0, .int .u32 a0_1, .slice A0_2 l0_2.length c0_2] 26 (0,0)) (by (with_reducible repeat (first|refine zh ?_ _|refine zj ?_|refine zi ?_ _));exact BK968.out) k_ hn_)),Or.elim hk_ (fun hs_=>fun e_=>Nat.not_le.2 hs_ (by rw [e_];exact GW969.out)) (fun hn_=>(Kd.freshB (g:=gb969) (o:=.cells #[.int .u64 a1_0, .int .u32 a1_1, .slice A1_2 l1_2.length c1_2, .int .i64 a1_3] 43 (0,0)) (by (with_reducible repeat (first|refine zh ?_ _|refine zj ?_|refine zi ?_ _));exact BK969.out) k_ hn_)),Or.elim hk_ (fun hs_=>fun e_=>Nat.not_le.2 hs_ (by rw [e_];exact GW978.out)) (fun hn_=>(Kd.freshB (g:=gb978) (o:=.cells #[.int .u64 t972, .int .u32 t973, .slice Ao32 t974.length co32] 26 (0,0)) (by (with_reducible repeat (first|refine zh ?_ _|refine zj ?_|refine zi ?_ _));exact BK978.out) k_ hn_))⟩)) (zE (by repeat (first|(with_reducible first|exact HB.out|apply ze|apply zd|apply zf|refine zk ?_ GE968.out|refine zk ?_ GE969.out|refine zk ?_ GE978.out)|exact HB.out))));have n2_:=zm (zF (g:=gb968) (o:=.cells #[.int .u64 a0_0, .int .u32 a0_1, .slice A0_2 l0_2.length c0_2] 26 (0,0)) (by (with_reducible repeat (first|refine zh ?_ _|refine zj ?_|refine zi ?_ _));exact BK968.out) hb);have n3_:=zm (zF (g:=gb969) (o:=.cells #[.int .u64 a1_0, .int .u32 a1_1, .slice A1_2 l1_2.length c1_2, .int .i64 a1_3] 43 (0,0)) (by (with_reducible repeat (first|refine zh ?_ _|refine zj ?_|refine zi ?_ _));exact BK969.out) hb);have n4_:=zm (zF (g:=gb978) (o:=.cells #[.int .u64 t972, .int .u32 t973, .slice Ao32 t974.length co32] 26 (0,0)) (by (with_reducible repeat (first|refine zh ?_ _|refine zj ?_|refine zi ?_ _));exact BK978.out) hb);have n5_:=zm (zJ (by repeat (first|(with_reducible first|exact HB.out|apply ze|apply zd|apply zf|refine zk ?_ GE968.out|refine zk ?_ GE969.out|refine zk ?_ GE978.out)|exact HB.out)) hb);clear HO976;clear BK968;clear BK969;clear BK978;clear HB;have HO976:=n0_;have HO983:=n1_;have BK968:=n2_;have BK969:=n3_;have BK978:=n4_;have HB:=n5_;clear n0_ n1_ n2_ n3_ n4_ n5_;(try clear hb);(try clear hb2);(try clear hk);(try clear hi);(try clear ho0))|((with_reducible refine gate_dst (N:=13) rfl ?_);(try (refine gate_guard (by rfl) ?_;dsimp only));refine box_event ?hg (N:=13) ?hd (cs := #[.int .u64 0, .int .u32 0, .slice none 0 0]) (t:=26) ?hr ?_;(case hd=>rfl);(case hg=>rfl);(case hr=>first|(go_simp;done)|(go_simp;rfl));intro gb985 hg w36 hbox hb;have n0_:=zm (Kd.V_below (Kd.V_elderB (by (with_reducible repeat (first|apply zA|apply zB|apply zC));exact HO976.out) gb985 (Nat.le_of_eq hg.symm)) hb);have n1_:=zm (Kd.V_below (Kd.V_elderB (by (with_reducible repeat (first|apply zA|apply zB|apply zC));exact HO983.out) gb985 (Nat.le_of_eq hg.symm)) hb);have n2_:=zm (zF (g:=gb968) (o:=.cells #[.int .u64 a0_0, .int .u32 a0_1, .slice A0_2 l0_2.length c0_2] 26 (0,0)) (by (with_reducible repeat (first|refine zh ?_ _|refine zj ?_|refine zi ?_ _));exact BK968.out) hb);have n3_:=zm (zF (g:=gb969) (o:=.cells #[.int .u64 a1_0, .int .u32 a1_1, .slice A1_2 l1_2.length c1_2, .int .i64 a1_3] 43 (0,0)) (by (with_reducible repeat (first|refine zh ?_ _|refine zj ?_|refine zi ?_ _));exact BK969.out) hb);have n4_:=zm (zF (g:=gb978) (o:=.cells #[.int .u64 t972, .int .u32 t973, .slice Ao32 t974.length co32] 26 (0,0)) (by (with_reducible repeat (first|refine zh ?_ _|refine zj ?_|refine zi ?_ _));exact BK978.out) hb);have n5_:=zm (zJ (by repeat (first|(with_reducible first|exact HB.out|apply ze|apply zd|apply zf|refine zk ?_ GE968.out|refine zk ?_ GE969.out|refine zk ?_ GE978.out)|exact HB.out)) hb);have n6_:=zm (hbox);have n7_:=zm ((by rw [hg];exact (zE (by repeat (first|(with_reducible first|exact HB.out|apply ze|apply zd|apply zf|refine zk ?_ GE968.out|refine zk ?_ GE969.out|refine zk ?_ GE978.out)|exact HB.out))) : w.heap.size≤gb985));have n8_:=zm ((by rw [hg];exact (zE (by repeat (first|(with_reducible first|exact HB.out|apply ze|apply zd|apply zf|refine zk ?_ GE968.out|refine zk ?_ GE969.out|refine zk ?_ GE978.out)|exact HB.out))) : w.heap.size≤gb985));have n9_:=zm ((by rw [hg];exact zn (zD (g:=gb968) (o:=.cells #[.int .u64 a0_0, .int .u32 a0_1, .slice A0_2 l0_2.length c0_2] 26 (0,0)) (by (with_reducible repeat (first|refine zh ?_ _|refine zj ?_|refine zi ?_ _));exact BK968.out)) : gb968≠gb985));have n10_:=zm ((by rw [hg];exact zg (zD (g:=gb968) (o:=.cells #[.int .u64 a0_0, .int .u32 a0_1, .slice A0_2 l0_2.length c0_2] 26 (0,0)) (by (with_reducible repeat (first|refine zh ?_ _|refine zj ?_|refine zi ?_ _));exact BK968.out)) : gb985≠gb968));have n11_:=zm ((by rw [hg];exact zn (zD (g:=gb969) (o:=.cells #[.int .u64 a1_0, .int .u32 a1_1, .slice A1_2 l1_2.length c1_2, .int .i64 a1_3] 43 (0,0)) (by (with_reducible repeat (first|refine zh ?_ _|refine zj ?_|refine zi ?_ _));exact BK969.out)) : gb969≠gb985));have n12_:=zm ((by rw [hg];exact zg (zD (g:=gb969) (o:=.cells #[.int .u64 a1_0, .int .u32 a1_1, .slice A1_2 l1_2.length c1_2, .int .i64 a1_3] 43 (0,0)) (by (with_reducible repeat (first|refine zh ?_ _|refine zj ?_|refine zi ?_ _));exact BK969.out)) : gb985≠gb969));have n13_:=zm ((by rw [hg];exact zn (zD (g:=gb978) (o:=.cells #[.int .u64 t972, .int .u32 t973, .slice Ao32 t974.length co32] 26 (0,0)) (by (with_reducible repeat (first|refine zh ?_ _|refine zj ?_|refine zi ?_ _));exact BK978.out)) : gb978≠gb985));have n14_:=zm ((by rw [hg];exact zg (zD (g:=gb978) (o:=.cells #[.int .u64 t972, .int .u32 t973, .slice Ao32 t974.length co32] 26 (0,0)) (by (with_reducible repeat (first|refine zh ?_ _|refine zj ?_|refine zi ?_ _));exact BK978.out)) : gb985≠gb978));clear HO976;clear HO983;clear BK968;clear BK969;clear BK978;clear HB;have HO976:=n0_;have HO983:=n1_;have BK968:=n2_;have BK969:=n3_;have BK978:=n4_;have HB:=n5_;have BK985:=n6_;have GW985:=n7_;have GE985:=n8_;have NB968_985:=n9_;have NB985_968:=n10_;have NB969_985:=n11_;have NB985_969:=n12_;have NB978_985:=n13_;have NB985_978:=n14_;clear n0_ n1_ n2_ n3_ n4_ n5_ n6_ n7_ n8_ n9_ n10_ n11_ n12_ n13_ n14_;clear hb hbox hg;have hnb37:=NB985_968.out;have hnc37:=NB968_985.out;have hnb38:=NB985_969.out;have hnc38:=NB969_985.out;have hnb39:=NB985_978.out;have hnc39:=NB978_985.out;have hcz40_0 : w36.cell? ⟨gb985,0,none⟩=some (.int .u64 0):=(zs BK985.out 0).trans rfl;have hcz40_1 : w36.cell? ⟨gb985,1,none⟩=some (.int .u32 0):=(zs BK985.out 1).trans rfl;have hcz40_2 : w36.cell? ⟨gb985,2,none⟩=some (.slice none 0 0):=(zs BK985.out 2).trans rfl;have hfz40_0:=zx BK985.out 0;have hfz40_1:=zx BK985.out 1;have hfz40_2:=zx BK985.out 2;obtain ⟨Ao41,co41,eo41⟩:=Kd.V_slice HO983.out;subst eo41))
    (try simp only [Act.put,List.setIfInBounds_toArray,List.set_cons_zero,List.set_cons_succ])
    go_cut [55] (fun v55 wc => ∃ (kq : Nat) (x55_23 : Bool),v55=.bool x55_23∧Aside0 (psalterylaw11_GainAlone.j1 kq l3 l4 x55_23 a1_0 a1_1 l1_2 a1_3=some r)∧Aside0 (kq≤kj5)∧Aside0 (Kd.V (Kd.int .u8) 5 wc w.heap.size (fun k_=>k_≠gb968∧k_≠gb969∧k_≠gb978∧k_≠gb985) (.slice Ao32 t974.length co32) t974)∧Aside0 (Kd.V (Kd.int .u8) 5 wc w.heap.size (fun k_=>k_≠gb968∧k_≠gb969∧k_≠gb978∧k_≠gb985) (.slice Ao41 t981.length co41) t981)∧Aside0 (wc.heap[gb968]? = some (.cells #[.int .u64 a0_0, .int .u32 a0_1,(.slice A0_2 l0_2.length c0_2)] 26 (0,0)))∧Aside0 (wc.heap[gb969]? = some (.cells #[.int .u64 a1_0, .int .u32 a1_1,(.slice A1_2 l1_2.length c1_2), .int .i64 a1_3] 43 (0,0)))∧Aside0 (wc.heap[gb978]? = some (.cells #[.int .u64 t972, .int .u32 t973,(.slice Ao32 t974.length co32)] 26 (0,0)))∧Aside0 (wc.heap[gb985]? = some (.cells #[.int .u64 t979, .int .u32 t980,(.slice Ao41 t981.length co41)] 26 (0,0)))∧Aside0 (Below w.heap.size w wc))
    case first =>
     have H:=HC24.out;clear HC24
     by_cases c42 : t977=t984
     ·
      rw [if_pos c42] at H
      have c42b0 : (t977 == t984)=true:=beq_iff_eq.mpr c42
      have c42b1 : (t977 != t984)=false:=bne_eq_false_iff_eq.mpr c42
      clear c42
      (first|rw [c42b0]|(simp only [i64_w,i32_w];rw [c42b0])|skip)
      replace H:=Option.bind_eq_some_iff.mp H
      obtain ⟨⟨t986,t987⟩,A430,H⟩:=H
      replace H : ((psalterylaw05_SameEnc.f kj5 t972 t973 t974 t986 t987).bind fun t990=>(psalterylaw11_GainAlone.j1 kj5 l3 l4 (!t990) a1_0 a1_1 l1_2 a1_3))=some r:=H
      have A43:=zm A430;clear A430
      replace H:=Option.bind_eq_some_iff.mp H
      obtain ⟨t990,A440,H⟩:=H
      replace H : (psalterylaw11_GainAlone.j1 kj5 l3 l4 (!t990) a1_0 a1_1 l1_2 a1_3)=some r:=H
      have A44:=zm A440;clear A440
      have H' := zm H
      clear H
      try go_wp2
      have n0_ : Aside0 (Kd.V (Kd.int .u8) 5 (((w36.setCell ⟨gb985,0,none⟩ (.int .u64 t979)).setCell ⟨gb985,1,none⟩ (.int .u32 t980)).setCell ⟨gb985,2,none⟩ (.slice Ao41 t981.length co41)) w.heap.size (fun k_=>k_≠gb968∧k_≠gb969∧k_≠gb978∧k_≠gb985) (.slice Ao32 t974.length co32) t974):=⟨by (with_reducible repeat (first|apply zA|apply zB|apply zC));exact zy (zI (p:=⟨gb985,2,none⟩) (zI (p:=⟨gb985,1,none⟩) (zI (p:=⟨gb985,0,none⟩) (zy HO976.out (fun k_ hk=>(⟨hk,hk.2⟩ : _∧k_≠gb985))) (fun _ hk=>hk.2) (.int .u64 t979)) (fun _ hk=>hk.2) (.int .u32 t980)) (fun _ hk=>hk.2) (.slice Ao41 t981.length co41)) (fun _ hk=>⟨hk.1.1.1,⟨hk.1.1.2.1,⟨hk.1.1.2.2,hk.1.2⟩⟩⟩)⟩
      have n1_ : Aside0 (Kd.V (Kd.int .u8) 5 (((w36.setCell ⟨gb985,0,none⟩ (.int .u64 t979)).setCell ⟨gb985,1,none⟩ (.int .u32 t980)).setCell ⟨gb985,2,none⟩ (.slice Ao41 t981.length co41)) w.heap.size (fun k_=>k_≠gb968∧k_≠gb969∧k_≠gb978∧k_≠gb985) (.slice Ao41 t981.length co41) t981):=⟨by (with_reducible repeat (first|apply zA|apply zB|apply zC));exact zy (zI (p:=⟨gb985,2,none⟩) (zI (p:=⟨gb985,1,none⟩) (zI (p:=⟨gb985,0,none⟩) (zy HO983.out (fun k_ hk=>(⟨hk,hk.2⟩ : _∧k_≠gb985))) (fun _ hk=>hk.2) (.int .u64 t979)) (fun _ hk=>hk.2) (.int .u32 t980)) (fun _ hk=>hk.2) (.slice Ao41 t981.length co41)) (fun _ hk=>⟨hk.1.1.1,⟨hk.1.1.2.1,⟨hk.1.1.2.2,hk.1.2⟩⟩⟩)⟩
      have n2_ : Aside0 ((((w36.setCell ⟨gb985,0,none⟩ (.int .u64 t979)).setCell ⟨gb985,1,none⟩ (.int .u32 t980)).setCell ⟨gb985,2,none⟩ (.slice Ao41 t981.length co41)).heap[gb968]? = some (.cells #[.int .u64 a0_0, .int .u32 a0_1, .slice A0_2 l0_2.length c0_2] 26 (0,0))):=⟨by (with_reducible repeat (first|refine zh ?_ _|refine zj ?_|refine zi ?_ _|refine zv ?_ NB968_985.out _));exact BK968.out⟩
      have n3_ : Aside0 ((((w36.setCell ⟨gb985,0,none⟩ (.int .u64 t979)).setCell ⟨gb985,1,none⟩ (.int .u32 t980)).setCell ⟨gb985,2,none⟩ (.slice Ao41 t981.length co41)).heap[gb969]? = some (.cells #[.int .u64 a1_0, .int .u32 a1_1, .slice A1_2 l1_2.length c1_2, .int .i64 a1_3] 43 (0,0))):=⟨by (with_reducible repeat (first|refine zh ?_ _|refine zj ?_|refine zi ?_ _|refine zv ?_ NB969_985.out _));exact BK969.out⟩
      have n4_ : Aside0 ((((w36.setCell ⟨gb985,0,none⟩ (.int .u64 t979)).setCell ⟨gb985,1,none⟩ (.int .u32 t980)).setCell ⟨gb985,2,none⟩ (.slice Ao41 t981.length co41)).heap[gb978]? = some (.cells #[.int .u64 t972, .int .u32 t973, .slice Ao32 t974.length co32] 26 (0,0))):=⟨by (with_reducible repeat (first|refine zh ?_ _|refine zj ?_|refine zi ?_ _|refine zv ?_ NB978_985.out _));exact BK978.out⟩
      have n5_ : Aside0 ((((w36.setCell ⟨gb985,0,none⟩ (.int .u64 t979)).setCell ⟨gb985,1,none⟩ (.int .u32 t980)).setCell ⟨gb985,2,none⟩ (.slice Ao41 t981.length co41)).heap[gb985]? = some (.cells #[.int .u64 t979, .int .u32 t980, .slice Ao41 t981.length co41] 26 (0,0))):=⟨by (with_reducible repeat (first|refine zh ?_ _|refine zj ?_|refine zi ?_ _));refine zw (cs := #[.int .u64 t979, .int .u32 t980, .slice none 0 0]) ?_ 2 _ rfl;(with_reducible repeat (first|refine zh ?_ _|refine zj ?_|refine zi ?_ _));refine zw (cs := #[.int .u64 t979, .int .u32 0, .slice none 0 0]) ?_ 1 _ rfl;(with_reducible repeat (first|refine zh ?_ _|refine zj ?_|refine zi ?_ _));refine zw (cs := #[.int .u64 0, .int .u32 0, .slice none 0 0]) ?_ 0 _ rfl;(with_reducible repeat (first|refine zh ?_ _|refine zj ?_|refine zi ?_ _));exact BK985.out⟩
      have n6_ : Aside0 (Below w.heap.size w (((w36.setCell ⟨gb985,0,none⟩ (.int .u64 t979)).setCell ⟨gb985,1,none⟩ (.int .u32 t980)).setCell ⟨gb985,2,none⟩ (.slice Ao41 t981.length co41))):=⟨by repeat (first|(with_reducible first|exact HB.out|apply ze|apply zd|apply zf|refine zk ?_ GE968.out|refine zk ?_ GE969.out|refine zk ?_ GE978.out|refine zk ?_ GE985.out)|exact HB.out)⟩
      (try clear HO976)
      (try clear HO983)
      (try clear BK968)
      (try clear BK969)
      (try clear BK978)
      (try clear BK985)
      (try clear HB)
      generalize (((w36.setCell ⟨gb985,0,none⟩ (.int .u64 t979)).setCell ⟨gb985,1,none⟩ (.int .u32 t980)).setCell ⟨gb985,2,none⟩ (.slice Ao41 t981.length co41))=w45 at n0_ n1_ n2_ n3_ n4_ n5_ n6_ ⊢
      have HO976:=n0_;have HO983:=n1_;have BK968:=n2_;have BK969:=n3_;have BK978:=n4_;have BK985:=n5_;have HB:=n6_;clear n0_ n1_ n2_ n3_ n4_ n5_ n6_;have n0_:=zm (zC HO976.out);have n1_:=zm (zC HO983.out);have n2_:=zm (zj BK968.out);have n3_:=zm (zj BK969.out);have n4_:=zm (zj BK978.out);have n5_:=zm (zj BK985.out);have n6_:=zm (zf HB.out);clear HO976;clear HO983;clear BK968;clear BK969;clear BK978;clear BK985;clear HB;have HO976:=n0_;have HO983:=n1_;have BK968:=n2_;have BK969:=n3_;have BK978:=n4_;have BK985:=n5_;have HB:=n6_;clear n0_ n1_ n2_ n3_ n4_ n5_ n6_
      refine start_ (n:=10) (S:=fun w' => w'.cell? ⟨gb978,0,none⟩=some (.int .u64 t972)∧w'.cell? ⟨gb978,1,none⟩=some (.int .u32 t973)∧w'.cell? ⟨gb978,2,none⟩=some (.slice Ao32 t974.length co32)∧w'.cell? ⟨gb985,0,none⟩=some (.int .u64 t979)∧w'.cell? ⟨gb985,1,none⟩=some (.int .u32 t980)∧w'.cell? ⟨gb985,2,none⟩=some (.slice Ao41 t981.length co41)) (ds := []) #[false,false,false,false,false,false,false,false,false,false] (by kernel_rfl) rfl rfl ⟨(zs BK978.out 0).trans rfl,(zs BK978.out 1).trans rfl,(zs BK978.out 2).trans rfl,(zs BK985.out 0).trans rfl,(zs BK985.out 1).trans rfl,(zs BK985.out 2).trans rfl⟩ (fun hHeld => ?_);refine with_tabW psalterylaw11_GainAlone.tab5 psalterylaw11_GainAlone.bits5 (fun HT_ HW_ => ?_)
      generalize w45.drew=w46 at HO976 HO983 BK968 BK969 BK978 BK985 HB hHeld ⊢
      refine pure_ (i:=0) (N:=some 46) (v := ?_) (a' := ?_) #[true,false,false,false,false,false,false,false,false,false] rfl rfl (any_of HT_.out (by kernel_rfl)) (fun _ _ _ h=>h) (Or.inl ⟨by rfl, ?_⟩) ?_ ?_
      rotate_left
      ·
       intro w'
       go_simp
       with_reducible rfl
      rotate_left
      ·
       simp only [Act.put,List.setIfInBounds_toArray,List.set_cons_zero,List.set_cons_succ,i64_w,i32_w]
       rfl
      refine pure_ (i:=1) (N:=some 47) (v := ?_) (a' := ?_) #[true,true,false,false,false,false,false,false,false,false] rfl rfl (any_of HT_.out (by kernel_rfl)) (fun _ _ _ h=>h) (Or.inl ⟨by rfl, ?_⟩) ?_ ?_
      rotate_left
      ·
       intro w'
       go_simp
       with_reducible rfl
      rotate_left
      ·
       simp only [Act.put,List.setIfInBounds_toArray,List.set_cons_zero,List.set_cons_succ,i64_w,i32_w]
       rfl
      refine pure_ (i:=2) (N:=some 48) (v := ?_) (a' := ?_) #[true,true,true,false,false,false,false,false,false,false] rfl rfl (any_of HT_.out (by kernel_rfl)) (fun _ _ _ h=>h) (Or.inl ⟨by rfl, ?_⟩) ?_ ?_
      rotate_left
      ·
       intro w'
       go_simp
       with_reducible rfl
      rotate_left
      ·
       simp only [Act.put,List.setIfInBounds_toArray,List.set_cons_zero,List.set_cons_succ,i64_w,i32_w]
       rfl
      refine pure_ (i:=3) (N:=some 49) (v := ?_) (a' := ?_) #[true,true,true,true,false,false,false,false,false,false] rfl rfl (any_of HT_.out (by kernel_rfl)) (fun _ _ _ h=>h) (Or.inl ⟨by rfl, ?_⟩) ?_ ?_
      rotate_left
      ·
       intro w'
       go_simp
       with_reducible rfl
      rotate_left
      ·
       simp only [Act.put,List.setIfInBounds_toArray,List.set_cons_zero,List.set_cons_succ,i64_w,i32_w]
       rfl
      refine take_ (i:=4) (N:=some 50) (v := ?_) (a' := ?_) #[true,true,true,true,true,false,false,false,false,false] rfl rfl (take_ofW HT_.out HW_.out (by kernel_rfl)) (fun _ _ _ h=>h) (Or.inl ⟨by rfl, ?_⟩) hHeld ?_ ?_
      rotate_left
      ·
       rintro w' ⟨s0,s1,s2,s3,s4,s5⟩
       go_simp
       with_reducible rfl
      rotate_left
      ·
       simp only [Act.put,List.setIfInBounds_toArray,List.set_cons_zero,List.set_cons_succ,i64_w,i32_w]
       rfl
      refine take_ (i:=5) (N:=some 51) (v := ?_) (a' := ?_) #[true,true,true,true,true,true,false,false,false,false] rfl rfl (take_ofW HT_.out HW_.out (by kernel_rfl)) (fun _ _ _ h=>h) (Or.inl ⟨by rfl, ?_⟩) hHeld ?_ ?_
      rotate_left
      ·
       rintro w' ⟨s0,s1,s2,s3,s4,s5⟩
       go_simp
       with_reducible rfl
      rotate_left
      ·
       simp only [Act.put,List.setIfInBounds_toArray,List.set_cons_zero,List.set_cons_succ,i64_w,i32_w]
       rfl
      refine one_ (i:=6) (N:=some 52) #[true,true,true,true,true,true,true,false,false,false] rfl rfl (one_of HT_.out (by kernel_rfl)) (by decide) (fun K hK => ?_)
      refine goes_ Try.func20 (by kernel_rfl) rfl #[.agg #[.int .u64 t979, .int .u32 t980, .slice Ao41 t981.length co41]] (by rfl) rfl rfl (by (try simp only [List.map_toArray,List.map_cons,List.map_nil]);first|done|rfl|(simp only [List.length_drop,List.length_take];rfl)) ?_
      with_reducible refine (psalterylaw05_AsEnc.calls kj5 t979 t980 _ _ t981 t986 t987 _ ?side1 ?side2 A43.out).mono ?_
      (case side1=>repeat (first|exact (Kd.V_reads' HO983.out).2.2|(with_reducible refine Kd.C_alloc ?_ _)|(with_reducible refine Kd.C_drewN ?_ _)|(with_reducible refine Kd.C_drew ?_)))
      (case side2=>exact (Kd.V_reads' HO983.out).2.1)
      rintro e w47 ⟨v988,rfl,ho0,hb⟩
      refine ⟨_,rfl, ?_⟩
      have n0_:=zm (Kd.V_elder' (by (with_reducible repeat (first|apply zA|apply zB|apply zC));exact HO976.out) (Kd.R_base ho0) hb)
      have n1_:=zm (Kd.V_elder' (by (with_reducible repeat (first|apply zA|apply zB|apply zC));exact HO983.out) (Kd.R_base ho0) hb)
      have n2_:=zm (Kd.R_lower ho0 (zE (by repeat (first|(with_reducible first|exact HB.out|apply ze|apply zd|apply zf|refine zk ?_ GE968.out|refine zk ?_ GE969.out|refine zk ?_ GE978.out|refine zk ?_ GE985.out)|exact HB.out))))
      have n3_:=zm (zF (g:=gb968) (o:=.cells #[.int .u64 a0_0, .int .u32 a0_1, .slice A0_2 l0_2.length c0_2] 26 (0,0)) (by (with_reducible repeat (first|refine zh ?_ _|refine zj ?_|refine zi ?_ _));exact BK968.out) hb)
      have n4_:=zm (zF (g:=gb969) (o:=.cells #[.int .u64 a1_0, .int .u32 a1_1, .slice A1_2 l1_2.length c1_2, .int .i64 a1_3] 43 (0,0)) (by (with_reducible repeat (first|refine zh ?_ _|refine zj ?_|refine zi ?_ _));exact BK969.out) hb)
      have n5_:=zm (zF (g:=gb978) (o:=.cells #[.int .u64 t972, .int .u32 t973, .slice Ao32 t974.length co32] 26 (0,0)) (by (with_reducible repeat (first|refine zh ?_ _|refine zj ?_|refine zi ?_ _));exact BK978.out) hb)
      have n6_:=zm (zF (g:=gb985) (o:=.cells #[.int .u64 t979, .int .u32 t980, .slice Ao41 t981.length co41] 26 (0,0)) (by (with_reducible repeat (first|refine zh ?_ _|refine zj ?_|refine zi ?_ _));exact BK985.out) hb)
      have n7_:=zm (zJ (by repeat (first|(with_reducible first|exact HB.out|apply ze|apply zd|apply zf|refine zk ?_ GE968.out|refine zk ?_ GE969.out|refine zk ?_ GE978.out|refine zk ?_ GE985.out)|exact HB.out)) hb)
      clear HO976;clear HO983;clear BK968;clear BK969;clear BK978;clear BK985;clear HB;have HO976:=n0_;have HO983:=n1_;have HO989:=n2_;have BK968:=n3_;have BK969:=n4_;have BK978:=n5_;have BK985:=n6_;have HB:=n7_;clear n0_ n1_ n2_ n3_ n4_ n5_ n6_ n7_
      (try clear hb)
      (try clear hb2)
      (try clear hk)
      (try clear hi)
      (try clear ho0)
      obtain ⟨Ao48,co48,eo48⟩:=Kd.R_slice HO989.out
      (first|subst eo48|(injection eo48 with f1_ f2_ f3_;have f4_:=f1_.symm;have f5_:=f3_.symm;clear f1_ f2_ f3_;subst f4_;subst f5_))
      refine hK.out _ _ ⟨(zs BK978.out 0).trans rfl,(zs BK978.out 1).trans rfl,(zs BK978.out 2).trans rfl,(zs BK985.out 0).trans rfl,(zs BK985.out 1).trans rfl,(zs BK985.out 2).trans rfl⟩ (fun hHeld => ?_)
      clear hK K
      refine norm_ (a' := ?_) ?_ ?_
      rotate_left
      ·
       show Act.put _ (some 52) _=_
       simp only [Act.put,List.setIfInBounds_toArray,List.set_cons_zero,List.set_cons_succ,i64_w,i32_w]
       rfl
      refine one_ (i:=7) (N:=some 53) #[true,true,true,true,true,true,true,true,false,false] rfl rfl (one_of HT_.out (by kernel_rfl)) (by decide) (fun K hK => ?_)
      refine goes_ Try.func23 (by kernel_rfl) rfl #[.agg #[.int .u64 t972, .int .u32 t973, .slice Ao32 t974.length co32], .agg #[.int .u64 t986, .slice Ao48 t987.length co48]] (by rfl) rfl rfl (by (try simp only [List.map_toArray,List.map_cons,List.map_nil]);first|done|rfl|(simp only [List.length_drop,List.length_take];rfl)) ?_
      with_reducible refine (psalterylaw05_SameEnc.calls kj5 t972 t973 _ _ t974 t986 _ _ t987 t990 _ ?side1 ?side2 ?side3 ?side4 A44.out).mono ?_
      (case side1=>repeat (first|exact (Kd.V_reads' HO976.out).2.2|(with_reducible refine Kd.C_alloc ?_ _)|(with_reducible refine Kd.C_drewN ?_ _)|(with_reducible refine Kd.C_drew ?_)))
      (case side2=>exact (Kd.V_reads' HO976.out).2.1)
      (case side3=>repeat (first|exact (Kd.R_reads' HO989.out).2.2|(with_reducible refine Kd.C_alloc ?_ _)|(with_reducible refine Kd.C_drewN ?_ _)|(with_reducible refine Kd.C_drew ?_)))
      (case side4=>exact (Kd.R_reads' HO989.out).2.1)
      rintro e w49 ⟨rfl,hb⟩
      refine ⟨_,rfl, ?_⟩
      have n0_:=zm (Kd.V_below (by (with_reducible repeat (first|apply zA|apply zB|apply zC));exact HO976.out) hb)
      have n1_:=zm (Kd.V_below (by (with_reducible repeat (first|apply zA|apply zB|apply zC));exact HO983.out) hb)
      have n2_:=zm (Kd.R_below (by (with_reducible repeat (first|apply zo|apply zp|apply zq));exact HO989.out) hb)
      have n3_:=zm (zF (g:=gb968) (o:=.cells #[.int .u64 a0_0, .int .u32 a0_1, .slice A0_2 l0_2.length c0_2] 26 (0,0)) (by (with_reducible repeat (first|refine zh ?_ _|refine zj ?_|refine zi ?_ _));exact BK968.out) hb)
      have n4_:=zm (zF (g:=gb969) (o:=.cells #[.int .u64 a1_0, .int .u32 a1_1, .slice A1_2 l1_2.length c1_2, .int .i64 a1_3] 43 (0,0)) (by (with_reducible repeat (first|refine zh ?_ _|refine zj ?_|refine zi ?_ _));exact BK969.out) hb)
      have n5_:=zm (zF (g:=gb978) (o:=.cells #[.int .u64 t972, .int .u32 t973, .slice Ao32 t974.length co32] 26 (0,0)) (by (with_reducible repeat (first|refine zh ?_ _|refine zj ?_|refine zi ?_ _));exact BK978.out) hb)
      have n6_:=zm (zF (g:=gb985) (o:=.cells #[.int .u64 t979, .int .u32 t980, .slice Ao41 t981.length co41] 26 (0,0)) (by (with_reducible repeat (first|refine zh ?_ _|refine zj ?_|refine zi ?_ _));exact BK985.out) hb)
      have n7_:=zm (zJ (by repeat (first|(with_reducible first|exact HB.out|apply ze|apply zd|apply zf|refine zk ?_ GE968.out|refine zk ?_ GE969.out|refine zk ?_ GE978.out|refine zk ?_ GE985.out)|exact HB.out)) hb)
      clear HO976;clear HO983;clear HO989;clear BK968;clear BK969;clear BK978;clear BK985;clear HB;have HO976:=n0_;have HO983:=n1_;have HO989:=n2_;have BK968:=n3_;have BK969:=n4_;have BK978:=n5_;have BK985:=n6_;have HB:=n7_;clear n0_ n1_ n2_ n3_ n4_ n5_ n6_ n7_
      (try clear hb)
      (try clear hb2)
      (try clear hk)
      (try clear hi)
      refine hK.out _ _ ⟨(zs BK978.out 0).trans rfl,(zs BK978.out 1).trans rfl,(zs BK978.out 2).trans rfl,(zs BK985.out 0).trans rfl,(zs BK985.out 1).trans rfl,(zs BK985.out 2).trans rfl⟩ (fun hHeld => ?_)
      clear hK K
      refine norm_ (a' := ?_) ?_ ?_
      rotate_left
      ·
       show Act.put _ (some 53) _=_
       simp only [Act.put,List.setIfInBounds_toArray,List.set_cons_zero,List.set_cons_succ,i64_w,i32_w]
       rfl
      refine pure_ (i:=8) (N:=some 54) (v := ?_) (a' := ?_) #[true,true,true,true,true,true,true,true,true,false] rfl rfl (any_of HT_.out (by kernel_rfl)) (fun _ _ _ h=>h) (Or.inl ⟨by rfl, ?_⟩) ?_ ?_
      rotate_left
      ·
       intro w'
       go_simp
       with_reducible rfl
      rotate_left
      ·
       simp only [Act.put,List.setIfInBounds_toArray,List.set_cons_zero,List.set_cons_succ,i64_w,i32_w]
       rfl
      refine pure_ (i:=9) (N:=some 55) (v := ?_) (a' := ?_) #[true,true,true,true,true,true,true,true,true,true] rfl rfl (any_of HT_.out (by kernel_rfl)) (fun _ _ _ h=>h) (Or.inl ⟨by rfl, ?_⟩) ?_ ?_
      rotate_left
      ·
       intro w'
       go_simp
       with_reducible rfl
      rotate_left
      ·
       simp only [Act.put,List.setIfInBounds_toArray,List.set_cons_zero,List.set_cons_succ,i64_w,i32_w]
       rfl
      refine done_ (done_of HT_.out (by kernel_rfl)) ?_
      try go_wp2
      go_meet
      case rel=>exact ⟨_,(!t990),(by first|rfl|(simp;done)|(simp [*];done)),H',⟨by have:=HJ5.out;first|omega|exact Nat.le_refl _⟩,⟨by (with_reducible repeat (first|apply zA|apply zB|apply zC));exact zy HO976.out (fun _ hk=>⟨hk.1.1,⟨hk.1.2.1,⟨hk.1.2.2.1,hk.1.2.2.2⟩⟩⟩)⟩,⟨by (with_reducible repeat (first|apply zA|apply zB|apply zC));exact zy HO983.out (fun _ hk=>⟨hk.1.1,⟨hk.1.2.1,⟨hk.1.2.2.1,hk.1.2.2.2⟩⟩⟩)⟩,⟨by (with_reducible repeat (first|refine zh ?_ _|refine zj ?_|refine zi ?_ _));exact BK968.out⟩,⟨by (with_reducible repeat (first|refine zh ?_ _|refine zj ?_|refine zi ?_ _));exact BK969.out⟩,⟨by (with_reducible repeat (first|refine zh ?_ _|refine zj ?_|refine zi ?_ _));exact BK978.out⟩,⟨by (with_reducible repeat (first|refine zh ?_ _|refine zj ?_|refine zi ?_ _));exact BK985.out⟩,⟨by repeat (first|(with_reducible first|exact HB.out|apply ze|apply zd|apply zf|refine zk ?_ GE968.out|refine zk ?_ GE969.out|refine zk ?_ GE978.out|refine zk ?_ GE985.out)|exact HB.out)⟩⟩
     ·
      rw [if_neg c42] at H
      have c42b0 : (t977 == t984)=false:=beq_eq_false_iff_ne.mpr c42
      have c42b1 : (t977 != t984)=true:=bne_iff_ne.mpr c42
      (first|rw [c42b0]|(simp only [i64_w,i32_w];rw [c42b0])|skip)
      have H' := zm H
      clear H
      try go_wp2
      have n0_ : Aside0 (Kd.V (Kd.int .u8) 5 (((w36.setCell ⟨gb985,0,none⟩ (.int .u64 t979)).setCell ⟨gb985,1,none⟩ (.int .u32 t980)).setCell ⟨gb985,2,none⟩ (.slice Ao41 t981.length co41)) w.heap.size (fun k_=>k_≠gb968∧k_≠gb969∧k_≠gb978∧k_≠gb985) (.slice Ao32 t974.length co32) t974):=⟨by (with_reducible repeat (first|apply zA|apply zB|apply zC));exact zy (zI (p:=⟨gb985,2,none⟩) (zI (p:=⟨gb985,1,none⟩) (zI (p:=⟨gb985,0,none⟩) (zy HO976.out (fun k_ hk=>(⟨hk,hk.2⟩ : _∧k_≠gb985))) (fun _ hk=>hk.2) (.int .u64 t979)) (fun _ hk=>hk.2) (.int .u32 t980)) (fun _ hk=>hk.2) (.slice Ao41 t981.length co41)) (fun _ hk=>⟨hk.1.1.1,⟨hk.1.1.2.1,⟨hk.1.1.2.2,hk.1.2⟩⟩⟩)⟩
      have n1_ : Aside0 (Kd.V (Kd.int .u8) 5 (((w36.setCell ⟨gb985,0,none⟩ (.int .u64 t979)).setCell ⟨gb985,1,none⟩ (.int .u32 t980)).setCell ⟨gb985,2,none⟩ (.slice Ao41 t981.length co41)) w.heap.size (fun k_=>k_≠gb968∧k_≠gb969∧k_≠gb978∧k_≠gb985) (.slice Ao41 t981.length co41) t981):=⟨by (with_reducible repeat (first|apply zA|apply zB|apply zC));exact zy (zI (p:=⟨gb985,2,none⟩) (zI (p:=⟨gb985,1,none⟩) (zI (p:=⟨gb985,0,none⟩) (zy HO983.out (fun k_ hk=>(⟨hk,hk.2⟩ : _∧k_≠gb985))) (fun _ hk=>hk.2) (.int .u64 t979)) (fun _ hk=>hk.2) (.int .u32 t980)) (fun _ hk=>hk.2) (.slice Ao41 t981.length co41)) (fun _ hk=>⟨hk.1.1.1,⟨hk.1.1.2.1,⟨hk.1.1.2.2,hk.1.2⟩⟩⟩)⟩
      have n2_ : Aside0 ((((w36.setCell ⟨gb985,0,none⟩ (.int .u64 t979)).setCell ⟨gb985,1,none⟩ (.int .u32 t980)).setCell ⟨gb985,2,none⟩ (.slice Ao41 t981.length co41)).heap[gb968]? = some (.cells #[.int .u64 a0_0, .int .u32 a0_1, .slice A0_2 l0_2.length c0_2] 26 (0,0))):=⟨by (with_reducible repeat (first|refine zh ?_ _|refine zj ?_|refine zi ?_ _|refine zv ?_ NB968_985.out _));exact BK968.out⟩
      have n3_ : Aside0 ((((w36.setCell ⟨gb985,0,none⟩ (.int .u64 t979)).setCell ⟨gb985,1,none⟩ (.int .u32 t980)).setCell ⟨gb985,2,none⟩ (.slice Ao41 t981.length co41)).heap[gb969]? = some (.cells #[.int .u64 a1_0, .int .u32 a1_1, .slice A1_2 l1_2.length c1_2, .int .i64 a1_3] 43 (0,0))):=⟨by (with_reducible repeat (first|refine zh ?_ _|refine zj ?_|refine zi ?_ _|refine zv ?_ NB969_985.out _));exact BK969.out⟩
      have n4_ : Aside0 ((((w36.setCell ⟨gb985,0,none⟩ (.int .u64 t979)).setCell ⟨gb985,1,none⟩ (.int .u32 t980)).setCell ⟨gb985,2,none⟩ (.slice Ao41 t981.length co41)).heap[gb978]? = some (.cells #[.int .u64 t972, .int .u32 t973, .slice Ao32 t974.length co32] 26 (0,0))):=⟨by (with_reducible repeat (first|refine zh ?_ _|refine zj ?_|refine zi ?_ _|refine zv ?_ NB978_985.out _));exact BK978.out⟩
      have n5_ : Aside0 ((((w36.setCell ⟨gb985,0,none⟩ (.int .u64 t979)).setCell ⟨gb985,1,none⟩ (.int .u32 t980)).setCell ⟨gb985,2,none⟩ (.slice Ao41 t981.length co41)).heap[gb985]? = some (.cells #[.int .u64 t979, .int .u32 t980, .slice Ao41 t981.length co41] 26 (0,0))):=⟨by (with_reducible repeat (first|refine zh ?_ _|refine zj ?_|refine zi ?_ _));refine zw (cs := #[.int .u64 t979, .int .u32 t980, .slice none 0 0]) ?_ 2 _ rfl;(with_reducible repeat (first|refine zh ?_ _|refine zj ?_|refine zi ?_ _));refine zw (cs := #[.int .u64 t979, .int .u32 0, .slice none 0 0]) ?_ 1 _ rfl;(with_reducible repeat (first|refine zh ?_ _|refine zj ?_|refine zi ?_ _));refine zw (cs := #[.int .u64 0, .int .u32 0, .slice none 0 0]) ?_ 0 _ rfl;(with_reducible repeat (first|refine zh ?_ _|refine zj ?_|refine zi ?_ _));exact BK985.out⟩
      have n6_ : Aside0 (Below w.heap.size w (((w36.setCell ⟨gb985,0,none⟩ (.int .u64 t979)).setCell ⟨gb985,1,none⟩ (.int .u32 t980)).setCell ⟨gb985,2,none⟩ (.slice Ao41 t981.length co41))):=⟨by repeat (first|(with_reducible first|exact HB.out|apply ze|apply zd|apply zf|refine zk ?_ GE968.out|refine zk ?_ GE969.out|refine zk ?_ GE978.out|refine zk ?_ GE985.out)|exact HB.out)⟩
      (try clear HO976)
      (try clear HO983)
      (try clear BK968)
      (try clear BK969)
      (try clear BK978)
      (try clear BK985)
      (try clear HB)
      generalize (((w36.setCell ⟨gb985,0,none⟩ (.int .u64 t979)).setCell ⟨gb985,1,none⟩ (.int .u32 t980)).setCell ⟨gb985,2,none⟩ (.slice Ao41 t981.length co41))=w50 at n0_ n1_ n2_ n3_ n4_ n5_ n6_ ⊢
      have HO976:=n0_;have HO983:=n1_;have BK968:=n2_;have BK969:=n3_;have BK978:=n4_;have BK985:=n5_;have HB:=n6_;clear n0_ n1_ n2_ n3_ n4_ n5_ n6_;have n0_:=zm (zC HO976.out);have n1_:=zm (zC HO983.out);have n2_:=zm (zj BK968.out);have n3_:=zm (zj BK969.out);have n4_:=zm (zj BK978.out);have n5_:=zm (zj BK985.out);have n6_:=zm (zf HB.out);clear HO976;clear HO983;clear BK968;clear BK969;clear BK978;clear BK985;clear HB;have HO976:=n0_;have HO983:=n1_;have BK968:=n2_;have BK969:=n3_;have BK978:=n4_;have BK985:=n5_;have HB:=n6_;clear n0_ n1_ n2_ n3_ n4_ n5_ n6_
      refine start_ (n:=10) (S:=fun w' => True) (ds := []) #[false,false,false,false,false,false,false,false,false,false] (by kernel_rfl) rfl rfl trivial (fun hHeld => ?_);refine with_tabW psalterylaw11_GainAlone.tab5 psalterylaw11_GainAlone.bits5 (fun HT_ HW_ => ?_)
      generalize w50.drew=w51 at HO976 HO983 BK968 BK969 BK978 BK985 HB hHeld ⊢
      refine pure_ (i:=0) (N:=some 46) (v := ?_) (a' := ?_) #[true,false,false,false,false,false,false,false,false,false] rfl rfl (any_of HT_.out (by kernel_rfl)) (fun _ _ _ h=>h) (Or.inl ⟨by rfl, ?_⟩) ?_ ?_
      rotate_left
      ·
       intro w'
       go_simp
       with_reducible rfl
      rotate_left
      ·
       simp only [Act.put,List.setIfInBounds_toArray,List.set_cons_zero,List.set_cons_succ,i64_w,i32_w]
       rfl
      refine pure_ (i:=1) (N:=some 47) (v := ?_) (a' := ?_) #[true,true,false,false,false,false,false,false,false,false] rfl rfl (any_of HT_.out (by kernel_rfl)) (fun _ _ _ h=>h) (Or.inl ⟨by rfl, ?_⟩) ?_ ?_
      rotate_left
      ·
       intro w'
       go_simp
       with_reducible rfl
      rotate_left
      ·
       simp only [Act.put,List.setIfInBounds_toArray,List.set_cons_zero,List.set_cons_succ,i64_w,i32_w]
       rfl
      refine pure_ (i:=2) (N:=some 48) (v := ?_) (a' := ?_) #[true,true,true,false,false,false,false,false,false,false] rfl rfl (any_of HT_.out (by kernel_rfl)) (fun _ _ _ h=>h) (Or.inl ⟨by rfl, ?_⟩) ?_ ?_
      rotate_left
      ·
       intro w'
       go_simp
       with_reducible rfl
      rotate_left
      ·
       simp only [Act.put,List.setIfInBounds_toArray,List.set_cons_zero,List.set_cons_succ,i64_w,i32_w]
       rfl
      refine pure_ (i:=3) (N:=some 49) (v := ?_) (a' := ?_) #[true,true,true,true,false,false,false,false,false,false] rfl rfl (any_of HT_.out (by kernel_rfl)) (fun _ _ _ h=>h) (Or.inl ⟨by rfl, ?_⟩) ?_ ?_
      rotate_left
      ·
       intro w'
       go_simp
       with_reducible rfl
      rotate_left
      ·
       simp only [Act.put,List.setIfInBounds_toArray,List.set_cons_zero,List.set_cons_succ,i64_w,i32_w]
       rfl
      refine pure_ (i:=4) (N:=some 50) (v:=undef) (a' := ?_) #[true,true,true,true,true,false,false,false,false,false] rfl rfl (any_of HT_.out (by kernel_rfl)) (fun _ _ _ h=>h) (Or.inr ⟨by rfl,rfl⟩) ?_ ?_
      rotate_left
      ·
       simp only [Act.put,List.setIfInBounds_toArray,List.set_cons_zero,List.set_cons_succ,i64_w,i32_w]
       rfl
      refine pure_ (i:=5) (N:=some 51) (v:=undef) (a' := ?_) #[true,true,true,true,true,true,false,false,false,false] rfl rfl (any_of HT_.out (by kernel_rfl)) (fun _ _ _ h=>h) (Or.inr ⟨by rfl,rfl⟩) ?_ ?_
      rotate_left
      ·
       simp only [Act.put,List.setIfInBounds_toArray,List.set_cons_zero,List.set_cons_succ,i64_w,i32_w]
       rfl
      refine pure_ (i:=6) (N:=some 52) (v:=undef) (a' := ?_) #[true,true,true,true,true,true,true,false,false,false] rfl rfl (any_of HT_.out (by kernel_rfl)) (fun _ _ _ h=>h) (Or.inr ⟨by rfl,rfl⟩) ?_ ?_
      rotate_left
      ·
       simp only [Act.put,List.setIfInBounds_toArray,List.set_cons_zero,List.set_cons_succ,i64_w,i32_w]
       rfl
      refine pure_ (i:=7) (N:=some 53) (v:=undef) (a' := ?_) #[true,true,true,true,true,true,true,true,false,false] rfl rfl (any_of HT_.out (by kernel_rfl)) (fun _ _ _ h=>h) (Or.inr ⟨by rfl,rfl⟩) ?_ ?_
      rotate_left
      ·
       simp only [Act.put,List.setIfInBounds_toArray,List.set_cons_zero,List.set_cons_succ,i64_w,i32_w]
       rfl
      refine pure_ (i:=8) (N:=some 54) (v:=undef) (a' := ?_) #[true,true,true,true,true,true,true,true,true,false] rfl rfl (any_of HT_.out (by kernel_rfl)) (fun _ _ _ h=>h) (Or.inr ⟨by rfl,rfl⟩) ?_ ?_
      rotate_left
      ·
       simp only [Act.put,List.setIfInBounds_toArray,List.set_cons_zero,List.set_cons_succ,i64_w,i32_w]
       rfl
      refine pure_ (i:=9) (N:=some 55) (v := ?_) (a' := ?_) #[true,true,true,true,true,true,true,true,true,true] rfl rfl (any_of HT_.out (by kernel_rfl)) (fun _ _ _ h=>h) (Or.inl ⟨by rfl, ?_⟩) ?_ ?_
      rotate_left
      ·
       intro w'
       go_simp
       with_reducible rfl
      rotate_left
      ·
       simp only [Act.put,List.setIfInBounds_toArray,List.set_cons_zero,List.set_cons_succ,i64_w,i32_w]
       rfl
      refine done_ (done_of HT_.out (by kernel_rfl)) ?_
      try go_wp2
      go_meet
      case rel=>exact ⟨_,(true),(by first|rfl|(simp;done)|(simp [*];done)),H',⟨by have:=HJ5.out;first|omega|exact Nat.le_refl _⟩,⟨by (with_reducible repeat (first|apply zA|apply zB|apply zC));exact HO976.out⟩,⟨by (with_reducible repeat (first|apply zA|apply zB|apply zC));exact HO983.out⟩,⟨by (with_reducible repeat (first|refine zh ?_ _|refine zj ?_|refine zi ?_ _));exact BK968.out⟩,⟨by (with_reducible repeat (first|refine zh ?_ _|refine zj ?_|refine zi ?_ _));exact BK969.out⟩,⟨by (with_reducible repeat (first|refine zh ?_ _|refine zj ?_|refine zi ?_ _));exact BK978.out⟩,⟨by (with_reducible repeat (first|refine zh ?_ _|refine zj ?_|refine zi ?_ _));exact BK985.out⟩,⟨by repeat (first|(with_reducible first|exact HB.out|apply ze|apply zd|apply zf|refine zk ?_ GE968.out|refine zk ?_ GE969.out|refine zk ?_ GE978.out|refine zk ?_ GE985.out)|exact HB.out)⟩⟩
    case rest =>
     clear HC24
     try clear c1
     try clear c2
     try clear p2
     try clear c3
     try clear c4
     try clear c10
     try clear c11
     try clear c15
     try clear c19
     try clear c20
     try clear c23
     try clear c25
     try clear c29
     try clear c30
     try clear c37
     try clear c38
     try clear c39
     try clear c41
     try clear c42
     try clear c42b0
     try clear c42b1
     try clear c43
     try clear hcz12_0
     try clear hcz12_1
     try clear hcz12_2
     try clear hcz13_0
     try clear hcz13_1
     try clear hcz13_2
     try clear hcz13_3
     try clear hcz16_0
     try clear hcz16_1
     try clear hcz16_2
     try clear hcz17_0
     try clear hcz17_1
     try clear hcz17_2
     try clear hcz17_3
     try clear hcz26_0
     try clear hcz26_1
     try clear hcz26_2
     try clear hcz31_0
     try clear hcz31_1
     try clear hcz31_2
     try clear hcz34_0
     try clear hcz34_1
     try clear hcz34_2
     try clear hcz40_0
     try clear hcz40_1
     try clear hcz40_2
     try clear hfz12_0
     try clear hfz12_1
     try clear hfz12_2
     try clear hfz13_0
     try clear hfz13_1
     try clear hfz13_2
     try clear hfz13_3
     try clear hfz16_0
     try clear hfz16_1
     try clear hfz16_2
     try clear hfz17_0
     try clear hfz17_1
     try clear hfz17_2
     try clear hfz17_3
     try clear hfz26_0
     try clear hfz26_1
     try clear hfz26_2
     try clear hfz31_0
     try clear hfz31_1
     try clear hfz31_2
     try clear hfz34_0
     try clear hfz34_1
     try clear hfz34_2
     try clear hfz40_0
     try clear hfz40_1
     try clear hfz40_2
     try clear p2
     obtain ⟨kq,x55_23,rfl,HA,HJ23,HO_979002,HO_986002,BK968,BK969,BK978,BK985,HB⟩:=hcut
     cases kq with
     | zero=>exact absurd HA.out (by simp [psalterylaw11_GainAlone.j1])
     | succ kj23 =>
      have H:=HA.out;clear HA
      simp only [psalterylaw11_GainAlone.j1] at H
      by_cases c52 : x55_23=true
      ·
       subst c52
       have H1 : (none)=some r:=by rw [if_pos rfl] at H;exact H
       clear H;have H:=H1;clear H1
       exact absurd H (by simp)
      ·
       replace c52:=Bool.eq_false_iff.mpr c52
       subst c52
       have H1 : ((gain_Take.f kj23 a1_0 a1_1 l1_2 a1_3 l3 true).bind fun bt991=>((gain_Take.f kj23 a1_0 a1_1 l1_2 a1_3 l4 true).bind fun bt1002=>(if bt991.2.2.2.2.2=0 then (if bt1002.2.2.2.2.2=0 then ((psalteryref06_Same.f kj23 bt991.2.2.2.2.1 bt1002.2.2.2.2.1).bind fun t1013=>(if t1013=true then ((psalterylaw05_AsDec.f kj23 bt1002.1 bt1002.2.1 bt1002.2.2.1 bt1002.2.2.2.1).bind fun bt1014=>((psalterylaw05_SameDec.f bt991.1 bt991.2.1 bt991.2.2.1 bt991.2.2.2.1 bt1014.1 bt1014.2.1 bt1014.2.2.1 bt1014.2.2.2).bind fun t1020=>(if t1020=true then ((psalterylaw11_knows.f kj23).bind fun t1021=>(some t1021)) else (none)))) else (none))) else (none)) else (none))))=some r:=by rw [if_neg (show ¬ (false=true) by decide)] at H;exact H
       clear H;have H:=H1;clear H1
       replace H:=Option.bind_eq_some_iff.mp H
       obtain ⟨⟨t991,t992,t993,t996,t997,t1000⟩,A530,H⟩:=H
       replace H : ((gain_Take.f kj23 a1_0 a1_1 l1_2 a1_3 l4 true).bind fun bt1002=>(if t1000=0 then (if bt1002.2.2.2.2.2=0 then ((psalteryref06_Same.f kj23 t997 bt1002.2.2.2.2.1).bind fun t1013=>(if t1013=true then ((psalterylaw05_AsDec.f kj23 bt1002.1 bt1002.2.1 bt1002.2.2.1 bt1002.2.2.2.1).bind fun bt1014=>((psalterylaw05_SameDec.f t991 t992 t993 t996 bt1014.1 bt1014.2.1 bt1014.2.2.1 bt1014.2.2.2).bind fun t1020=>(if t1020=true then ((psalterylaw11_knows.f kj23).bind fun t1021=>(some t1021)) else (none)))) else (none))) else (none)) else (none)))=some r:=H
       have A53:=zm A530;clear A530
       replace H:=Option.bind_eq_some_iff.mp H
       obtain ⟨⟨t1002,t1003,t1004,t1007,t1008,t1011⟩,A540,H⟩:=H
       replace H : (if t1000=0 then (if t1011=0 then ((psalteryref06_Same.f kj23 t997 t1008).bind fun t1013=>(if t1013=true then ((psalterylaw05_AsDec.f kj23 t1002 t1003 t1004 t1007).bind fun bt1014=>((psalterylaw05_SameDec.f t991 t992 t993 t996 bt1014.1 bt1014.2.1 bt1014.2.2.1 bt1014.2.2.2).bind fun t1020=>(if t1020=true then ((psalterylaw11_knows.f kj23).bind fun t1021=>(some t1021)) else (none)))) else (none))) else (none)) else (none))=some r:=H
       have A54:=zm A540;clear A540
       by_cases c55 : t1000=0
       ·
        rw [if_pos c55] at H
        have c55b0 : (t1000 == 0)=true:=beq_iff_eq.mpr c55
        have c55b1 : (t1000 != 0)=false:=bne_eq_false_iff_eq.mpr c55
        clear c55
        by_cases c56 : t1011=0
        ·
         rw [if_pos c56] at H
         have c56b0 : (t1011 == 0)=true:=beq_iff_eq.mpr c56
         have c56b1 : (t1011 != 0)=false:=bne_eq_false_iff_eq.mpr c56
         clear c56
         replace H:=Option.bind_eq_some_iff.mp H
         obtain ⟨t1013,A570,H⟩:=H
         replace H : (if t1013=true then ((psalterylaw05_AsDec.f kj23 t1002 t1003 t1004 t1007).bind fun bt1014=>((psalterylaw05_SameDec.f t991 t992 t993 t996 bt1014.1 bt1014.2.1 bt1014.2.2.1 bt1014.2.2.2).bind fun t1020=>(if t1020=true then ((psalterylaw11_knows.f kj23).bind fun t1021=>(some t1021)) else (none)))) else (none))=some r:=H
         have A57:=zm A570;clear A570
         by_cases c58 : t1013=true
         ·
          subst c58
          have H1 : ((psalterylaw05_AsDec.f kj23 t1002 t1003 t1004 t1007).bind fun bt1014=>((psalterylaw05_SameDec.f t991 t992 t993 t996 bt1014.1 bt1014.2.1 bt1014.2.2.1 bt1014.2.2.2).bind fun t1020=>(if t1020=true then ((psalterylaw11_knows.f kj23).bind fun t1021=>(some t1021)) else (none))))=some r:=by rw [if_pos rfl] at H;exact H
          clear H;have H:=H1;clear H1
          replace H:=Option.bind_eq_some_iff.mp H
          obtain ⟨⟨t1014,t1015,t1016,t1019⟩,A590,H⟩:=H
          replace H : ((psalterylaw05_SameDec.f t991 t992 t993 t996 t1014 t1015 t1016 t1019).bind fun t1020=>(if t1020=true then ((psalterylaw11_knows.f kj23).bind fun t1021=>(some t1021)) else (none)))=some r:=H
          have A59:=zm A590;clear A590
          replace H:=Option.bind_eq_some_iff.mp H
          obtain ⟨t1020,A600,H⟩:=H
          replace H : (if t1020=true then ((psalterylaw11_knows.f kj23).bind fun t1021=>(some t1021)) else (none))=some r:=H
          have A60:=zm A600;clear A600
          by_cases c61 : t1020=true
          ·
           subst c61
           have H1 : ((psalterylaw11_knows.f kj23).bind fun t1021=>(some t1021))=some r:=by rw [if_pos rfl] at H;exact H
           clear H;have H:=H1;clear H1
           replace H:=Option.bind_eq_some_iff.mp H
           obtain ⟨t1021,A620,H⟩:=H
           replace H : (some t1021)=some r:=H
           have A62:=zm A620;clear A620
           obtain rfl:=Option.some.inj H
           have hnb63:=NB969_968.out;have hnc63:=NB968_969.out;have hnb64:=NB969_978.out;have hnc64:=NB978_969.out;have hnb65:=NB969_985.out;have hnc65:=NB985_969.out
           have hcz66_0 : wc.cell? ⟨gb969,0,none⟩=some (.int .u64 a1_0):=(zs BK969.out 0).trans rfl
           have hcz66_1 : wc.cell? ⟨gb969,1,none⟩=some (.int .u32 a1_1):=(zs BK969.out 1).trans rfl
           have hcz66_2 : wc.cell? ⟨gb969,2,none⟩=some (.slice A1_2 l1_2.length c1_2):=(zs BK969.out 2).trans rfl
           have hcz66_3 : wc.cell? ⟨gb969,3,none⟩=some (.int .i64 a1_3):=(zs BK969.out 3).trans rfl
           have hfz66_0:=zx BK969.out 0
           have hfz66_1:=zx BK969.out 1
           have hfz66_2:=zx BK969.out 2
           have hfz66_3:=zx BK969.out 3
           try go_wp2_with (first|((with_reducible refine gate_callee (f:=47) rfl ?_);refine goesL_ (some 59) rfl rfl Try.func47 (by kernel_rfl) rfl #[.agg #[.int .u64 a1_0, .int .u32 a1_1, .slice A1_2 l1_2.length c1_2, .int .i64 a1_3], .slice A3 l3.length c3, .bool true] rfl (by (try simp only [List.map_toArray,List.map_cons,List.map_nil]);first|done|rfl|(simp only [List.length_drop,List.length_take];rfl)) ?_;(with_reducible refine (gain_Take.calls kj23 a1_0 a1_1 (fun k_=>k_ < w.heap.size) _ _ l1_2 a1_3 _ _ l3 true t991 t992 t993 t996 t997 t1000 _ ?side1 ?side2 ?side3 A53.out).mono ?_);(case side1=>exact Kd.V_mk HC1_2.out (Kd.F_below (Kd.C_F (Kd.heap_int .u8) HR1_2.out) (by repeat (first|(with_reducible first|exact HB.out|apply ze|apply zd|apply zf|refine zk ?_ GE968.out|refine zk ?_ GE969.out|refine zk ?_ GE978.out|refine zk ?_ GE985.out)|exact HB.out))));(case side2=>repeat (first|exact (Kd.C_below HR3.out HB.out)|(with_reducible refine Kd.C_alloc ?_ _)|(with_reducible refine Kd.C_drewN ?_ _)|(with_reducible refine Kd.C_drew ?_)));(case side3=>exact HC3.out);rintro e w67 ⟨v994,v998,rfl,ho0,ho1,hb⟩;refine ⟨_,rfl, ?_⟩;have n0_:=zm (Kd.V_elder' (by (with_reducible repeat (first|apply zA|apply zB|apply zC));exact HO_979002.out) (Kd.R_base ho1) hb);have n1_:=zm (Kd.V_elder' (by (with_reducible repeat (first|apply zA|apply zB|apply zC));exact HO_986002.out) (Kd.R_base ho1) hb);have n2_:=zm (Kd.V_lower (zy (ok' := fun k_=>some k_≠(v998 : Value).ownBlock∧k_≠gb968∧k_≠gb969∧k_≠gb978∧k_≠gb985) ho0 (fun k_ hk_=>⟨hk_.2,Or.elim hk_.1 (fun hs_=>fun e_=>Nat.not_le.2 hs_ (by rw [e_];exact GW968.out)) (fun hn_=>(Kd.freshB (g:=gb968) (o:=.cells #[.int .u64 a0_0, .int .u32 a0_1, .slice A0_2 l0_2.length c0_2] 26 (0,0)) (by (with_reducible repeat (first|refine zh ?_ _|refine zj ?_|refine zi ?_ _));exact BK968.out) k_ hn_)),Or.elim hk_.1 (fun hs_=>fun e_=>Nat.not_le.2 hs_ (by rw [e_];exact GW969.out)) (fun hn_=>(Kd.freshB (g:=gb969) (o:=.cells #[.int .u64 a1_0, .int .u32 a1_1, .slice A1_2 l1_2.length c1_2, .int .i64 a1_3] 43 (0,0)) (by (with_reducible repeat (first|refine zh ?_ _|refine zj ?_|refine zi ?_ _));exact BK969.out) k_ hn_)),Or.elim hk_.1 (fun hs_=>fun e_=>Nat.not_le.2 hs_ (by rw [e_];exact GW978.out)) (fun hn_=>(Kd.freshB (g:=gb978) (o:=.cells #[.int .u64 t972, .int .u32 t973, .slice Ao32 t974.length co32] 26 (0,0)) (by (with_reducible repeat (first|refine zh ?_ _|refine zj ?_|refine zi ?_ _));exact BK978.out) k_ hn_)),Or.elim hk_.1 (fun hs_=>fun e_=>Nat.not_le.2 hs_ (by rw [e_];exact GW985.out)) (fun hn_=>(Kd.freshB (g:=gb985) (o:=.cells #[.int .u64 t979, .int .u32 t980, .slice Ao41 t981.length co41] 26 (0,0)) (by (with_reducible repeat (first|refine zh ?_ _|refine zj ?_|refine zi ?_ _));exact BK985.out) k_ hn_))⟩)) (zE (by repeat (first|(with_reducible first|exact HB.out|apply ze|apply zd|apply zf|refine zk ?_ GE968.out|refine zk ?_ GE969.out|refine zk ?_ GE978.out|refine zk ?_ GE985.out)|exact HB.out))));have n3_:=zm (Kd.R_lower (zG (ok' := fun k_=>True) ho1 (fun _ hk_=>trivial)) (zE (by repeat (first|(with_reducible first|exact HB.out|apply ze|apply zd|apply zf|refine zk ?_ GE968.out|refine zk ?_ GE969.out|refine zk ?_ GE978.out|refine zk ?_ GE985.out)|exact HB.out))));have n4_:=zm (zF (g:=gb968) (o:=.cells #[.int .u64 a0_0, .int .u32 a0_1, .slice A0_2 l0_2.length c0_2] 26 (0,0)) (by (with_reducible repeat (first|refine zh ?_ _|refine zj ?_|refine zi ?_ _));exact BK968.out) hb);have n5_:=zm (zF (g:=gb969) (o:=.cells #[.int .u64 a1_0, .int .u32 a1_1, .slice A1_2 l1_2.length c1_2, .int .i64 a1_3] 43 (0,0)) (by (with_reducible repeat (first|refine zh ?_ _|refine zj ?_|refine zi ?_ _));exact BK969.out) hb);have n6_:=zm (zF (g:=gb978) (o:=.cells #[.int .u64 t972, .int .u32 t973, .slice Ao32 t974.length co32] 26 (0,0)) (by (with_reducible repeat (first|refine zh ?_ _|refine zj ?_|refine zi ?_ _));exact BK978.out) hb);have n7_:=zm (zF (g:=gb985) (o:=.cells #[.int .u64 t979, .int .u32 t980, .slice Ao41 t981.length co41] 26 (0,0)) (by (with_reducible repeat (first|refine zh ?_ _|refine zj ?_|refine zi ?_ _));exact BK985.out) hb);have n8_:=zm (zJ (by repeat (first|(with_reducible first|exact HB.out|apply ze|apply zd|apply zf|refine zk ?_ GE968.out|refine zk ?_ GE969.out|refine zk ?_ GE978.out|refine zk ?_ GE985.out)|exact HB.out)) hb);clear HO_979002;clear HO_986002;clear BK968;clear BK969;clear BK978;clear BK985;clear HB;have HO_979002:=n0_;have HO_986002:=n1_;have HO995:=n2_;have HO999:=n3_;have BK968:=n4_;have BK969:=n5_;have BK978:=n6_;have BK985:=n7_;have HB:=n8_;clear n0_ n1_ n2_ n3_ n4_ n5_ n6_ n7_ n8_;(try clear hb);(try clear hb2);(try clear hk);(try clear hi);(try clear ho0);(try clear ho1))|((with_reducible refine gate_dst (N:=15) rfl ?_);(try (refine gate_guard (by rfl) ?_;dsimp only));refine box_event ?hg (N:=15) ?hd (cs := #[.int .u64 0, .int .u32 0, .slice none 0 0, .int .i64 0]) (t:=43) ?hr ?_;(case hd=>rfl);(case hg=>rfl);(case hr=>first|(go_simp;done)|(go_simp;rfl));intro gb1001 hg w68 hbox hb;have n0_:=zm (Kd.V_below (Kd.V_elderB (by (with_reducible repeat (first|apply zA|apply zB|apply zC));exact HO_979002.out) gb1001 (Nat.le_of_eq hg.symm)) hb);have n1_:=zm (Kd.V_below (Kd.V_elderB (by (with_reducible repeat (first|apply zA|apply zB|apply zC));exact HO_986002.out) gb1001 (Nat.le_of_eq hg.symm)) hb);have n2_:=zm (Kd.V_below (Kd.V_elderB (by (with_reducible repeat (first|apply zA|apply zB|apply zC));exact HO995.out) gb1001 (Nat.le_of_eq hg.symm)) hb);have n3_:=zm (Kd.R_below (by (with_reducible repeat (first|apply zo|apply zp|apply zq));exact HO999.out) hb);have n4_:=zm (zF (g:=gb968) (o:=.cells #[.int .u64 a0_0, .int .u32 a0_1, .slice A0_2 l0_2.length c0_2] 26 (0,0)) (by (with_reducible repeat (first|refine zh ?_ _|refine zj ?_|refine zi ?_ _));exact BK968.out) hb);have n5_:=zm (zF (g:=gb969) (o:=.cells #[.int .u64 a1_0, .int .u32 a1_1, .slice A1_2 l1_2.length c1_2, .int .i64 a1_3] 43 (0,0)) (by (with_reducible repeat (first|refine zh ?_ _|refine zj ?_|refine zi ?_ _));exact BK969.out) hb);have n6_:=zm (zF (g:=gb978) (o:=.cells #[.int .u64 t972, .int .u32 t973, .slice Ao32 t974.length co32] 26 (0,0)) (by (with_reducible repeat (first|refine zh ?_ _|refine zj ?_|refine zi ?_ _));exact BK978.out) hb);have n7_:=zm (zF (g:=gb985) (o:=.cells #[.int .u64 t979, .int .u32 t980, .slice Ao41 t981.length co41] 26 (0,0)) (by (with_reducible repeat (first|refine zh ?_ _|refine zj ?_|refine zi ?_ _));exact BK985.out) hb);have n8_:=zm (zJ (by repeat (first|(with_reducible first|exact HB.out|apply ze|apply zd|apply zf|refine zk ?_ GE968.out|refine zk ?_ GE969.out|refine zk ?_ GE978.out|refine zk ?_ GE985.out)|exact HB.out)) hb);have n9_:=zm (hbox);have n10_:=zm ((by rw [hg];exact (zE (by repeat (first|(with_reducible first|exact HB.out|apply ze|apply zd|apply zf|refine zk ?_ GE968.out|refine zk ?_ GE969.out|refine zk ?_ GE978.out|refine zk ?_ GE985.out)|exact HB.out))) : w.heap.size≤gb1001));have n11_:=zm ((by rw [hg];exact (zE (by repeat (first|(with_reducible first|exact HB.out|apply ze|apply zd|apply zf|refine zk ?_ GE968.out|refine zk ?_ GE969.out|refine zk ?_ GE978.out|refine zk ?_ GE985.out)|exact HB.out))) : w.heap.size≤gb1001));have n12_:=zm ((by rw [hg];exact zn (zD (g:=gb968) (o:=.cells #[.int .u64 a0_0, .int .u32 a0_1, .slice A0_2 l0_2.length c0_2] 26 (0,0)) (by (with_reducible repeat (first|refine zh ?_ _|refine zj ?_|refine zi ?_ _));exact BK968.out)) : gb968≠gb1001));have n13_:=zm ((by rw [hg];exact zg (zD (g:=gb968) (o:=.cells #[.int .u64 a0_0, .int .u32 a0_1, .slice A0_2 l0_2.length c0_2] 26 (0,0)) (by (with_reducible repeat (first|refine zh ?_ _|refine zj ?_|refine zi ?_ _));exact BK968.out)) : gb1001≠gb968));have n14_:=zm ((by rw [hg];exact zn (zD (g:=gb969) (o:=.cells #[.int .u64 a1_0, .int .u32 a1_1, .slice A1_2 l1_2.length c1_2, .int .i64 a1_3] 43 (0,0)) (by (with_reducible repeat (first|refine zh ?_ _|refine zj ?_|refine zi ?_ _));exact BK969.out)) : gb969≠gb1001));have n15_:=zm ((by rw [hg];exact zg (zD (g:=gb969) (o:=.cells #[.int .u64 a1_0, .int .u32 a1_1, .slice A1_2 l1_2.length c1_2, .int .i64 a1_3] 43 (0,0)) (by (with_reducible repeat (first|refine zh ?_ _|refine zj ?_|refine zi ?_ _));exact BK969.out)) : gb1001≠gb969));have n16_:=zm ((by rw [hg];exact zn (zD (g:=gb978) (o:=.cells #[.int .u64 t972, .int .u32 t973, .slice Ao32 t974.length co32] 26 (0,0)) (by (with_reducible repeat (first|refine zh ?_ _|refine zj ?_|refine zi ?_ _));exact BK978.out)) : gb978≠gb1001));have n17_:=zm ((by rw [hg];exact zg (zD (g:=gb978) (o:=.cells #[.int .u64 t972, .int .u32 t973, .slice Ao32 t974.length co32] 26 (0,0)) (by (with_reducible repeat (first|refine zh ?_ _|refine zj ?_|refine zi ?_ _));exact BK978.out)) : gb1001≠gb978));have n18_:=zm ((by rw [hg];exact zn (zD (g:=gb985) (o:=.cells #[.int .u64 t979, .int .u32 t980, .slice Ao41 t981.length co41] 26 (0,0)) (by (with_reducible repeat (first|refine zh ?_ _|refine zj ?_|refine zi ?_ _));exact BK985.out)) : gb985≠gb1001));have n19_:=zm ((by rw [hg];exact zg (zD (g:=gb985) (o:=.cells #[.int .u64 t979, .int .u32 t980, .slice Ao41 t981.length co41] 26 (0,0)) (by (with_reducible repeat (first|refine zh ?_ _|refine zj ?_|refine zi ?_ _));exact BK985.out)) : gb1001≠gb985));clear HO_979002;clear HO_986002;clear HO995;clear HO999;clear BK968;clear BK969;clear BK978;clear BK985;clear HB;have HO_979002:=n0_;have HO_986002:=n1_;have HO995:=n2_;have HO999:=n3_;have BK968:=n4_;have BK969:=n5_;have BK978:=n6_;have BK985:=n7_;have HB:=n8_;have BK1001:=n9_;have GW1001:=n10_;have GE1001:=n11_;have NB968_1001:=n12_;have NB1001_968:=n13_;have NB969_1001:=n14_;have NB1001_969:=n15_;have NB978_1001:=n16_;have NB1001_978:=n17_;have NB985_1001:=n18_;have NB1001_985:=n19_;clear n0_ n1_ n2_ n3_ n4_ n5_ n6_ n7_ n8_ n9_ n10_ n11_ n12_ n13_ n14_ n15_ n16_ n17_ n18_ n19_;clear hb hbox hg;have hnb69:=NB1001_968.out;have hnc69:=NB968_1001.out;have hnb70:=NB1001_969.out;have hnc70:=NB969_1001.out;have hnb71:=NB1001_978.out;have hnc71:=NB978_1001.out;have hnb72:=NB1001_985.out;have hnc72:=NB985_1001.out;have hcz73_0 : w68.cell? ⟨gb1001,0,none⟩=some (.int .u64 0):=(zs BK1001.out 0).trans rfl;have hcz73_1 : w68.cell? ⟨gb1001,1,none⟩=some (.int .u32 0):=(zs BK1001.out 1).trans rfl;have hcz73_2 : w68.cell? ⟨gb1001,2,none⟩=some (.slice none 0 0):=(zs BK1001.out 2).trans rfl;have hcz73_3 : w68.cell? ⟨gb1001,3,none⟩=some (.int .i64 0):=(zs BK1001.out 3).trans rfl;have hfz73_0:=zx BK1001.out 0;have hfz73_1:=zx BK1001.out 1;have hfz73_2:=zx BK1001.out 2;have hfz73_3:=zx BK1001.out 3;obtain ⟨Ao74,co74,eo74⟩:=Kd.V_slice HO995.out;subst eo74)|((with_reducible refine gate_store (t:=43) (p:=15) rfl ?_);refine store_event (t:=43) (p:=15) (v := ?vo_w75) (w1:=((((w68.setCell ⟨gb1001,0,none⟩ (.int .u64 t991)).setCell ⟨gb1001,1,none⟩ (.int .u32 t992)).setCell ⟨gb1001,2,none⟩ (.slice Ao74 t993.length co74)).setCell ⟨gb1001,3,none⟩ (.int .i64 t996))) ?hg ?ho ?hn ?hr ?_;(case ho=>rfl);(case hg=>rfl);(case hn=>rfl);(case hr=>first|(go_simp;done)|(go_simp;rfl));intro w75 hw;have n0_ : Aside0 (Kd.V (Kd.int .u8) 5 w75 w.heap.size (fun k_=>some k_≠(v998 : Value).ownBlock∧k_≠gb968∧k_≠gb969∧k_≠gb978∧k_≠gb985∧k_≠gb1001) (.slice Ao32 t974.length co32) t974):=⟨(by rw [hw];exact (by (with_reducible repeat (first|apply zA|apply zB|apply zC));exact zy (zI (p:=⟨gb1001,3,none⟩) (zI (p:=⟨gb1001,2,none⟩) (zI (p:=⟨gb1001,1,none⟩) (zI (p:=⟨gb1001,0,none⟩) (zy HO_979002.out (fun k_ hk=>(⟨hk,hk.2⟩ : _∧k_≠gb1001))) (fun _ hk=>hk.2) (.int .u64 t991)) (fun _ hk=>hk.2) (.int .u32 t992)) (fun _ hk=>hk.2) (.slice Ao74 t993.length co74)) (fun _ hk=>hk.2) (.int .i64 t996)) (fun _ hk=>⟨hk.1.1.2,⟨hk.1.1.1.1,⟨hk.1.1.1.2.1,⟨hk.1.1.1.2.2.1,⟨hk.1.1.1.2.2.2,hk.1.2⟩⟩⟩⟩⟩)))⟩;have n1_ : Aside0 (Kd.V (Kd.int .u8) 5 w75 w.heap.size (fun k_=>some k_≠(v998 : Value).ownBlock∧k_≠gb968∧k_≠gb969∧k_≠gb978∧k_≠gb985∧k_≠gb1001) (.slice Ao41 t981.length co41) t981):=⟨(by rw [hw];exact (by (with_reducible repeat (first|apply zA|apply zB|apply zC));exact zy (zI (p:=⟨gb1001,3,none⟩) (zI (p:=⟨gb1001,2,none⟩) (zI (p:=⟨gb1001,1,none⟩) (zI (p:=⟨gb1001,0,none⟩) (zy HO_986002.out (fun k_ hk=>(⟨hk,hk.2⟩ : _∧k_≠gb1001))) (fun _ hk=>hk.2) (.int .u64 t991)) (fun _ hk=>hk.2) (.int .u32 t992)) (fun _ hk=>hk.2) (.slice Ao74 t993.length co74)) (fun _ hk=>hk.2) (.int .i64 t996)) (fun _ hk=>⟨hk.1.1.2,⟨hk.1.1.1.1,⟨hk.1.1.1.2.1,⟨hk.1.1.1.2.2.1,⟨hk.1.1.1.2.2.2,hk.1.2⟩⟩⟩⟩⟩)))⟩;have n2_ : Aside0 (Kd.V (Kd.int .u8) 5 w75 w.heap.size (fun k_=>some k_≠(v998 : Value).ownBlock∧k_≠gb968∧k_≠gb969∧k_≠gb978∧k_≠gb985∧k_≠gb1001) (.slice Ao74 t993.length co74) t993):=⟨(by rw [hw];exact (by (with_reducible repeat (first|apply zA|apply zB|apply zC));exact zy (zI (p:=⟨gb1001,3,none⟩) (zI (p:=⟨gb1001,2,none⟩) (zI (p:=⟨gb1001,1,none⟩) (zI (p:=⟨gb1001,0,none⟩) (zy HO995.out (fun k_ hk=>(⟨hk,hk.2⟩ : _∧k_≠gb1001))) (fun _ hk=>hk.2) (.int .u64 t991)) (fun _ hk=>hk.2) (.int .u32 t992)) (fun _ hk=>hk.2) (.slice Ao74 t993.length co74)) (fun _ hk=>hk.2) (.int .i64 t996)) (fun _ hk=>⟨hk.1.1.1,⟨hk.1.1.2.1,⟨hk.1.1.2.2.1,⟨hk.1.1.2.2.2.1,⟨hk.1.1.2.2.2.2,hk.1.2⟩⟩⟩⟩⟩)))⟩;have n3_ : Aside0 (Kd.R (Kd.int .i64) 3 w75 w.heap.size (fun _=>True) v998 t997):=⟨(by rw [hw];exact (by (with_reducible repeat (first|apply zo|apply zp|apply zq));exact zG (zH (p:=⟨gb1001,3,none⟩) (zH (p:=⟨gb1001,2,none⟩) (zH (p:=⟨gb1001,1,none⟩) (zH (p:=⟨gb1001,0,none⟩) (Kd.R_types HO999.out BK1001.out (by decide)) (fun _ hk=>hk.2) (.int .u64 t991)) (fun _ hk=>hk.2) (.int .u32 t992)) (fun _ hk=>hk.2) (.slice Ao74 t993.length co74)) (fun _ hk=>hk.2) (.int .i64 t996)) (fun _ hk=>trivial)))⟩;have n4_ : Aside0 (w75.heap[gb968]? = some (.cells #[.int .u64 a0_0, .int .u32 a0_1, .slice A0_2 l0_2.length c0_2] 26 (0,0))):=⟨(by rw [hw];exact (by (with_reducible repeat (first|refine zh ?_ _|refine zj ?_|refine zi ?_ _|refine zv ?_ NB968_1001.out _));exact BK968.out))⟩;have n5_ : Aside0 (w75.heap[gb969]? = some (.cells #[.int .u64 a1_0, .int .u32 a1_1, .slice A1_2 l1_2.length c1_2, .int .i64 a1_3] 43 (0,0))):=⟨(by rw [hw];exact (by (with_reducible repeat (first|refine zh ?_ _|refine zj ?_|refine zi ?_ _|refine zv ?_ NB969_1001.out _));exact BK969.out))⟩;have n6_ : Aside0 (w75.heap[gb978]? = some (.cells #[.int .u64 t972, .int .u32 t973, .slice Ao32 t974.length co32] 26 (0,0))):=⟨(by rw [hw];exact (by (with_reducible repeat (first|refine zh ?_ _|refine zj ?_|refine zi ?_ _|refine zv ?_ NB978_1001.out _));exact BK978.out))⟩;have n7_ : Aside0 (w75.heap[gb985]? = some (.cells #[.int .u64 t979, .int .u32 t980, .slice Ao41 t981.length co41] 26 (0,0))):=⟨(by rw [hw];exact (by (with_reducible repeat (first|refine zh ?_ _|refine zj ?_|refine zi ?_ _|refine zv ?_ NB985_1001.out _));exact BK985.out))⟩;have n8_ : Aside0 (w75.heap[gb1001]? = some (.cells #[.int .u64 t991, .int .u32 t992, .slice Ao74 t993.length co74, .int .i64 t996] 43 (0,0))):=⟨(by rw [hw];exact (by (with_reducible repeat (first|refine zh ?_ _|refine zj ?_|refine zi ?_ _));refine zw (cs := #[.int .u64 t991, .int .u32 t992, .slice Ao74 t993.length co74, .int .i64 0]) ?_ 3 _ rfl;(with_reducible repeat (first|refine zh ?_ _|refine zj ?_|refine zi ?_ _));refine zw (cs := #[.int .u64 t991, .int .u32 t992, .slice none 0 0, .int .i64 0]) ?_ 2 _ rfl;(with_reducible repeat (first|refine zh ?_ _|refine zj ?_|refine zi ?_ _));refine zw (cs := #[.int .u64 t991, .int .u32 0, .slice none 0 0, .int .i64 0]) ?_ 1 _ rfl;(with_reducible repeat (first|refine zh ?_ _|refine zj ?_|refine zi ?_ _));refine zw (cs := #[.int .u64 0, .int .u32 0, .slice none 0 0, .int .i64 0]) ?_ 0 _ rfl;(with_reducible repeat (first|refine zh ?_ _|refine zj ?_|refine zi ?_ _));exact BK1001.out))⟩;have n9_ : Aside0 (Below w.heap.size w w75):=⟨(by rw [hw];exact (by repeat (first|(with_reducible first|exact HB.out|apply ze|apply zd|apply zf|refine zk ?_ GE968.out|refine zk ?_ GE969.out|refine zk ?_ GE978.out|refine zk ?_ GE985.out|refine zk ?_ GE1001.out)|exact HB.out)))⟩;clear hw;clear HO_979002;clear HO_986002;clear HO995;clear HO999;clear BK968;clear BK969;clear BK978;clear BK985;clear BK1001;clear HB;have HO_979002:=n0_;have HO_986002:=n1_;have HO995:=n2_;have HO999:=n3_;have BK968:=n4_;have BK969:=n5_;have BK978:=n6_;have BK985:=n7_;have BK1001:=n8_;have HB:=n9_;clear n0_ n1_ n2_ n3_ n4_ n5_ n6_ n7_ n8_ n9_;have hcz76_0 : w75.cell? ⟨gb969,0,none⟩=some (.int .u64 a1_0):=(zs BK969.out 0).trans rfl;have hcz76_1 : w75.cell? ⟨gb969,1,none⟩=some (.int .u32 a1_1):=(zs BK969.out 1).trans rfl;have hcz76_2 : w75.cell? ⟨gb969,2,none⟩=some (.slice A1_2 l1_2.length c1_2):=(zs BK969.out 2).trans rfl;have hcz76_3 : w75.cell? ⟨gb969,3,none⟩=some (.int .i64 a1_3):=(zs BK969.out 3).trans rfl;have hfz76_0:=zx BK969.out 0;have hfz76_1:=zx BK969.out 1;have hfz76_2:=zx BK969.out 2;have hfz76_3:=zx BK969.out 3)|((with_reducible refine gate_callee (f:=47) rfl ?_);refine goesL_ (some 66) rfl rfl Try.func47 (by kernel_rfl) rfl #[.agg #[.int .u64 a1_0, .int .u32 a1_1, .slice A1_2 l1_2.length c1_2, .int .i64 a1_3], .slice A4 l4.length c4, .bool true] rfl (by (try simp only [List.map_toArray,List.map_cons,List.map_nil]);first|done|rfl|(simp only [List.length_drop,List.length_take];rfl)) ?_;(with_reducible refine (gain_Take.calls kj23 a1_0 a1_1 (fun k_=>k_ < w.heap.size) _ _ l1_2 a1_3 _ _ l4 true t1002 t1003 t1004 t1007 t1008 t1011 _ ?side1 ?side2 ?side3 A54.out).mono ?_);(case side1=>exact Kd.V_mk HC1_2.out (Kd.F_below (Kd.C_F (Kd.heap_int .u8) HR1_2.out) (by repeat (first|(with_reducible first|exact HB.out|apply ze|apply zd|apply zf|refine zk ?_ GE968.out|refine zk ?_ GE969.out|refine zk ?_ GE978.out|refine zk ?_ GE985.out|refine zk ?_ GE1001.out)|exact HB.out))));(case side2=>repeat (first|exact (Kd.C_below HR4.out HB.out)|(with_reducible refine Kd.C_alloc ?_ _)|(with_reducible refine Kd.C_drewN ?_ _)|(with_reducible refine Kd.C_drew ?_)));(case side3=>exact HC4.out);rintro e w77 ⟨v1005,v1009,rfl,ho0,ho1,hb⟩;refine ⟨_,rfl, ?_⟩;have n0_:=zm (Kd.V_elder' (by (with_reducible repeat (first|apply zA|apply zB|apply zC));exact HO_979002.out) (Kd.R_base ho1) hb);have n1_:=zm (Kd.V_elder' (by (with_reducible repeat (first|apply zA|apply zB|apply zC));exact HO_986002.out) (Kd.R_base ho1) hb);have n2_:=zm (Kd.V_elder' (by (with_reducible repeat (first|apply zA|apply zB|apply zC));exact HO995.out) (Kd.R_base ho1) hb);have n3_:=zm (Kd.R_elder' (by (with_reducible repeat (first|apply zo|apply zp|apply zq));exact HO999.out) (Kd.R_base ho1) hb);have n4_:=zm (Kd.V_lower (zy (ok' := fun k_=>some k_≠(v1009 : Value).ownBlock∧some k_≠(v998 : Value).ownBlock∧k_≠gb968∧k_≠gb969∧k_≠gb978∧k_≠gb985∧k_≠gb1001) ho0 (fun k_ hk_=>⟨hk_.2,Or.elim hk_.1 (fun hs_=>fun e_=>Nat.not_le.2 hs_ (Kd.R_base HO999.out k_ e_.symm)) (fun hn_=>(Kd.fresh' (Kd.R_lt (by (with_reducible repeat (first|apply zo|apply zp|apply zq));exact HO999.out)) k_ hn_)),Or.elim hk_.1 (fun hs_=>fun e_=>Nat.not_le.2 hs_ (by rw [e_];exact GW968.out)) (fun hn_=>(Kd.freshB (g:=gb968) (o:=.cells #[.int .u64 a0_0, .int .u32 a0_1, .slice A0_2 l0_2.length c0_2] 26 (0,0)) (by (with_reducible repeat (first|refine zh ?_ _|refine zj ?_|refine zi ?_ _));exact BK968.out) k_ hn_)),Or.elim hk_.1 (fun hs_=>fun e_=>Nat.not_le.2 hs_ (by rw [e_];exact GW969.out)) (fun hn_=>(Kd.freshB (g:=gb969) (o:=.cells #[.int .u64 a1_0, .int .u32 a1_1, .slice A1_2 l1_2.length c1_2, .int .i64 a1_3] 43 (0,0)) (by (with_reducible repeat (first|refine zh ?_ _|refine zj ?_|refine zi ?_ _));exact BK969.out) k_ hn_)),Or.elim hk_.1 (fun hs_=>fun e_=>Nat.not_le.2 hs_ (by rw [e_];exact GW978.out)) (fun hn_=>(Kd.freshB (g:=gb978) (o:=.cells #[.int .u64 t972, .int .u32 t973, .slice Ao32 t974.length co32] 26 (0,0)) (by (with_reducible repeat (first|refine zh ?_ _|refine zj ?_|refine zi ?_ _));exact BK978.out) k_ hn_)),Or.elim hk_.1 (fun hs_=>fun e_=>Nat.not_le.2 hs_ (by rw [e_];exact GW985.out)) (fun hn_=>(Kd.freshB (g:=gb985) (o:=.cells #[.int .u64 t979, .int .u32 t980, .slice Ao41 t981.length co41] 26 (0,0)) (by (with_reducible repeat (first|refine zh ?_ _|refine zj ?_|refine zi ?_ _));exact BK985.out) k_ hn_)),Or.elim hk_.1 (fun hs_=>fun e_=>Nat.not_le.2 hs_ (by rw [e_];exact GW1001.out)) (fun hn_=>(Kd.freshB (g:=gb1001) (o:=.cells #[.int .u64 t991, .int .u32 t992, .slice Ao74 t993.length co74, .int .i64 t996] 43 (0,0)) (by (with_reducible repeat (first|refine zh ?_ _|refine zj ?_|refine zi ?_ _));exact BK1001.out) k_ hn_))⟩)) (zE (by repeat (first|(with_reducible first|exact HB.out|apply ze|apply zd|apply zf|refine zk ?_ GE968.out|refine zk ?_ GE969.out|refine zk ?_ GE978.out|refine zk ?_ GE985.out|refine zk ?_ GE1001.out)|exact HB.out))));have n5_:=zm (Kd.R_lower (Kd.R_new' (zG (ok' := fun k_=>True) ho1 (fun _ hk_=>trivial)) (Kd.R_lt (by (with_reducible repeat (first|apply zo|apply zp|apply zq));exact HO999.out))) (zE (by repeat (first|(with_reducible first|exact HB.out|apply ze|apply zd|apply zf|refine zk ?_ GE968.out|refine zk ?_ GE969.out|refine zk ?_ GE978.out|refine zk ?_ GE985.out|refine zk ?_ GE1001.out)|exact HB.out))));have n6_:=zm (zF (g:=gb968) (o:=.cells #[.int .u64 a0_0, .int .u32 a0_1, .slice A0_2 l0_2.length c0_2] 26 (0,0)) (by (with_reducible repeat (first|refine zh ?_ _|refine zj ?_|refine zi ?_ _));exact BK968.out) hb);have n7_:=zm (zF (g:=gb969) (o:=.cells #[.int .u64 a1_0, .int .u32 a1_1, .slice A1_2 l1_2.length c1_2, .int .i64 a1_3] 43 (0,0)) (by (with_reducible repeat (first|refine zh ?_ _|refine zj ?_|refine zi ?_ _));exact BK969.out) hb);have n8_:=zm (zF (g:=gb978) (o:=.cells #[.int .u64 t972, .int .u32 t973, .slice Ao32 t974.length co32] 26 (0,0)) (by (with_reducible repeat (first|refine zh ?_ _|refine zj ?_|refine zi ?_ _));exact BK978.out) hb);have n9_:=zm (zF (g:=gb985) (o:=.cells #[.int .u64 t979, .int .u32 t980, .slice Ao41 t981.length co41] 26 (0,0)) (by (with_reducible repeat (first|refine zh ?_ _|refine zj ?_|refine zi ?_ _));exact BK985.out) hb);have n10_:=zm (zF (g:=gb1001) (o:=.cells #[.int .u64 t991, .int .u32 t992, .slice Ao74 t993.length co74, .int .i64 t996] 43 (0,0)) (by (with_reducible repeat (first|refine zh ?_ _|refine zj ?_|refine zi ?_ _));exact BK1001.out) hb);have n11_:=zm (zJ (by repeat (first|(with_reducible first|exact HB.out|apply ze|apply zd|apply zf|refine zk ?_ GE968.out|refine zk ?_ GE969.out|refine zk ?_ GE978.out|refine zk ?_ GE985.out|refine zk ?_ GE1001.out)|exact HB.out)) hb);clear HO_979002;clear HO_986002;clear HO995;clear HO999;clear BK968;clear BK969;clear BK978;clear BK985;clear BK1001;clear HB;have HO_979002:=n0_;have HO_986002:=n1_;have HO995:=n2_;have HO999:=n3_;have HO1006:=n4_;have HO1010:=n5_;have BK968:=n6_;have BK969:=n7_;have BK978:=n8_;have BK985:=n9_;have BK1001:=n10_;have HB:=n11_;clear n0_ n1_ n2_ n3_ n4_ n5_ n6_ n7_ n8_ n9_ n10_ n11_;(try clear hb);(try clear hb2);(try clear hk);(try clear hi);(try clear ho0);(try clear ho1))|((with_reducible refine gate_dst (N:=18) rfl ?_);(try (refine gate_guard (by rfl) ?_;dsimp only));refine box_event ?hg (N:=18) ?hd (cs := #[.int .u64 0, .int .u32 0, .slice none 0 0, .int .i64 0]) (t:=43) ?hr ?_;(case hd=>rfl);(case hg=>rfl);(case hr=>first|(go_simp;done)|(go_simp;rfl));intro gb1012 hg w78 hbox hb;have n0_:=zm (Kd.V_below (Kd.V_elderB (by (with_reducible repeat (first|apply zA|apply zB|apply zC));exact HO_979002.out) gb1012 (Nat.le_of_eq hg.symm)) hb);have n1_:=zm (Kd.V_below (Kd.V_elderB (by (with_reducible repeat (first|apply zA|apply zB|apply zC));exact HO_986002.out) gb1012 (Nat.le_of_eq hg.symm)) hb);have n2_:=zm (Kd.V_below (Kd.V_elderB (by (with_reducible repeat (first|apply zA|apply zB|apply zC));exact HO995.out) gb1012 (Nat.le_of_eq hg.symm)) hb);have n3_:=zm (Kd.R_below (by (with_reducible repeat (first|apply zo|apply zp|apply zq));exact HO999.out) hb);have n4_:=zm (Kd.V_below (Kd.V_elderB (by (with_reducible repeat (first|apply zA|apply zB|apply zC));exact HO1006.out) gb1012 (Nat.le_of_eq hg.symm)) hb);have n5_:=zm (Kd.R_below (by (with_reducible repeat (first|apply zo|apply zp|apply zq));exact HO1010.out) hb);have n6_:=zm (zF (g:=gb968) (o:=.cells #[.int .u64 a0_0, .int .u32 a0_1, .slice A0_2 l0_2.length c0_2] 26 (0,0)) (by (with_reducible repeat (first|refine zh ?_ _|refine zj ?_|refine zi ?_ _));exact BK968.out) hb);have n7_:=zm (zF (g:=gb969) (o:=.cells #[.int .u64 a1_0, .int .u32 a1_1, .slice A1_2 l1_2.length c1_2, .int .i64 a1_3] 43 (0,0)) (by (with_reducible repeat (first|refine zh ?_ _|refine zj ?_|refine zi ?_ _));exact BK969.out) hb);have n8_:=zm (zF (g:=gb978) (o:=.cells #[.int .u64 t972, .int .u32 t973, .slice Ao32 t974.length co32] 26 (0,0)) (by (with_reducible repeat (first|refine zh ?_ _|refine zj ?_|refine zi ?_ _));exact BK978.out) hb);have n9_:=zm (zF (g:=gb985) (o:=.cells #[.int .u64 t979, .int .u32 t980, .slice Ao41 t981.length co41] 26 (0,0)) (by (with_reducible repeat (first|refine zh ?_ _|refine zj ?_|refine zi ?_ _));exact BK985.out) hb);have n10_:=zm (zF (g:=gb1001) (o:=.cells #[.int .u64 t991, .int .u32 t992, .slice Ao74 t993.length co74, .int .i64 t996] 43 (0,0)) (by (with_reducible repeat (first|refine zh ?_ _|refine zj ?_|refine zi ?_ _));exact BK1001.out) hb);have n11_:=zm (zJ (by repeat (first|(with_reducible first|exact HB.out|apply ze|apply zd|apply zf|refine zk ?_ GE968.out|refine zk ?_ GE969.out|refine zk ?_ GE978.out|refine zk ?_ GE985.out|refine zk ?_ GE1001.out)|exact HB.out)) hb);have n12_:=zm (hbox);have n13_:=zm ((by rw [hg];exact (zE (by repeat (first|(with_reducible first|exact HB.out|apply ze|apply zd|apply zf|refine zk ?_ GE968.out|refine zk ?_ GE969.out|refine zk ?_ GE978.out|refine zk ?_ GE985.out|refine zk ?_ GE1001.out)|exact HB.out))) : w.heap.size≤gb1012));have n14_:=zm ((by rw [hg];exact (zE (by repeat (first|(with_reducible first|exact HB.out|apply ze|apply zd|apply zf|refine zk ?_ GE968.out|refine zk ?_ GE969.out|refine zk ?_ GE978.out|refine zk ?_ GE985.out|refine zk ?_ GE1001.out)|exact HB.out))) : w.heap.size≤gb1012));have n15_:=zm ((by rw [hg];exact zn (zD (g:=gb968) (o:=.cells #[.int .u64 a0_0, .int .u32 a0_1, .slice A0_2 l0_2.length c0_2] 26 (0,0)) (by (with_reducible repeat (first|refine zh ?_ _|refine zj ?_|refine zi ?_ _));exact BK968.out)) : gb968≠gb1012));have n16_:=zm ((by rw [hg];exact zg (zD (g:=gb968) (o:=.cells #[.int .u64 a0_0, .int .u32 a0_1, .slice A0_2 l0_2.length c0_2] 26 (0,0)) (by (with_reducible repeat (first|refine zh ?_ _|refine zj ?_|refine zi ?_ _));exact BK968.out)) : gb1012≠gb968));have n17_:=zm ((by rw [hg];exact zn (zD (g:=gb969) (o:=.cells #[.int .u64 a1_0, .int .u32 a1_1, .slice A1_2 l1_2.length c1_2, .int .i64 a1_3] 43 (0,0)) (by (with_reducible repeat (first|refine zh ?_ _|refine zj ?_|refine zi ?_ _));exact BK969.out)) : gb969≠gb1012));have n18_:=zm ((by rw [hg];exact zg (zD (g:=gb969) (o:=.cells #[.int .u64 a1_0, .int .u32 a1_1, .slice A1_2 l1_2.length c1_2, .int .i64 a1_3] 43 (0,0)) (by (with_reducible repeat (first|refine zh ?_ _|refine zj ?_|refine zi ?_ _));exact BK969.out)) : gb1012≠gb969));have n19_:=zm ((by rw [hg];exact zn (zD (g:=gb978) (o:=.cells #[.int .u64 t972, .int .u32 t973, .slice Ao32 t974.length co32] 26 (0,0)) (by (with_reducible repeat (first|refine zh ?_ _|refine zj ?_|refine zi ?_ _));exact BK978.out)) : gb978≠gb1012));have n20_:=zm ((by rw [hg];exact zg (zD (g:=gb978) (o:=.cells #[.int .u64 t972, .int .u32 t973, .slice Ao32 t974.length co32] 26 (0,0)) (by (with_reducible repeat (first|refine zh ?_ _|refine zj ?_|refine zi ?_ _));exact BK978.out)) : gb1012≠gb978));have n21_:=zm ((by rw [hg];exact zn (zD (g:=gb985) (o:=.cells #[.int .u64 t979, .int .u32 t980, .slice Ao41 t981.length co41] 26 (0,0)) (by (with_reducible repeat (first|refine zh ?_ _|refine zj ?_|refine zi ?_ _));exact BK985.out)) : gb985≠gb1012));have n22_:=zm ((by rw [hg];exact zg (zD (g:=gb985) (o:=.cells #[.int .u64 t979, .int .u32 t980, .slice Ao41 t981.length co41] 26 (0,0)) (by (with_reducible repeat (first|refine zh ?_ _|refine zj ?_|refine zi ?_ _));exact BK985.out)) : gb1012≠gb985));have n23_:=zm ((by rw [hg];exact zn (zD (g:=gb1001) (o:=.cells #[.int .u64 t991, .int .u32 t992, .slice Ao74 t993.length co74, .int .i64 t996] 43 (0,0)) (by (with_reducible repeat (first|refine zh ?_ _|refine zj ?_|refine zi ?_ _));exact BK1001.out)) : gb1001≠gb1012));have n24_:=zm ((by rw [hg];exact zg (zD (g:=gb1001) (o:=.cells #[.int .u64 t991, .int .u32 t992, .slice Ao74 t993.length co74, .int .i64 t996] 43 (0,0)) (by (with_reducible repeat (first|refine zh ?_ _|refine zj ?_|refine zi ?_ _));exact BK1001.out)) : gb1012≠gb1001));clear HO_979002;clear HO_986002;clear HO995;clear HO999;clear HO1006;clear HO1010;clear BK968;clear BK969;clear BK978;clear BK985;clear BK1001;clear HB;have HO_979002:=n0_;have HO_986002:=n1_;have HO995:=n2_;have HO999:=n3_;have HO1006:=n4_;have HO1010:=n5_;have BK968:=n6_;have BK969:=n7_;have BK978:=n8_;have BK985:=n9_;have BK1001:=n10_;have HB:=n11_;have BK1012:=n12_;have GW1012:=n13_;have GE1012:=n14_;have NB968_1012:=n15_;have NB1012_968:=n16_;have NB969_1012:=n17_;have NB1012_969:=n18_;have NB978_1012:=n19_;have NB1012_978:=n20_;have NB985_1012:=n21_;have NB1012_985:=n22_;have NB1001_1012:=n23_;have NB1012_1001:=n24_;clear n0_ n1_ n2_ n3_ n4_ n5_ n6_ n7_ n8_ n9_ n10_ n11_ n12_ n13_ n14_ n15_ n16_ n17_ n18_ n19_ n20_ n21_ n22_ n23_ n24_;clear hb hbox hg;have hnb79:=NB1012_968.out;have hnc79:=NB968_1012.out;have hnb80:=NB1012_969.out;have hnc80:=NB969_1012.out;have hnb81:=NB1012_978.out;have hnc81:=NB978_1012.out;have hnb82:=NB1012_985.out;have hnc82:=NB985_1012.out;have hnb83:=NB1012_1001.out;have hnc83:=NB1001_1012.out;have hcz84_0 : w78.cell? ⟨gb1012,0,none⟩=some (.int .u64 0):=(zs BK1012.out 0).trans rfl;have hcz84_1 : w78.cell? ⟨gb1012,1,none⟩=some (.int .u32 0):=(zs BK1012.out 1).trans rfl;have hcz84_2 : w78.cell? ⟨gb1012,2,none⟩=some (.slice none 0 0):=(zs BK1012.out 2).trans rfl;have hcz84_3 : w78.cell? ⟨gb1012,3,none⟩=some (.int .i64 0):=(zs BK1012.out 3).trans rfl;have hfz84_0:=zx BK1012.out 0;have hfz84_1:=zx BK1012.out 1;have hfz84_2:=zx BK1012.out 2;have hfz84_3:=zx BK1012.out 3;obtain ⟨Ao85,co85,eo85⟩:=Kd.V_slice HO1006.out;subst eo85))
           have n0_ : Aside0 (Kd.V (Kd.int .u8) 5 ((((w78.setCell ⟨gb1012,0,none⟩ (.int .u64 t1002)).setCell ⟨gb1012,1,none⟩ (.int .u32 t1003)).setCell ⟨gb1012,2,none⟩ (.slice Ao85 t1004.length co85)).setCell ⟨gb1012,3,none⟩ (.int .i64 t1007)) w.heap.size (fun k_=>some k_≠(v998 : Value).ownBlock∧some k_≠(v1009 : Value).ownBlock∧k_≠gb968∧k_≠gb969∧k_≠gb978∧k_≠gb985∧k_≠gb1001∧k_≠gb1012) (.slice Ao32 t974.length co32) t974):=⟨by (with_reducible repeat (first|apply zA|apply zB|apply zC));exact zy (zI (p:=⟨gb1012,3,none⟩) (zI (p:=⟨gb1012,2,none⟩) (zI (p:=⟨gb1012,1,none⟩) (zI (p:=⟨gb1012,0,none⟩) (zy HO_979002.out (fun k_ hk=>(⟨hk,hk.2⟩ : _∧k_≠gb1012))) (fun _ hk=>hk.2) (.int .u64 t1002)) (fun _ hk=>hk.2) (.int .u32 t1003)) (fun _ hk=>hk.2) (.slice Ao85 t1004.length co85)) (fun _ hk=>hk.2) (.int .i64 t1007)) (fun _ hk=>⟨hk.1.1.1.1,⟨hk.1.1.2,⟨hk.1.1.1.2.1,⟨hk.1.1.1.2.2.1,⟨hk.1.1.1.2.2.2.1,⟨hk.1.1.1.2.2.2.2.1,⟨hk.1.1.1.2.2.2.2.2,hk.1.2⟩⟩⟩⟩⟩⟩⟩)⟩
           have n1_ : Aside0 (Kd.V (Kd.int .u8) 5 ((((w78.setCell ⟨gb1012,0,none⟩ (.int .u64 t1002)).setCell ⟨gb1012,1,none⟩ (.int .u32 t1003)).setCell ⟨gb1012,2,none⟩ (.slice Ao85 t1004.length co85)).setCell ⟨gb1012,3,none⟩ (.int .i64 t1007)) w.heap.size (fun k_=>some k_≠(v998 : Value).ownBlock∧some k_≠(v1009 : Value).ownBlock∧k_≠gb968∧k_≠gb969∧k_≠gb978∧k_≠gb985∧k_≠gb1001∧k_≠gb1012) (.slice Ao41 t981.length co41) t981):=⟨by (with_reducible repeat (first|apply zA|apply zB|apply zC));exact zy (zI (p:=⟨gb1012,3,none⟩) (zI (p:=⟨gb1012,2,none⟩) (zI (p:=⟨gb1012,1,none⟩) (zI (p:=⟨gb1012,0,none⟩) (zy HO_986002.out (fun k_ hk=>(⟨hk,hk.2⟩ : _∧k_≠gb1012))) (fun _ hk=>hk.2) (.int .u64 t1002)) (fun _ hk=>hk.2) (.int .u32 t1003)) (fun _ hk=>hk.2) (.slice Ao85 t1004.length co85)) (fun _ hk=>hk.2) (.int .i64 t1007)) (fun _ hk=>⟨hk.1.1.1.1,⟨hk.1.1.2,⟨hk.1.1.1.2.1,⟨hk.1.1.1.2.2.1,⟨hk.1.1.1.2.2.2.1,⟨hk.1.1.1.2.2.2.2.1,⟨hk.1.1.1.2.2.2.2.2,hk.1.2⟩⟩⟩⟩⟩⟩⟩)⟩
           have n2_ : Aside0 (Kd.V (Kd.int .u8) 5 ((((w78.setCell ⟨gb1012,0,none⟩ (.int .u64 t1002)).setCell ⟨gb1012,1,none⟩ (.int .u32 t1003)).setCell ⟨gb1012,2,none⟩ (.slice Ao85 t1004.length co85)).setCell ⟨gb1012,3,none⟩ (.int .i64 t1007)) w.heap.size (fun k_=>some k_≠(v998 : Value).ownBlock∧some k_≠(v1009 : Value).ownBlock∧k_≠gb968∧k_≠gb969∧k_≠gb978∧k_≠gb985∧k_≠gb1001∧k_≠gb1012) (.slice Ao74 t993.length co74) t993):=⟨by (with_reducible repeat (first|apply zA|apply zB|apply zC));exact zy (zI (p:=⟨gb1012,3,none⟩) (zI (p:=⟨gb1012,2,none⟩) (zI (p:=⟨gb1012,1,none⟩) (zI (p:=⟨gb1012,0,none⟩) (zy HO995.out (fun k_ hk=>(⟨hk,hk.2⟩ : _∧k_≠gb1012))) (fun _ hk=>hk.2) (.int .u64 t1002)) (fun _ hk=>hk.2) (.int .u32 t1003)) (fun _ hk=>hk.2) (.slice Ao85 t1004.length co85)) (fun _ hk=>hk.2) (.int .i64 t1007)) (fun _ hk=>⟨hk.1.1.1.1,⟨hk.1.1.2,⟨hk.1.1.1.2.1,⟨hk.1.1.1.2.2.1,⟨hk.1.1.1.2.2.2.1,⟨hk.1.1.1.2.2.2.2.1,⟨hk.1.1.1.2.2.2.2.2,hk.1.2⟩⟩⟩⟩⟩⟩⟩)⟩
           have n3_ : Aside0 (Kd.R (Kd.int .i64) 3 ((((w78.setCell ⟨gb1012,0,none⟩ (.int .u64 t1002)).setCell ⟨gb1012,1,none⟩ (.int .u32 t1003)).setCell ⟨gb1012,2,none⟩ (.slice Ao85 t1004.length co85)).setCell ⟨gb1012,3,none⟩ (.int .i64 t1007)) w.heap.size (fun k_=>some k_≠(v1009 : Value).ownBlock) v998 t997):=⟨by (with_reducible repeat (first|apply zo|apply zp|apply zq));exact zG (zH (p:=⟨gb1012,3,none⟩) (zH (p:=⟨gb1012,2,none⟩) (zH (p:=⟨gb1012,1,none⟩) (zH (p:=⟨gb1012,0,none⟩) (Kd.R_types HO999.out BK1012.out (by decide)) (fun _ hk=>hk.2) (.int .u64 t1002)) (fun _ hk=>hk.2) (.int .u32 t1003)) (fun _ hk=>hk.2) (.slice Ao85 t1004.length co85)) (fun _ hk=>hk.2) (.int .i64 t1007)) (fun _ hk=>hk.1.2)⟩
           have n4_ : Aside0 (Kd.V (Kd.int .u8) 5 ((((w78.setCell ⟨gb1012,0,none⟩ (.int .u64 t1002)).setCell ⟨gb1012,1,none⟩ (.int .u32 t1003)).setCell ⟨gb1012,2,none⟩ (.slice Ao85 t1004.length co85)).setCell ⟨gb1012,3,none⟩ (.int .i64 t1007)) w.heap.size (fun k_=>some k_≠(v998 : Value).ownBlock∧some k_≠(v1009 : Value).ownBlock∧k_≠gb968∧k_≠gb969∧k_≠gb978∧k_≠gb985∧k_≠gb1001∧k_≠gb1012) (.slice Ao85 t1004.length co85) t1004):=⟨by (with_reducible repeat (first|apply zA|apply zB|apply zC));exact zy (zI (p:=⟨gb1012,3,none⟩) (zI (p:=⟨gb1012,2,none⟩) (zI (p:=⟨gb1012,1,none⟩) (zI (p:=⟨gb1012,0,none⟩) (zy HO1006.out (fun k_ hk=>(⟨hk,hk.2⟩ : _∧k_≠gb1012))) (fun _ hk=>hk.2) (.int .u64 t1002)) (fun _ hk=>hk.2) (.int .u32 t1003)) (fun _ hk=>hk.2) (.slice Ao85 t1004.length co85)) (fun _ hk=>hk.2) (.int .i64 t1007)) (fun _ hk=>⟨hk.1.1.2.1,⟨hk.1.1.1,⟨hk.1.1.2.2.1,⟨hk.1.1.2.2.2.1,⟨hk.1.1.2.2.2.2.1,⟨hk.1.1.2.2.2.2.2.1,⟨hk.1.1.2.2.2.2.2.2,hk.1.2⟩⟩⟩⟩⟩⟩⟩)⟩
           have n5_ : Aside0 (Kd.R (Kd.int .i64) 3 ((((w78.setCell ⟨gb1012,0,none⟩ (.int .u64 t1002)).setCell ⟨gb1012,1,none⟩ (.int .u32 t1003)).setCell ⟨gb1012,2,none⟩ (.slice Ao85 t1004.length co85)).setCell ⟨gb1012,3,none⟩ (.int .i64 t1007)) w.heap.size (fun k_=>some k_≠(v998 : Value).ownBlock) v1009 t1008):=⟨by (with_reducible repeat (first|apply zo|apply zp|apply zq));exact zG (zH (p:=⟨gb1012,3,none⟩) (zH (p:=⟨gb1012,2,none⟩) (zH (p:=⟨gb1012,1,none⟩) (zH (p:=⟨gb1012,0,none⟩) (Kd.R_types HO1010.out BK1012.out (by decide)) (fun _ hk=>hk.2) (.int .u64 t1002)) (fun _ hk=>hk.2) (.int .u32 t1003)) (fun _ hk=>hk.2) (.slice Ao85 t1004.length co85)) (fun _ hk=>hk.2) (.int .i64 t1007)) (fun _ hk=>hk.1.2)⟩
           have n6_ : Aside0 (((((w78.setCell ⟨gb1012,0,none⟩ (.int .u64 t1002)).setCell ⟨gb1012,1,none⟩ (.int .u32 t1003)).setCell ⟨gb1012,2,none⟩ (.slice Ao85 t1004.length co85)).setCell ⟨gb1012,3,none⟩ (.int .i64 t1007)).heap[gb968]? = some (.cells #[.int .u64 a0_0, .int .u32 a0_1, .slice A0_2 l0_2.length c0_2] 26 (0,0))):=⟨by (with_reducible repeat (first|refine zh ?_ _|refine zj ?_|refine zi ?_ _|refine zv ?_ NB968_1012.out _));exact BK968.out⟩
           have n7_ : Aside0 (((((w78.setCell ⟨gb1012,0,none⟩ (.int .u64 t1002)).setCell ⟨gb1012,1,none⟩ (.int .u32 t1003)).setCell ⟨gb1012,2,none⟩ (.slice Ao85 t1004.length co85)).setCell ⟨gb1012,3,none⟩ (.int .i64 t1007)).heap[gb969]? = some (.cells #[.int .u64 a1_0, .int .u32 a1_1, .slice A1_2 l1_2.length c1_2, .int .i64 a1_3] 43 (0,0))):=⟨by (with_reducible repeat (first|refine zh ?_ _|refine zj ?_|refine zi ?_ _|refine zv ?_ NB969_1012.out _));exact BK969.out⟩
           have n8_ : Aside0 (((((w78.setCell ⟨gb1012,0,none⟩ (.int .u64 t1002)).setCell ⟨gb1012,1,none⟩ (.int .u32 t1003)).setCell ⟨gb1012,2,none⟩ (.slice Ao85 t1004.length co85)).setCell ⟨gb1012,3,none⟩ (.int .i64 t1007)).heap[gb978]? = some (.cells #[.int .u64 t972, .int .u32 t973, .slice Ao32 t974.length co32] 26 (0,0))):=⟨by (with_reducible repeat (first|refine zh ?_ _|refine zj ?_|refine zi ?_ _|refine zv ?_ NB978_1012.out _));exact BK978.out⟩
           have n9_ : Aside0 (((((w78.setCell ⟨gb1012,0,none⟩ (.int .u64 t1002)).setCell ⟨gb1012,1,none⟩ (.int .u32 t1003)).setCell ⟨gb1012,2,none⟩ (.slice Ao85 t1004.length co85)).setCell ⟨gb1012,3,none⟩ (.int .i64 t1007)).heap[gb985]? = some (.cells #[.int .u64 t979, .int .u32 t980, .slice Ao41 t981.length co41] 26 (0,0))):=⟨by (with_reducible repeat (first|refine zh ?_ _|refine zj ?_|refine zi ?_ _|refine zv ?_ NB985_1012.out _));exact BK985.out⟩
           have n10_ : Aside0 (((((w78.setCell ⟨gb1012,0,none⟩ (.int .u64 t1002)).setCell ⟨gb1012,1,none⟩ (.int .u32 t1003)).setCell ⟨gb1012,2,none⟩ (.slice Ao85 t1004.length co85)).setCell ⟨gb1012,3,none⟩ (.int .i64 t1007)).heap[gb1001]? = some (.cells #[.int .u64 t991, .int .u32 t992, .slice Ao74 t993.length co74, .int .i64 t996] 43 (0,0))):=⟨by (with_reducible repeat (first|refine zh ?_ _|refine zj ?_|refine zi ?_ _|refine zv ?_ NB1001_1012.out _));exact BK1001.out⟩
           have n11_ : Aside0 (((((w78.setCell ⟨gb1012,0,none⟩ (.int .u64 t1002)).setCell ⟨gb1012,1,none⟩ (.int .u32 t1003)).setCell ⟨gb1012,2,none⟩ (.slice Ao85 t1004.length co85)).setCell ⟨gb1012,3,none⟩ (.int .i64 t1007)).heap[gb1012]? = some (.cells #[.int .u64 t1002, .int .u32 t1003, .slice Ao85 t1004.length co85, .int .i64 t1007] 43 (0,0))):=⟨by (with_reducible repeat (first|refine zh ?_ _|refine zj ?_|refine zi ?_ _));refine zw (cs := #[.int .u64 t1002, .int .u32 t1003, .slice Ao85 t1004.length co85, .int .i64 0]) ?_ 3 _ rfl;(with_reducible repeat (first|refine zh ?_ _|refine zj ?_|refine zi ?_ _));refine zw (cs := #[.int .u64 t1002, .int .u32 t1003, .slice none 0 0, .int .i64 0]) ?_ 2 _ rfl;(with_reducible repeat (first|refine zh ?_ _|refine zj ?_|refine zi ?_ _));refine zw (cs := #[.int .u64 t1002, .int .u32 0, .slice none 0 0, .int .i64 0]) ?_ 1 _ rfl;(with_reducible repeat (first|refine zh ?_ _|refine zj ?_|refine zi ?_ _));refine zw (cs := #[.int .u64 0, .int .u32 0, .slice none 0 0, .int .i64 0]) ?_ 0 _ rfl;(with_reducible repeat (first|refine zh ?_ _|refine zj ?_|refine zi ?_ _));exact BK1012.out⟩
           have n12_ : Aside0 (Below w.heap.size w ((((w78.setCell ⟨gb1012,0,none⟩ (.int .u64 t1002)).setCell ⟨gb1012,1,none⟩ (.int .u32 t1003)).setCell ⟨gb1012,2,none⟩ (.slice Ao85 t1004.length co85)).setCell ⟨gb1012,3,none⟩ (.int .i64 t1007))):=⟨by repeat (first|(with_reducible first|exact HB.out|apply ze|apply zd|apply zf|refine zk ?_ GE968.out|refine zk ?_ GE969.out|refine zk ?_ GE978.out|refine zk ?_ GE985.out|refine zk ?_ GE1001.out|refine zk ?_ GE1012.out)|exact HB.out)⟩
           (try clear HO_979002)
           (try clear HO_986002)
           (try clear HO995)
           (try clear HO999)
           (try clear HO1006)
           (try clear HO1010)
           (try clear BK968)
           (try clear BK969)
           (try clear BK978)
           (try clear BK985)
           (try clear BK1001)
           (try clear BK1012)
           (try clear HB)
           generalize ((((w78.setCell ⟨gb1012,0,none⟩ (.int .u64 t1002)).setCell ⟨gb1012,1,none⟩ (.int .u32 t1003)).setCell ⟨gb1012,2,none⟩ (.slice Ao85 t1004.length co85)).setCell ⟨gb1012,3,none⟩ (.int .i64 t1007))=w86 at n0_ n1_ n2_ n3_ n4_ n5_ n6_ n7_ n8_ n9_ n10_ n11_ n12_ ⊢
           have HO_979002:=n0_;have HO_986002:=n1_;have HO995:=n2_;have HO999:=n3_;have HO1006:=n4_;have HO1010:=n5_;have BK968:=n6_;have BK969:=n7_;have BK978:=n8_;have BK985:=n9_;have BK1001:=n10_;have BK1012:=n11_;have HB:=n12_;clear n0_ n1_ n2_ n3_ n4_ n5_ n6_ n7_ n8_ n9_ n10_ n11_ n12_;have n0_:=zm (zC HO_979002.out);have n1_:=zm (zC HO_986002.out);have n2_:=zm (zC HO995.out);have n3_:=zm (zq HO999.out);have n4_:=zm (zC HO1006.out);have n5_:=zm (zq HO1010.out);have n6_:=zm (zj BK968.out);have n7_:=zm (zj BK969.out);have n8_:=zm (zj BK978.out);have n9_:=zm (zj BK985.out);have n10_:=zm (zj BK1001.out);have n11_:=zm (zj BK1012.out);have n12_:=zm (zf HB.out)
           clear HO_979002;clear HO_986002;clear HO995;clear HO999;clear HO1006;clear HO1010;clear BK968;clear BK969;clear BK978;clear BK985;clear BK1001;clear BK1012;clear HB;have HO_979002:=n0_;have HO_986002:=n1_;have HO995:=n2_;have HO999:=n3_;have HO1006:=n4_;have HO1010:=n5_;have BK968:=n6_;have BK969:=n7_;have BK978:=n8_;have BK985:=n9_;have BK1001:=n10_;have BK1012:=n11_;have HB:=n12_;clear n0_ n1_ n2_ n3_ n4_ n5_ n6_ n7_ n8_ n9_ n10_ n11_ n12_
           obtain ⟨Ao88,co88,eo88⟩:=Kd.R_slice HO999.out
           (first|subst eo88|(injection eo88 with f1_ f2_ f3_;have f4_:=f1_.symm;have f5_:=f3_.symm;clear f1_ f2_ f3_;subst f4_;subst f5_))
           obtain ⟨Ao89,co89,eo89⟩:=Kd.R_slice HO1010.out
           (first|subst eo89|(injection eo89 with f1_ f2_ f3_;have f4_:=f1_.symm;have f5_:=f3_.symm;clear f1_ f2_ f3_;subst f4_;subst f5_))
           refine start_ (n:=21) (S:=fun w' => w'.cell? ⟨gb1001,0,none⟩=some (.int .u64 t991)∧w'.cell? ⟨gb1001,1,none⟩=some (.int .u32 t992)∧w'.cell? ⟨gb1001,2,none⟩=some (.slice Ao74 t993.length co74)∧w'.cell? ⟨gb1001,3,none⟩=some (.int .i64 t996)∧w'.cell? ⟨gb1012,0,none⟩=some (.int .u64 t1002)∧w'.cell? ⟨gb1012,1,none⟩=some (.int .u32 t1003)∧w'.cell? ⟨gb1012,2,none⟩=some (.slice Ao85 t1004.length co85)∧w'.cell? ⟨gb1012,3,none⟩=some (.int .i64 t1007)) (ds := []) #[false,false,false,false,false,false,false,false,false,false,false,false,false,false,false,false,false,false,false,false,false] (by kernel_rfl) rfl rfl ⟨(zs BK1001.out 0).trans rfl,(zs BK1001.out 1).trans rfl,(zs BK1001.out 2).trans rfl,(zs BK1001.out 3).trans rfl,(zs BK1012.out 0).trans rfl,(zs BK1012.out 1).trans rfl,(zs BK1012.out 2).trans rfl,(zs BK1012.out 3).trans rfl⟩ (fun hHeld => ?_);refine with_tabW psalterylaw11_GainAlone.tab9 psalterylaw11_GainAlone.bits9 (fun HT_ HW_ => ?_)
           generalize w86.drew=w87 at HO_979002 HO_986002 HO995 HO999 HO1006 HO1010 BK968 BK969 BK978 BK985 BK1001 BK1012 HB hHeld ⊢
           refine pure_ (i:=0) (N:=some 70) (v := ?_) (a' := ?_) #[true,false,false,false,false,false,false,false,false,false,false,false,false,false,false,false,false,false,false,false,false] rfl rfl (any_of HT_.out (by kernel_rfl)) (fun _ _ _ h=>h) (Or.inl ⟨by rfl, ?_⟩) ?_ ?_
           rotate_left
           ·
            intro w'
            go_simp
            with_reducible rfl
           rotate_left
           ·
            simp only [Act.put,List.setIfInBounds_toArray,List.set_cons_zero,List.set_cons_succ,i64_w,i32_w]
            rfl
           refine pure_ (i:=1) (N:=some 71) (v := ?_) (a' := ?_) #[true,true,false,false,false,false,false,false,false,false,false,false,false,false,false,false,false,false,false,false,false] rfl rfl (any_of HT_.out (by kernel_rfl)) (fun _ _ _ h=>h) (Or.inl ⟨by rfl, ?_⟩) ?_ ?_
           rotate_left
           ·
            intro w'
            go_simp
            with_reducible rfl
           rotate_left
           ·
            simp only [Act.put,List.setIfInBounds_toArray,List.set_cons_zero,List.set_cons_succ,i64_w,i32_w]
            rfl
           refine pure_ (i:=2) (N:=some 72) (v := ?_) (a' := ?_) #[true,true,true,false,false,false,false,false,false,false,false,false,false,false,false,false,false,false,false,false,false] rfl rfl (any_of HT_.out (by kernel_rfl)) (fun _ _ _ h=>h) (Or.inl ⟨by rfl, ?_⟩) ?_ ?_
           rotate_left
           ·
            intro w'
            go_simp
            with_reducible rfl
           rotate_left
           ·
            simp only [Act.put,List.setIfInBounds_toArray,List.set_cons_zero,List.set_cons_succ,i64_w,i32_w]
            rfl
           refine pure_ (i:=3) (N:=some 73) (v := ?_) (a' := ?_) #[true,true,true,true,false,false,false,false,false,false,false,false,false,false,false,false,false,false,false,false,false] rfl rfl (any_of HT_.out (by kernel_rfl)) (fun _ _ _ h=>h) (Or.inl ⟨by rfl, ?_⟩) ?_ ?_
           rotate_left
           ·
            intro w'
            go_simp
            with_reducible rfl
           rotate_left
           ·
            simp only [Act.put,List.setIfInBounds_toArray,List.set_cons_zero,List.set_cons_succ,i64_w,i32_w]
            rfl
           refine pure_ (i:=4) (N:=some 74) (v := ?_) (a' := ?_) #[true,true,true,true,true,false,false,false,false,false,false,false,false,false,false,false,false,false,false,false,false] rfl rfl (any_of HT_.out (by kernel_rfl)) (fun _ _ _ h=>h) (Or.inl ⟨by rfl, ?_⟩) ?_ ?_
           rotate_left
           ·
            intro w'
            go_simp
            with_reducible rfl
           rotate_left
           ·
            simp only [Act.put,List.setIfInBounds_toArray,List.set_cons_zero,List.set_cons_succ,i64_w,i32_w]
            rfl
           refine pure_ (i:=5) (N:=some 75) (v := ?_) (a' := ?_) #[true,true,true,true,true,true,false,false,false,false,false,false,false,false,false,false,false,false,false,false,false] rfl rfl (any_of HT_.out (by kernel_rfl)) (fun _ _ _ h=>h) (Or.inl ⟨by rfl, ?_⟩) ?_ ?_
           rotate_left
           ·
            intro w'
            go_simp
            with_reducible rfl
           rotate_left
           ·
            simp only [Act.put,List.setIfInBounds_toArray,List.set_cons_zero,List.set_cons_succ,i64_w,i32_w]
            rfl
           refine pure_ (i:=6) (N:=some 76) (v := ?_) (a' := ?_) #[true,true,true,true,true,true,true,false,false,false,false,false,false,false,false,false,false,false,false,false,false] rfl rfl (any_of HT_.out (by kernel_rfl)) (fun _ _ _ h=>h) (Or.inl ⟨by rfl, ?_⟩) ?_ ?_
           rotate_left
           ·
            intro w'
            go_simp
            with_reducible rfl
           rotate_left
           ·
            simp only [Act.put,List.setIfInBounds_toArray,List.set_cons_zero,List.set_cons_succ,i64_w,i32_w]
            rfl
           refine pure_ (i:=7) (N:=some 77) (v := ?_) (a' := ?_) #[true,true,true,true,true,true,true,true,false,false,false,false,false,false,false,false,false,false,false,false,false] rfl rfl (any_of HT_.out (by kernel_rfl)) (fun _ _ _ h=>h) (Or.inl ⟨by rfl, ?_⟩) ?_ ?_
           rotate_left
           ·
            intro w'
            go_simp
            with_reducible rfl
           rotate_left
           ·
            simp only [Act.put,List.setIfInBounds_toArray,List.set_cons_zero,List.set_cons_succ,i64_w,i32_w]
            rfl
           refine pure_ (i:=8) (N:=some 78) (v := ?_) (a' := ?_) #[true,true,true,true,true,true,true,true,true,false,false,false,false,false,false,false,false,false,false,false,false] rfl rfl (any_of HT_.out (by kernel_rfl)) (fun _ _ _ h=>h) (Or.inl ⟨by rfl, ?_⟩) ?_ ?_
           rotate_left
           ·
            intro w'
            go_simp
            with_reducible rfl
           rotate_left
           ·
            simp only [Act.put,List.setIfInBounds_toArray,List.set_cons_zero,List.set_cons_succ,i64_w,i32_w]
            rfl
           refine one_ (i:=9) (N:=some 79) #[true,true,true,true,true,true,true,true,true,true,false,false,false,false,false,false,false,false,false,false,false] rfl rfl (one_of HT_.out (by kernel_rfl)) (by decide) (fun K hK => ?_)
           refine goes_ Try.func49 (by kernel_rfl) rfl #[.slice Ao88 t997.length co88, .slice Ao89 t1008.length co89] (by rfl) rfl rfl (by (try simp only [List.map_toArray,List.map_cons,List.map_nil]);first|done|rfl|(simp only [List.length_drop,List.length_take];rfl)) ?_
           with_reducible refine (psalteryref06_Same.calls kj23 _ _ t997 _ _ t1008 true _ ?side1 ?side2 ?side3 ?side4 A57.out).mono ?_
           (case side1=>repeat (first|exact (Kd.R_reads' HO999.out).2.2|(with_reducible refine Kd.C_alloc ?_ _)|(with_reducible refine Kd.C_drewN ?_ _)|(with_reducible refine Kd.C_drew ?_)))
           (case side2=>exact (Kd.R_reads' HO999.out).2.1)
           (case side3=>repeat (first|exact (Kd.R_reads' HO1010.out).2.2|(with_reducible refine Kd.C_alloc ?_ _)|(with_reducible refine Kd.C_drewN ?_ _)|(with_reducible refine Kd.C_drew ?_)))
           (case side4=>exact (Kd.R_reads' HO1010.out).2.1)
           rintro e w' ⟨rfl,⟨nd,rfl⟩⟩
           refine ⟨_,rfl, ?_⟩
           refine hK.out _ _ ⟨(zs BK1001.out 0).trans rfl,(zs BK1001.out 1).trans rfl,(zs BK1001.out 2).trans rfl,(zs BK1001.out 3).trans rfl,(zs BK1012.out 0).trans rfl,(zs BK1012.out 1).trans rfl,(zs BK1012.out 2).trans rfl,(zs BK1012.out 3).trans rfl⟩ (fun hHeld => ?_)
           clear hK K
           refine norm_ (a' := ?_) ?_ ?_
           rotate_left
           ·
            show Act.put _ (some 79) _=_
            simp only [Act.put,List.setIfInBounds_toArray,List.set_cons_zero,List.set_cons_succ,i64_w,i32_w]
            rfl
           refine pure_ (i:=10) (N:=some 80) (v := ?_) (a' := ?_) #[true,true,true,true,true,true,true,true,true,true,true,false,false,false,false,false,false,false,false,false,false] rfl rfl (any_of HT_.out (by kernel_rfl)) (fun _ _ _ h=>h) (Or.inl ⟨by rfl, ?_⟩) ?_ ?_
           rotate_left
           ·
            intro w'
            go_simp
            with_reducible rfl
           rotate_left
           ·
            simp only [Act.put,List.setIfInBounds_toArray,List.set_cons_zero,List.set_cons_succ,i64_w,i32_w]
            rfl
           refine pure_ (i:=11) (N:=some 81) (v := ?_) (a' := ?_) #[true,true,true,true,true,true,true,true,true,true,true,true,false,false,false,false,false,false,false,false,false] rfl rfl (any_of HT_.out (by kernel_rfl)) (fun _ _ _ h=>h) (Or.inl ⟨by rfl, ?_⟩) ?_ ?_
           rotate_left
           ·
            intro w'
            go_simp
            with_reducible rfl
           rotate_left
           ·
            simp only [Act.put,List.setIfInBounds_toArray,List.set_cons_zero,List.set_cons_succ,i64_w,i32_w]
            rfl
           refine take_ (i:=12) (N:=some 82) (v := ?_) (a' := ?_) #[true,true,true,true,true,true,true,true,true,true,true,true,true,false,false,false,false,false,false,false,false] rfl rfl (take_ofW HT_.out HW_.out (by kernel_rfl)) (fun _ _ _ h=>h) (Or.inl ⟨by rfl, ?_⟩) hHeld ?_ ?_
           rotate_left
           ·
            rintro w' ⟨s0,s1,s2,s3,s4,s5,s6,s7⟩
            go_simp
            with_reducible rfl
           rotate_left
           ·
            simp only [Act.put,List.setIfInBounds_toArray,List.set_cons_zero,List.set_cons_succ,i64_w,i32_w]
            rfl
           refine take_ (i:=13) (N:=some 83) (v := ?_) (a' := ?_) #[true,true,true,true,true,true,true,true,true,true,true,true,true,true,false,false,false,false,false,false,false] rfl rfl (take_ofW HT_.out HW_.out (by kernel_rfl)) (fun _ _ _ h=>h) (Or.inl ⟨by rfl, ?_⟩) hHeld ?_ ?_
           rotate_left
           ·
            rintro w' ⟨s0,s1,s2,s3,s4,s5,s6,s7⟩
            go_simp
            with_reducible rfl
           rotate_left
           ·
            simp only [Act.put,List.setIfInBounds_toArray,List.set_cons_zero,List.set_cons_succ,i64_w,i32_w]
            rfl
           refine one_ (i:=14) (N:=some 84) #[true,true,true,true,true,true,true,true,true,true,true,true,true,true,true,false,false,false,false,false,false] rfl rfl (one_of HT_.out (by kernel_rfl)) (by decide) (fun K hK => ?_)
           refine goes_ Try.func31 (by kernel_rfl) rfl #[.agg #[.int .u64 t1002, .int .u32 t1003, .slice Ao85 t1004.length co85, .int .i64 t1007]] (by rfl) rfl rfl (by (try simp only [List.map_toArray,List.map_cons,List.map_nil]);first|done|rfl|(simp only [List.length_drop,List.length_take];rfl)) ?_
           with_reducible refine (psalterylaw05_AsDec.calls kj23 t1002 t1003 (fun k_=>(some k_≠(.slice Ao88 t997.length co88 : Value).ownBlock∧(some k_≠(.slice Ao89 t1008.length co89 : Value).ownBlock∧(k_≠gb968∧(k_≠gb969∧(k_≠gb978∧(k_≠gb985∧(k_≠gb1001∧k_≠gb1012)))))))) _ _ t1004 t1007 t1014 t1015 t1016 t1019 _ ?side1 A59.out).mono ?_
           (case side1=>exact HO1006.out)
           rintro e w90 ⟨v1017,rfl,ho0,hb⟩
           refine ⟨_,rfl, ?_⟩
           have n0_:=zm (Kd.V_below (by (with_reducible repeat (first|apply zA|apply zB|apply zC));exact HO_979002.out) hb)
           have n1_:=zm (Kd.V_below (by (with_reducible repeat (first|apply zA|apply zB|apply zC));exact HO_986002.out) hb)
           have n2_:=zm (Kd.V_below (by (with_reducible repeat (first|apply zA|apply zB|apply zC));exact HO995.out) hb)
           have n3_:=zm (Kd.R_below (by (with_reducible repeat (first|apply zo|apply zp|apply zq));exact HO999.out) hb)
           have n4_:=zm (Kd.V_below (by (with_reducible repeat (first|apply zA|apply zB|apply zC));exact HO1006.out) hb)
           have n5_:=zm (Kd.R_below (by (with_reducible repeat (first|apply zo|apply zp|apply zq));exact HO1010.out) hb)
           have n6_:=zm (Kd.V_lower (zy (ok' := fun k_=>some k_≠(.slice Ao88 t997.length co88 : Value).ownBlock∧some k_≠(.slice Ao89 t1008.length co89 : Value).ownBlock∧k_≠gb968∧k_≠gb969∧k_≠gb978∧k_≠gb985∧k_≠gb1001∧k_≠gb1012) ho0 (fun k_ hk_=>⟨Or.elim hk_ (fun hs_=>hs_.1) (fun hn_=>(Kd.fresh' (Kd.R_lt (by (with_reducible repeat (first|apply zo|apply zp|apply zq));exact HO999.out)) k_ hn_)),Or.elim hk_ (fun hs_=>hs_.2.1) (fun hn_=>(Kd.fresh' (Kd.R_lt (by (with_reducible repeat (first|apply zo|apply zp|apply zq));exact HO1010.out)) k_ hn_)),Or.elim hk_ (fun hs_=>hs_.2.2.1) (fun hn_=>(Kd.freshB (g:=gb968) (o:=.cells #[.int .u64 a0_0, .int .u32 a0_1, .slice A0_2 l0_2.length c0_2] 26 (0,0)) (by (with_reducible repeat (first|refine zh ?_ _|refine zj ?_|refine zi ?_ _));exact BK968.out) k_ hn_)),Or.elim hk_ (fun hs_=>hs_.2.2.2.1) (fun hn_=>(Kd.freshB (g:=gb969) (o:=.cells #[.int .u64 a1_0, .int .u32 a1_1, .slice A1_2 l1_2.length c1_2, .int .i64 a1_3] 43 (0,0)) (by (with_reducible repeat (first|refine zh ?_ _|refine zj ?_|refine zi ?_ _));exact BK969.out) k_ hn_)),Or.elim hk_ (fun hs_=>hs_.2.2.2.2.1) (fun hn_=>(Kd.freshB (g:=gb978) (o:=.cells #[.int .u64 t972, .int .u32 t973, .slice Ao32 t974.length co32] 26 (0,0)) (by (with_reducible repeat (first|refine zh ?_ _|refine zj ?_|refine zi ?_ _));exact BK978.out) k_ hn_)),Or.elim hk_ (fun hs_=>hs_.2.2.2.2.2.1) (fun hn_=>(Kd.freshB (g:=gb985) (o:=.cells #[.int .u64 t979, .int .u32 t980, .slice Ao41 t981.length co41] 26 (0,0)) (by (with_reducible repeat (first|refine zh ?_ _|refine zj ?_|refine zi ?_ _));exact BK985.out) k_ hn_)),Or.elim hk_ (fun hs_=>hs_.2.2.2.2.2.2.1) (fun hn_=>(Kd.freshB (g:=gb1001) (o:=.cells #[.int .u64 t991, .int .u32 t992, .slice Ao74 t993.length co74, .int .i64 t996] 43 (0,0)) (by (with_reducible repeat (first|refine zh ?_ _|refine zj ?_|refine zi ?_ _));exact BK1001.out) k_ hn_)),Or.elim hk_ (fun hs_=>hs_.2.2.2.2.2.2.2) (fun hn_=>(Kd.freshB (g:=gb1012) (o:=.cells #[.int .u64 t1002, .int .u32 t1003, .slice Ao85 t1004.length co85, .int .i64 t1007] 43 (0,0)) (by (with_reducible repeat (first|refine zh ?_ _|refine zj ?_|refine zi ?_ _));exact BK1012.out) k_ hn_))⟩)) (zE (by repeat (first|(with_reducible first|exact HB.out|apply ze|apply zd|apply zf|refine zk ?_ GE968.out|refine zk ?_ GE969.out|refine zk ?_ GE978.out|refine zk ?_ GE985.out|refine zk ?_ GE1001.out|refine zk ?_ GE1012.out)|exact HB.out))))
           have n7_:=zm (zF (g:=gb968) (o:=.cells #[.int .u64 a0_0, .int .u32 a0_1, .slice A0_2 l0_2.length c0_2] 26 (0,0)) (by (with_reducible repeat (first|refine zh ?_ _|refine zj ?_|refine zi ?_ _));exact BK968.out) hb)
           have n8_:=zm (zF (g:=gb969) (o:=.cells #[.int .u64 a1_0, .int .u32 a1_1, .slice A1_2 l1_2.length c1_2, .int .i64 a1_3] 43 (0,0)) (by (with_reducible repeat (first|refine zh ?_ _|refine zj ?_|refine zi ?_ _));exact BK969.out) hb)
           have n9_:=zm (zF (g:=gb978) (o:=.cells #[.int .u64 t972, .int .u32 t973, .slice Ao32 t974.length co32] 26 (0,0)) (by (with_reducible repeat (first|refine zh ?_ _|refine zj ?_|refine zi ?_ _));exact BK978.out) hb)
           have n10_:=zm (zF (g:=gb985) (o:=.cells #[.int .u64 t979, .int .u32 t980, .slice Ao41 t981.length co41] 26 (0,0)) (by (with_reducible repeat (first|refine zh ?_ _|refine zj ?_|refine zi ?_ _));exact BK985.out) hb)
           have n11_:=zm (zF (g:=gb1001) (o:=.cells #[.int .u64 t991, .int .u32 t992, .slice Ao74 t993.length co74, .int .i64 t996] 43 (0,0)) (by (with_reducible repeat (first|refine zh ?_ _|refine zj ?_|refine zi ?_ _));exact BK1001.out) hb)
           have n12_:=zm (zF (g:=gb1012) (o:=.cells #[.int .u64 t1002, .int .u32 t1003, .slice Ao85 t1004.length co85, .int .i64 t1007] 43 (0,0)) (by (with_reducible repeat (first|refine zh ?_ _|refine zj ?_|refine zi ?_ _));exact BK1012.out) hb)
           have n13_:=zm (zJ (by repeat (first|(with_reducible first|exact HB.out|apply ze|apply zd|apply zf|refine zk ?_ GE968.out|refine zk ?_ GE969.out|refine zk ?_ GE978.out|refine zk ?_ GE985.out|refine zk ?_ GE1001.out|refine zk ?_ GE1012.out)|exact HB.out)) hb)
           clear HO_979002;clear HO_986002;clear HO995;clear HO999;clear HO1006;clear HO1010;clear BK968;clear BK969;clear BK978;clear BK985;clear BK1001;clear BK1012;clear HB;have HO_979002:=n0_;have HO_986002:=n1_;have HO995:=n2_;have HO999:=n3_;have HO1006:=n4_;have HO1010:=n5_;have HO1018:=n6_;have BK968:=n7_;have BK969:=n8_;have BK978:=n9_;have BK985:=n10_;have BK1001:=n11_;have BK1012:=n12_;have HB:=n13_;clear n0_ n1_ n2_ n3_ n4_ n5_ n6_ n7_ n8_ n9_ n10_ n11_ n12_ n13_
           (try clear hb)
           (try clear hb2)
           (try clear hk)
           (try clear hi)
           (try clear ho0)
           obtain ⟨Ao91,co91,eo91⟩:=Kd.V_slice HO1018.out
           (first|subst eo91|(injection eo91 with f1_ f2_ f3_;have f4_:=f1_.symm;have f5_:=f3_.symm;clear f1_ f2_ f3_;subst f4_;subst f5_))
           refine hK.out _ _ ⟨(zs BK1001.out 0).trans rfl,(zs BK1001.out 1).trans rfl,(zs BK1001.out 2).trans rfl,(zs BK1001.out 3).trans rfl,(zs BK1012.out 0).trans rfl,(zs BK1012.out 1).trans rfl,(zs BK1012.out 2).trans rfl,(zs BK1012.out 3).trans rfl⟩ (fun hHeld => ?_)
           clear hK K
           refine norm_ (a' := ?_) ?_ ?_
           rotate_left
           ·
            show Act.put _ (some 84) _=_
            simp only [Act.put,List.setIfInBounds_toArray,List.set_cons_zero,List.set_cons_succ,i64_w,i32_w]
            rfl
           refine one_ (i:=15) (N:=some 85) #[true,true,true,true,true,true,true,true,true,true,true,true,true,true,true,true,false,false,false,false,false] rfl rfl (one_of HT_.out (by kernel_rfl)) (by decide) (fun K hK => ?_)
           refine goes_ Try.func25 (by kernel_rfl) rfl #[.agg #[.int .u64 t991, .int .u32 t992, .slice Ao74 t993.length co74, .int .i64 t996], .agg #[.int .u64 t1014, .int .u64 t1015, .slice Ao91 t1016.length co91, .int .i64 t1019]] (by rfl) rfl rfl (by (try simp only [List.map_toArray,List.map_cons,List.map_nil]);first|done|rfl|(simp only [List.length_drop,List.length_take];rfl)) ?_
           with_reducible refine (psalterylaw05_SameDec.calls t991 t992 _ _ t993 t996 t1014 t1015 _ _ t1016 t1019 true _ ?side1 ?side2 ?side3 ?side4 A60.out).mono ?_
           (case side1=>repeat (first|exact (Kd.V_reads' HO995.out).2.2|(with_reducible refine Kd.C_alloc ?_ _)|(with_reducible refine Kd.C_drewN ?_ _)|(with_reducible refine Kd.C_drew ?_)))
           (case side2=>exact (Kd.V_reads' HO995.out).2.1)
           (case side3=>repeat (first|exact (Kd.V_reads' HO1018.out).2.2|(with_reducible refine Kd.C_alloc ?_ _)|(with_reducible refine Kd.C_drewN ?_ _)|(with_reducible refine Kd.C_drew ?_)))
           (case side4=>exact (Kd.V_reads' HO1018.out).2.1)
           rintro e w92 ⟨rfl,hb⟩
           refine ⟨_,rfl, ?_⟩
           have n0_:=zm (Kd.V_below (by (with_reducible repeat (first|apply zA|apply zB|apply zC));exact HO_979002.out) hb)
           have n1_:=zm (Kd.V_below (by (with_reducible repeat (first|apply zA|apply zB|apply zC));exact HO_986002.out) hb)
           have n2_:=zm (Kd.V_below (by (with_reducible repeat (first|apply zA|apply zB|apply zC));exact HO995.out) hb)
           have n3_:=zm (Kd.R_below (by (with_reducible repeat (first|apply zo|apply zp|apply zq));exact HO999.out) hb)
           have n4_:=zm (Kd.V_below (by (with_reducible repeat (first|apply zA|apply zB|apply zC));exact HO1006.out) hb)
           have n5_:=zm (Kd.R_below (by (with_reducible repeat (first|apply zo|apply zp|apply zq));exact HO1010.out) hb)
           have n6_:=zm (Kd.V_below (by (with_reducible repeat (first|apply zA|apply zB|apply zC));exact HO1018.out) hb)
           have n7_:=zm (zF (g:=gb968) (o:=.cells #[.int .u64 a0_0, .int .u32 a0_1, .slice A0_2 l0_2.length c0_2] 26 (0,0)) (by (with_reducible repeat (first|refine zh ?_ _|refine zj ?_|refine zi ?_ _));exact BK968.out) hb)
           have n8_:=zm (zF (g:=gb969) (o:=.cells #[.int .u64 a1_0, .int .u32 a1_1, .slice A1_2 l1_2.length c1_2, .int .i64 a1_3] 43 (0,0)) (by (with_reducible repeat (first|refine zh ?_ _|refine zj ?_|refine zi ?_ _));exact BK969.out) hb)
           have n9_:=zm (zF (g:=gb978) (o:=.cells #[.int .u64 t972, .int .u32 t973, .slice Ao32 t974.length co32] 26 (0,0)) (by (with_reducible repeat (first|refine zh ?_ _|refine zj ?_|refine zi ?_ _));exact BK978.out) hb)
           have n10_:=zm (zF (g:=gb985) (o:=.cells #[.int .u64 t979, .int .u32 t980, .slice Ao41 t981.length co41] 26 (0,0)) (by (with_reducible repeat (first|refine zh ?_ _|refine zj ?_|refine zi ?_ _));exact BK985.out) hb)
           have n11_:=zm (zF (g:=gb1001) (o:=.cells #[.int .u64 t991, .int .u32 t992, .slice Ao74 t993.length co74, .int .i64 t996] 43 (0,0)) (by (with_reducible repeat (first|refine zh ?_ _|refine zj ?_|refine zi ?_ _));exact BK1001.out) hb)
           have n12_:=zm (zF (g:=gb1012) (o:=.cells #[.int .u64 t1002, .int .u32 t1003, .slice Ao85 t1004.length co85, .int .i64 t1007] 43 (0,0)) (by (with_reducible repeat (first|refine zh ?_ _|refine zj ?_|refine zi ?_ _));exact BK1012.out) hb)
           have n13_:=zm (zJ (by repeat (first|(with_reducible first|exact HB.out|apply ze|apply zd|apply zf|refine zk ?_ GE968.out|refine zk ?_ GE969.out|refine zk ?_ GE978.out|refine zk ?_ GE985.out|refine zk ?_ GE1001.out|refine zk ?_ GE1012.out)|exact HB.out)) hb)
           clear HO_979002;clear HO_986002;clear HO995;clear HO999;clear HO1006;clear HO1010;clear HO1018;clear BK968;clear BK969;clear BK978;clear BK985;clear BK1001;clear BK1012;clear HB;have HO_979002:=n0_;have HO_986002:=n1_;have HO995:=n2_;have HO999:=n3_;have HO1006:=n4_;have HO1010:=n5_;have HO1018:=n6_;have BK968:=n7_;have BK969:=n8_;have BK978:=n9_;have BK985:=n10_;have BK1001:=n11_;have BK1012:=n12_;have HB:=n13_;clear n0_ n1_ n2_ n3_ n4_ n5_ n6_ n7_ n8_ n9_ n10_ n11_ n12_ n13_
           (try clear hb)
           (try clear hb2)
           (try clear hk)
           (try clear hi)
           refine hK.out _ _ ⟨(zs BK1001.out 0).trans rfl,(zs BK1001.out 1).trans rfl,(zs BK1001.out 2).trans rfl,(zs BK1001.out 3).trans rfl,(zs BK1012.out 0).trans rfl,(zs BK1012.out 1).trans rfl,(zs BK1012.out 2).trans rfl,(zs BK1012.out 3).trans rfl⟩ (fun hHeld => ?_)
           clear hK K
           refine norm_ (a' := ?_) ?_ ?_
           rotate_left
           ·
            show Act.put _ (some 85) _=_
            simp only [Act.put,List.setIfInBounds_toArray,List.set_cons_zero,List.set_cons_succ,i64_w,i32_w]
            rfl
           refine pure_ (i:=16) (N:=some 86) (v := ?_) (a' := ?_) #[true,true,true,true,true,true,true,true,true,true,true,true,true,true,true,true,true,false,false,false,false] rfl rfl (any_of HT_.out (by kernel_rfl)) (fun _ _ _ h=>h) (Or.inl ⟨by rfl, ?_⟩) ?_ ?_
           rotate_left
           ·
            intro w'
            go_simp
            with_reducible rfl
           rotate_left
           ·
            simp only [Act.put,List.setIfInBounds_toArray,List.set_cons_zero,List.set_cons_succ,i64_w,i32_w]
            rfl
           refine pure_ (i:=17) (N:=some 87) (v := ?_) (a' := ?_) #[true,true,true,true,true,true,true,true,true,true,true,true,true,true,true,true,true,true,false,false,false] rfl rfl (any_of HT_.out (by kernel_rfl)) (fun _ _ _ h=>h) (Or.inl ⟨by rfl, ?_⟩) ?_ ?_
           rotate_left
           ·
            intro w'
            go_simp
            with_reducible rfl
           rotate_left
           ·
            simp only [Act.put,List.setIfInBounds_toArray,List.set_cons_zero,List.set_cons_succ,i64_w,i32_w]
            rfl
           refine one_ (i:=18) (N:=some 88) #[true,true,true,true,true,true,true,true,true,true,true,true,true,true,true,true,true,true,true,false,false] rfl rfl (one_of HT_.out (by kernel_rfl)) (by decide) (fun K hK => ?_)
           refine goes_ Try.func42 (by kernel_rfl) rfl #[] (by rfl) rfl rfl (by (try simp only [List.map_toArray,List.map_cons,List.map_nil]);first|done|rfl|(simp only [List.length_drop,List.length_take];rfl)) ?_
           with_reducible refine (psalterylaw11_knows.calls kj23  t1021 _ A62.out).mono ?_
           rintro e w93 ⟨rfl,hb⟩
           refine ⟨_,rfl, ?_⟩
           have n0_:=zm (Kd.V_below (by (with_reducible repeat (first|apply zA|apply zB|apply zC));exact HO_979002.out) hb)
           have n1_:=zm (Kd.V_below (by (with_reducible repeat (first|apply zA|apply zB|apply zC));exact HO_986002.out) hb)
           have n2_:=zm (Kd.V_below (by (with_reducible repeat (first|apply zA|apply zB|apply zC));exact HO995.out) hb)
           have n3_:=zm (Kd.R_below (by (with_reducible repeat (first|apply zo|apply zp|apply zq));exact HO999.out) hb)
           have n4_:=zm (Kd.V_below (by (with_reducible repeat (first|apply zA|apply zB|apply zC));exact HO1006.out) hb)
           have n5_:=zm (Kd.R_below (by (with_reducible repeat (first|apply zo|apply zp|apply zq));exact HO1010.out) hb)
           have n6_:=zm (Kd.V_below (by (with_reducible repeat (first|apply zA|apply zB|apply zC));exact HO1018.out) hb)
           have n7_:=zm (zF (g:=gb968) (o:=.cells #[.int .u64 a0_0, .int .u32 a0_1, .slice A0_2 l0_2.length c0_2] 26 (0,0)) (by (with_reducible repeat (first|refine zh ?_ _|refine zj ?_|refine zi ?_ _));exact BK968.out) hb)
           have n8_:=zm (zF (g:=gb969) (o:=.cells #[.int .u64 a1_0, .int .u32 a1_1, .slice A1_2 l1_2.length c1_2, .int .i64 a1_3] 43 (0,0)) (by (with_reducible repeat (first|refine zh ?_ _|refine zj ?_|refine zi ?_ _));exact BK969.out) hb)
           have n9_:=zm (zF (g:=gb978) (o:=.cells #[.int .u64 t972, .int .u32 t973, .slice Ao32 t974.length co32] 26 (0,0)) (by (with_reducible repeat (first|refine zh ?_ _|refine zj ?_|refine zi ?_ _));exact BK978.out) hb)
           have n10_:=zm (zF (g:=gb985) (o:=.cells #[.int .u64 t979, .int .u32 t980, .slice Ao41 t981.length co41] 26 (0,0)) (by (with_reducible repeat (first|refine zh ?_ _|refine zj ?_|refine zi ?_ _));exact BK985.out) hb)
           have n11_:=zm (zF (g:=gb1001) (o:=.cells #[.int .u64 t991, .int .u32 t992, .slice Ao74 t993.length co74, .int .i64 t996] 43 (0,0)) (by (with_reducible repeat (first|refine zh ?_ _|refine zj ?_|refine zi ?_ _));exact BK1001.out) hb)
           have n12_:=zm (zF (g:=gb1012) (o:=.cells #[.int .u64 t1002, .int .u32 t1003, .slice Ao85 t1004.length co85, .int .i64 t1007] 43 (0,0)) (by (with_reducible repeat (first|refine zh ?_ _|refine zj ?_|refine zi ?_ _));exact BK1012.out) hb)
           have n13_:=zm (zJ (by repeat (first|(with_reducible first|exact HB.out|apply ze|apply zd|apply zf|refine zk ?_ GE968.out|refine zk ?_ GE969.out|refine zk ?_ GE978.out|refine zk ?_ GE985.out|refine zk ?_ GE1001.out|refine zk ?_ GE1012.out)|exact HB.out)) hb)
           clear HO_979002;clear HO_986002;clear HO995;clear HO999;clear HO1006;clear HO1010;clear HO1018;clear BK968;clear BK969;clear BK978;clear BK985;clear BK1001;clear BK1012;clear HB;have HO_979002:=n0_;have HO_986002:=n1_;have HO995:=n2_;have HO999:=n3_;have HO1006:=n4_;have HO1010:=n5_;have HO1018:=n6_;have BK968:=n7_;have BK969:=n8_;have BK978:=n9_;have BK985:=n10_;have BK1001:=n11_;have BK1012:=n12_;have HB:=n13_;clear n0_ n1_ n2_ n3_ n4_ n5_ n6_ n7_ n8_ n9_ n10_ n11_ n12_ n13_
           (try clear hb)
           (try clear hb2)
           (try clear hk)
           (try clear hi)
           refine hK.out _ _ ⟨(zs BK1001.out 0).trans rfl,(zs BK1001.out 1).trans rfl,(zs BK1001.out 2).trans rfl,(zs BK1001.out 3).trans rfl,(zs BK1012.out 0).trans rfl,(zs BK1012.out 1).trans rfl,(zs BK1012.out 2).trans rfl,(zs BK1012.out 3).trans rfl⟩ (fun hHeld => ?_)
           clear hK K
           refine norm_ (a' := ?_) ?_ ?_
           rotate_left
           ·
            show Act.put _ (some 88) _=_
            simp only [Act.put,List.setIfInBounds_toArray,List.set_cons_zero,List.set_cons_succ,i64_w,i32_w]
            rfl
           refine pure_ (i:=19) (N:=some 89) (v := ?_) (a' := ?_) #[true,true,true,true,true,true,true,true,true,true,true,true,true,true,true,true,true,true,true,true,false] rfl rfl (any_of HT_.out (by kernel_rfl)) (fun _ _ _ h=>h) (Or.inl ⟨by rfl, ?_⟩) ?_ ?_
           rotate_left
           ·
            intro w'
            go_simp
            with_reducible rfl
           rotate_left
           ·
            simp only [Act.put,List.setIfInBounds_toArray,List.set_cons_zero,List.set_cons_succ,i64_w,i32_w]
            rfl
           refine pure_ (i:=20) (N:=some 10) (v := ?_) (a' := ?_) #[true,true,true,true,true,true,true,true,true,true,true,true,true,true,true,true,true,true,true,true,true] rfl rfl (any_of HT_.out (by kernel_rfl)) (fun _ _ _ h=>h) (Or.inl ⟨by rfl, ?_⟩) ?_ ?_
           rotate_left
           ·
            intro w'
            go_simp
            with_reducible rfl
           rotate_left
           ·
            simp only [Act.put,List.setIfInBounds_toArray,List.set_cons_zero,List.set_cons_succ,i64_w,i32_w]
            rfl
           refine done_ (done_of HT_.out (by kernel_rfl)) ?_
           try go_wp2
           go_ret
           exact ⟨by first|rfl|(simp [errW_none,errW_some] <;> rfl)|(simp [*,errW_none,errW_some] <;> rfl),by repeat (first|(with_reducible first|exact HB.out|apply ze|apply zd|apply zf|refine zk ?_ GE968.out|refine zk ?_ GE969.out|refine zk ?_ GE978.out|refine zk ?_ GE985.out|refine zk ?_ GE1001.out|refine zk ?_ GE1012.out)|exact HB.out)⟩
          ·
           replace c61:=Bool.eq_false_iff.mpr c61
           subst c61
           have H1 : (none)=some r:=by rw [if_neg (show ¬ (false=true) by decide)] at H;exact H
           clear H;have H:=H1;clear H1
           exact absurd H (by simp)
         ·
          replace c58:=Bool.eq_false_iff.mpr c58
          subst c58
          have H1 : (none)=some r:=by rw [if_neg (show ¬ (false=true) by decide)] at H;exact H
          clear H;have H:=H1;clear H1
          exact absurd H (by simp)
        ·
         rw [if_neg c56] at H
         have c56b0 : (t1011 == 0)=false:=beq_eq_false_iff_ne.mpr c56
         have c56b1 : (t1011 != 0)=true:=bne_iff_ne.mpr c56
         exact absurd H (by simp)
       ·
        rw [if_neg c55] at H
        have c55b0 : (t1000 == 0)=false:=beq_eq_false_iff_ne.mpr c55
        have c55b1 : (t1000 != 0)=true:=bne_iff_ne.mpr c55
        exact absurd H (by simp)

end Go.Proofs.Ytkaoiblgfpphoaa.Prt
