-- Functions of the program and of the document as plain Lean, each with the proof that the code comes to it. Written by a program of this session (wip/tools/myprint.py, pack.py) over the kit's printer; Lean checks it.
import Derived.Test.YtkaoiblgfpphoaaZGainPutsPrt0
import Derived.Test.YtkaoiblgfpphoaaZGainPutsM1
namespace Go.Proofs.Ytkaoiblgfpphoaa.Prt
open Go.RowKit Go.Proofs.YtkaoiblgfpphoaaW.PrintWords Go.Proofs.YtkaoiblgfpphoaaW.PrintLast Go.Proofs.YtkaoiblgfpphoaaW.PrintMore
attribute [local go_sem] max2_int min2_int max_two min_two max_three min_three max_four min_four   -- for this text's walks alone
set_option linter.unusedVariables false
set_option linter.unusedSimpArgs false

/-! ### gain_Put: function 43 -/
mutual
def gain_Put.j0 : Nat→List Int→List Int→Bool→Bool→Int→Int→List Int→Int→Int→List Int→Option (Int × Int × List Int × Int)
 | 0,_,_,_,_,_,_,_,_,_,_=>none
 | k+1,x1,x2,x3,x33,x690000,x690001,x690002,x698000,x698001,x698002=>if x33=true then (some (x698000,x698001,x698002,1)) else (gain_Put.l0 k x1 x2 x3 0 x698000 x698001 x698002 x690000 x690001 x690002)
def gain_Put.l0 : Nat→List Int→List Int→Bool→Int→Int→Int→List Int→Int→Int→List Int→Option (Int × Int × List Int × Int)
 | 0,_,_,_,_,_,_,_,_,_,_=>none
 | k+1,x1,x2,x3,x36,x698000,x698001,x698002,x701000,x701001,x701002=>if x36 < 5 then (if x3=true then (gain_Put.j2 k x1 x2 x3 x36 0 x36 x698000 x698001 x698002 x701000 x701001 x701002) else (if 0≤x36 then (if x36 < (x2.length : Int) then (gain_Put.j2 k x1 x2 x3 x36 (rd x2 x36) x36 x698000 x698001 x698002 x701000 x701001 x701002) else (none)) else (none))) else (some (x701000,x701001,x701002,0))
def gain_Put.j2 : Nat→List Int→List Int→Bool→Int→Int→Int→Int→Int→List Int→Int→Int→List Int→Option (Int × Int × List Int × Int)
 | 0,_,_,_,_,_,_,_,_,_,_,_,_=>none
 | k+1,x1,x2,x3,x13,x14,x36,x698000,x698001,x698002,x701000,x701001,x701002=>if 0≤x13 then (if x13 < (x1.length : Int) then ((gain_put.f k x701000 x701001 x701002 (rd x1 x13) x14 x3).bind fun bt703=>(if bt703.2.2.2=0 then (gain_Put.l0 k x1 x2 x3 (wrap64 (x36+1)) x698000 x698001 x698002 bt703.1 bt703.2.1 bt703.2.2.1) else (some (x698000,x698001,x698002,bt703.2.2.2)))) else (none)) else (none)
end
def gain_Put.f (k : Nat) (a0_0 : Int) (a0_1 : Int) (l0_2 : List Int) (l1 : List Int) (l2 : List Int) (a3 : Bool) : Option (Int × Int × List Int × Int):=(coder_Put.f k a0_0 a0_1 l0_2 0 1 0).bind fun bt691=>((gain_Right.f k l1).bind fun t698=>(if t698=true then (if a3=true then (gain_Put.j0 k l1 l2 a3 false a0_0 a0_1 l0_2 bt691.1 bt691.2.1 bt691.2.2.1) else ((gain_Right.f k l2).bind fun t699=>(gain_Put.j0 k l1 l2 a3 (!t699) a0_0 a0_1 l0_2 bt691.1 bt691.2.1 bt691.2.2.1))) else (gain_Put.j0 k l1 l2 a3 true a0_0 a0_1 l0_2 bt691.1 bt691.2.1 bt691.2.2.1)))
theorem gain_Put.mono_l : ∀ k,(∀ y0 y1 y2 y3 y4 y5 y6 y7 y8 y9,LeO (gain_Put.j0 k y0 y1 y2 y3 y4 y5 y6 y7 y8 y9) (gain_Put.j0 (k+1) y0 y1 y2 y3 y4 y5 y6 y7 y8 y9))∧(∀ y0 y1 y2 y3 y4 y5 y6 y7 y8 y9,LeO (gain_Put.l0 k y0 y1 y2 y3 y4 y5 y6 y7 y8 y9) (gain_Put.l0 (k+1) y0 y1 y2 y3 y4 y5 y6 y7 y8 y9))∧(∀ y0 y1 y2 y3 y4 y5 y6 y7 y8 y9 y10 y11,LeO (gain_Put.j2 k y0 y1 y2 y3 y4 y5 y6 y7 y8 y9 y10 y11) (gain_Put.j2 (k+1) y0 y1 y2 y3 y4 y5 y6 y7 y8 y9 y10 y11))
 | 0=>⟨fun _ _ _ _ _ _ _ _ _ _ r h=>by simp [gain_Put.j0] at h,fun _ _ _ _ _ _ _ _ _ _ r h=>by simp [gain_Put.l0] at h,fun _ _ _ _ _ _ _ _ _ _ _ _ r h=>by simp [gain_Put.j2] at h⟩
 | k+1=>by
  obtain ⟨ih0,ih1,ih2⟩:=gain_Put.mono_l k
  refine ⟨?_, ?_, ?_⟩
  ·
   intro y0 y1 y2 y3 y4 y5 y6 y7 y8 y9
   unfold gain_Put.j0
   repeat' first
   | (with_reducible exact ih0 _ _ _ _ _ _ _ _ _ _)
   | (with_reducible exact ih1 _ _ _ _ _ _ _ _ _ _)
   | (with_reducible exact ih2 _ _ _ _ _ _ _ _ _ _ _ _)
   | (with_reducible exact coder_Put.mono _ _ _ _ _ _ _)
   | (with_reducible exact gain_Right.mono _ _)
   | (with_reducible exact gain_put.mono _ _ _ _ _ _ _)
   | (with_reducible exact LeO.refl _)
   | (with_reducible exact LeO.none _)
   | (with_reducible refine LeO.ite ?_ ?_)
   | (with_reducible refine LeO.bind ?_ (fun _ => ?_))
   | exact ih0 _ _ _ _ _ _ _ _ _ _
   | exact ih1 _ _ _ _ _ _ _ _ _ _
   | exact ih2 _ _ _ _ _ _ _ _ _ _ _ _
   | exact coder_Put.mono _ _ _ _ _ _ _
   | exact gain_Right.mono _ _
   | exact gain_put.mono _ _ _ _ _ _ _
   | exact LeO.none _
   | refine LeO.ite ?_ ?_
   | refine LeO.bind ?_ (fun _ => ?_)
  ·
   intro y0 y1 y2 y3 y4 y5 y6 y7 y8 y9
   unfold gain_Put.l0
   repeat' first
   | (with_reducible exact ih0 _ _ _ _ _ _ _ _ _ _)
   | (with_reducible exact ih1 _ _ _ _ _ _ _ _ _ _)
   | (with_reducible exact ih2 _ _ _ _ _ _ _ _ _ _ _ _)
   | (with_reducible exact coder_Put.mono _ _ _ _ _ _ _)
   | (with_reducible exact gain_Right.mono _ _)
   | (with_reducible exact gain_put.mono _ _ _ _ _ _ _)
   | (with_reducible exact LeO.refl _)
   | (with_reducible exact LeO.none _)
   | (with_reducible refine LeO.ite ?_ ?_)
   | (with_reducible refine LeO.bind ?_ (fun _ => ?_))
   | exact ih0 _ _ _ _ _ _ _ _ _ _
   | exact ih1 _ _ _ _ _ _ _ _ _ _
   | exact ih2 _ _ _ _ _ _ _ _ _ _ _ _
   | exact coder_Put.mono _ _ _ _ _ _ _
   | exact gain_Right.mono _ _
   | exact gain_put.mono _ _ _ _ _ _ _
   | exact LeO.none _
   | refine LeO.ite ?_ ?_
   | refine LeO.bind ?_ (fun _ => ?_)
  ·
   intro y0 y1 y2 y3 y4 y5 y6 y7 y8 y9 y10 y11
   unfold gain_Put.j2
   repeat' first
   | (with_reducible exact ih0 _ _ _ _ _ _ _ _ _ _)
   | (with_reducible exact ih1 _ _ _ _ _ _ _ _ _ _)
   | (with_reducible exact ih2 _ _ _ _ _ _ _ _ _ _ _ _)
   | (with_reducible exact coder_Put.mono _ _ _ _ _ _ _)
   | (with_reducible exact gain_Right.mono _ _)
   | (with_reducible exact gain_put.mono _ _ _ _ _ _ _)
   | (with_reducible exact LeO.refl _)
   | (with_reducible exact LeO.none _)
   | (with_reducible refine LeO.ite ?_ ?_)
   | (with_reducible refine LeO.bind ?_ (fun _ => ?_))
   | exact ih0 _ _ _ _ _ _ _ _ _ _
   | exact ih1 _ _ _ _ _ _ _ _ _ _
   | exact ih2 _ _ _ _ _ _ _ _ _ _ _ _
   | exact coder_Put.mono _ _ _ _ _ _ _
   | exact gain_Right.mono _ _
   | exact gain_put.mono _ _ _ _ _ _ _
   | exact LeO.none _
   | refine LeO.ite ?_ ?_
   | refine LeO.bind ?_ (fun _ => ?_)
theorem gain_Put.mono : ∀ a0 a1 a2 a3 a4 a5 k,LeO (gain_Put.f k a0 a1 a2 a3 a4 a5) (gain_Put.f (k+1) a0 a1 a2 a3 a4 a5):=by
 intro a0 a1 a2 a3 a4 a5 k
 obtain ⟨ih0,ih1,ih2⟩:=gain_Put.mono_l k
 unfold gain_Put.f
 repeat' first
   | (with_reducible exact ih0 _ _ _ _ _ _ _ _ _ _)
   | (with_reducible exact ih1 _ _ _ _ _ _ _ _ _ _)
   | (with_reducible exact ih2 _ _ _ _ _ _ _ _ _ _ _ _)
   | (with_reducible exact coder_Put.mono _ _ _ _ _ _ _)
   | (with_reducible exact gain_Right.mono _ _)
   | (with_reducible exact gain_put.mono _ _ _ _ _ _ _)
   | (with_reducible exact LeO.refl _)
   | (with_reducible exact LeO.none _)
   | (with_reducible refine LeO.ite ?_ ?_)
   | (with_reducible refine LeO.bind ?_ (fun _ => ?_))
   | exact ih0 _ _ _ _ _ _ _ _ _ _
   | exact ih1 _ _ _ _ _ _ _ _ _ _
   | exact ih2 _ _ _ _ _ _ _ _ _ _ _ _
   | exact coder_Put.mono _ _ _ _ _ _ _
   | exact gain_Right.mono _ _
   | exact gain_put.mono _ _ _ _ _ _ _
   | exact LeO.none _
   | refine LeO.ite ?_ ?_
   | refine LeO.bind ?_ (fun _ => ?_)
def gain_Put.T11 : Bool × List (List Nat × List Nat):=(true, [([], []),([], []),([], []),([1,2], [1,2]),([3], [3]),([], []),([], []),([0,4,5,6], [0,4,5,6]),([7], [7]),([8], [8]),([8], [8]),([], []),([11,9,7,0,1,2,3,4,5,6,7,8,9,11], [9,11]),([10,12,0,1,2,3,4,5,6,7,8,9,10,11,12], [10])])
def gain_Put.B11 : List Nat := [0,0,0,6,14,0,0,127,255,511,511,0,3071,8191]
theorem gain_Put.tab11 : rtab .any (opsOf Try.f43 11)=gain_Put.T11:=by kernel_rfl
theorem gain_Put.bits11 : waitsOk gain_Put.T11.2 gain_Put.B11=true:=by kernel_rfl
set_option maxHeartbeats 8000000 in
set_option maxRecDepth 100000 in
theorem gain_Put.calls (k : Nat) (a0_0 : Int) (a0_1 : Int) (P0_2_ : Nat→Prop) (A0_2 : Option Addr) (c0_2 : Nat) (l0_2 : List Int) (A1 : Option Addr) (c1 : Nat) (l1 : List Int) (A2 : Option Addr) (c2 : Nat) (l2 : List Int) (a3 : Bool) (r1 : Int) (r2 : Int) (r3 : List Int) (r4 : Int) (w : World) (hs0_2 : Kd.V (Kd.int .u8) 5 w w.heap.size (fun k_=>P0_2_ k_) (.slice A0_2 l0_2.length c0_2) l0_2) (hr1 : Kd.C (Kd.int .i64) w A1 l1.length l1) (hc1 : l1.length≤c1) (hr2 : Kd.C (Kd.int .i64) w A2 l2.length l2) (hc2 : l2.length≤c2) (h : gain_Put.f k a0_0 a0_1 l0_2 l1 l2 a3=some (r1,r2,r3,r4)) :
  Calls Try.prog 43 #[.agg #[.int .u64 a0_0, .int .u32 a0_1, .slice A0_2 l0_2.length c0_2], .slice A1 l1.length c1, .slice A2 l2.length c2, .bool a3] w fun e w' => ∃ v2_ : Value,e=.returned (.tuple #[.agg #[.int .u64 r1, .int .u32 r2,v2_], .int .i64 r4])∧Kd.V (Kd.int .u8) 5 w' w.heap.size (fun k_=>(P0_2_ k_∨w.heap.size≤k_)) v2_ r3∧Below w.heap.size w w' := by
 have hu26:=Try.underlying26
 have HO0_2:=zm (show Kd.V (Kd.int .u8) 5 w w.heap.size (fun k_=>(P0_2_ k_∨w.heap.size≤k_)) (.slice A0_2 l0_2.length c0_2) l0_2 from zy hs0_2 (fun k_ hk => .inl hk))
 have HR1:=zm hr1;have HC1:=zm hc1;clear hr1 hc1;have HR2:=zm hr2;have HC2:=zm hc2;clear hr2 hc2;have HB:=zm (Below.refl w.heap.size w)
 have H : ((coder_Put.f k a0_0 a0_1 l0_2 0 1 0).bind fun bt691=>((gain_Right.f k l1).bind fun t698=>(if t698=true then (if a3=true then (gain_Put.j0 k l1 l2 a3 false a0_0 a0_1 l0_2 bt691.1 bt691.2.1 bt691.2.2.1) else ((gain_Right.f k l2).bind fun t699=>(gain_Put.j0 k l1 l2 a3 (!t699) a0_0 a0_1 l0_2 bt691.1 bt691.2.1 bt691.2.2.1))) else (gain_Put.j0 k l1 l2 a3 true a0_0 a0_1 l0_2 bt691.1 bt691.2.1 bt691.2.2.1))))=some (r1,r2,r3,r4):=h
 clear h
 replace H:=Option.bind_eq_some_iff.mp H
 obtain ⟨⟨t691,t692,t693,t696⟩,A50,H⟩:=H
 replace H : ((gain_Right.f k l1).bind fun t698=>(if t698=true then (if a3=true then (gain_Put.j0 k l1 l2 a3 false a0_0 a0_1 l0_2 t691 t692 t693) else ((gain_Right.f k l2).bind fun t699=>(gain_Put.j0 k l1 l2 a3 (!t699) a0_0 a0_1 l0_2 t691 t692 t693))) else (gain_Put.j0 k l1 l2 a3 true a0_0 a0_1 l0_2 t691 t692 t693)))=some (r1,r2,r3,r4):=H
 have A5:=zm A50;clear A50;have HC6:=zm H;clear H
 go_enter Try.func43,Try.ntmps43
 go_upto_region 2 with (first|((with_reducible refine gate_dst (N:=4) rfl ?_);refine box_event ?hg (N:=4) ?hd (cs := #[.int .u64 a0_0, .int .u32 a0_1, .slice A0_2 l0_2.length c0_2]) (t:=26) ?hr ?_;(case hd=>rfl);(case hg=>rfl);(case hr=>first|(go_simp;done)|(go_simp;rfl));intro gb689 hg w7 hbox hb;have n0_:=zm (Kd.V_below (Kd.V_elderB (by (with_reducible repeat (first|apply zA|apply zB|apply zC));exact HO0_2.out) gb689 (Nat.le_of_eq hg.symm)) hb);have n1_:=zm (zJ (by repeat (first|(with_reducible first|exact HB.out|apply ze|apply zd|apply zf)|exact HB.out)) hb);have n2_:=zm (hbox);have n3_:=zm ((by rw [hg];exact (zE (by repeat (first|(with_reducible first|exact HB.out|apply ze|apply zd|apply zf)|exact HB.out))) : w.heap.size≤gb689));have n4_:=zm ((by rw [hg];exact (zE (by repeat (first|(with_reducible first|exact HB.out|apply ze|apply zd|apply zf)|exact HB.out))) : w.heap.size≤gb689));clear HO0_2;clear HB;have HO0_2:=n0_;have HB:=n1_;have BK689:=n2_;have GW689:=n3_;have GE689:=n4_;clear n0_ n1_ n2_ n3_ n4_;clear hb hbox hg)|((with_reducible refine gate_dst (N:=8) rfl ?_);refine box_event ?hg (N:=8) ?hd (cs := #[.int .u64 0, .int .u32 0, .slice none 0 0]) (t:=26) ?hr ?_;(case hd=>rfl);(case hg=>rfl);(case hr=>first|(go_simp;done)|(go_simp;rfl));intro gb690 hg w8 hbox hb;have n0_:=zm (Kd.V_below (Kd.V_elderB (by (with_reducible repeat (first|apply zA|apply zB|apply zC));exact HO0_2.out) gb690 (Nat.le_of_eq hg.symm)) hb);have n1_:=zm (zF (g:=gb689) (o:=.cells #[.int .u64 a0_0, .int .u32 a0_1, .slice A0_2 l0_2.length c0_2] 26 (0,0)) (by (with_reducible repeat (first|refine zh ?_ _|refine zj ?_|refine zi ?_ _));exact BK689.out) hb);have n2_:=zm (zJ (by repeat (first|(with_reducible first|exact HB.out|apply ze|apply zd|apply zf|refine zk ?_ GE689.out)|exact HB.out)) hb);have n3_:=zm (hbox);have n4_:=zm ((by rw [hg];exact (zE (by repeat (first|(with_reducible first|exact HB.out|apply ze|apply zd|apply zf|refine zk ?_ GE689.out)|exact HB.out))) : w.heap.size≤gb690));have n5_:=zm ((by rw [hg];exact (zE (by repeat (first|(with_reducible first|exact HB.out|apply ze|apply zd|apply zf|refine zk ?_ GE689.out)|exact HB.out))) : w.heap.size≤gb690));have n6_:=zm ((by rw [hg];exact zn (zD (g:=gb689) (o:=.cells #[.int .u64 a0_0, .int .u32 a0_1, .slice A0_2 l0_2.length c0_2] 26 (0,0)) (by (with_reducible repeat (first|refine zh ?_ _|refine zj ?_|refine zi ?_ _));exact BK689.out)) : gb689≠gb690));have n7_:=zm ((by rw [hg];exact zg (zD (g:=gb689) (o:=.cells #[.int .u64 a0_0, .int .u32 a0_1, .slice A0_2 l0_2.length c0_2] 26 (0,0)) (by (with_reducible repeat (first|refine zh ?_ _|refine zj ?_|refine zi ?_ _));exact BK689.out)) : gb690≠gb689));clear HO0_2;clear BK689;clear HB;have HO0_2:=n0_;have BK689:=n1_;have HB:=n2_;have BK690:=n3_;have GW690:=n4_;have GE690:=n5_;have NB689_690:=n6_;have NB690_689:=n7_;clear n0_ n1_ n2_ n3_ n4_ n5_ n6_ n7_;clear hb hbox hg;have hnb9:=NB689_690.out;have hnc9:=NB690_689.out;have hcz10_0 : w8.cell? ⟨gb689,0,none⟩=some (.int .u64 a0_0):=(zs BK689.out 0).trans rfl;have hcz10_1 : w8.cell? ⟨gb689,1,none⟩=some (.int .u32 a0_1):=(zs BK689.out 1).trans rfl;have hcz10_2 : w8.cell? ⟨gb689,2,none⟩=some (.slice A0_2 l0_2.length c0_2):=(zs BK689.out 2).trans rfl;have hfz10_0:=zx BK689.out 0;have hfz10_1:=zx BK689.out 1;have hfz10_2:=zx BK689.out 2)|((with_reducible refine gate_callee (f:=18) rfl ?_);refine goesL_ (some 19) rfl rfl Try.func18 (by kernel_rfl) rfl #[.agg #[.int .u64 a0_0, .int .u32 a0_1, .slice A0_2 l0_2.length c0_2], .int .i64 0, .int .i64 1, .int .i64 0] rfl (by (try simp only [List.map_toArray,List.map_cons,List.map_nil]);first|done|rfl|(simp only [List.length_drop,List.length_take];rfl)) ?_;(with_reducible refine (coder_Put.calls k a0_0 a0_1 _ _ l0_2 0 1 0 t691 t692 t693 t696 _ ?side1 ?side2 A5.out).mono ?_);(case side1=>repeat (first|exact (Kd.V_reads' HO0_2.out).2.2|(with_reducible refine Kd.C_alloc ?_ _)|(with_reducible refine Kd.C_drewN ?_ _)|(with_reducible refine Kd.C_drew ?_)));(case side2=>exact (Kd.V_reads' HO0_2.out).2.1);rintro e w11 ⟨v694,rfl,ho0,hb⟩;refine ⟨_,rfl, ?_⟩;have n0_:=zm (Kd.V_elder' (by (with_reducible repeat (first|apply zA|apply zB|apply zC));exact HO0_2.out) (Kd.R_base ho0) hb);have n1_:=zm (Kd.R_lower (Kd.R_newM (M:=fun k_=>(w.heap.size≤k_)) ho0 (zE (by repeat (first|(with_reducible first|exact HB.out|apply ze|apply zd|apply zf|refine zk ?_ GE689.out|refine zk ?_ GE690.out)|exact HB.out))) (fun k_ h_=>h_)) (zE (by repeat (first|(with_reducible first|exact HB.out|apply ze|apply zd|apply zf|refine zk ?_ GE689.out|refine zk ?_ GE690.out)|exact HB.out))));have n2_:=zm (zF (g:=gb689) (o:=.cells #[.int .u64 a0_0, .int .u32 a0_1, .slice A0_2 l0_2.length c0_2] 26 (0,0)) (by (with_reducible repeat (first|refine zh ?_ _|refine zj ?_|refine zi ?_ _));exact BK689.out) hb);have n3_:=zm (zF (g:=gb690) (o:=.cells #[.int .u64 0, .int .u32 0, .slice none 0 0] 26 (0,0)) (by (with_reducible repeat (first|refine zh ?_ _|refine zj ?_|refine zi ?_ _));exact BK690.out) hb);have n4_:=zm (zJ (by repeat (first|(with_reducible first|exact HB.out|apply ze|apply zd|apply zf|refine zk ?_ GE689.out|refine zk ?_ GE690.out)|exact HB.out)) hb);clear HO0_2;clear BK689;clear BK690;clear HB;have HO0_2:=n0_;have HO695:=n1_;have BK689:=n2_;have BK690:=n3_;have HB:=n4_;clear n0_ n1_ n2_ n3_ n4_;(try clear hb);(try clear hb2);(try clear hk);(try clear hi);(try clear ho0))|((with_reducible refine gate_dst (N:=10) rfl ?_);refine box_event ?hg (N:=10) ?hd (cs := #[.int .u64 0, .int .u32 0, .slice none 0 0]) (t:=26) ?hr ?_;(case hd=>rfl);(case hg=>rfl);(case hr=>first|(go_simp;done)|(go_simp;rfl));intro gb697 hg w12 hbox hb;have n0_:=zm (Kd.V_below (Kd.V_elderB (by (with_reducible repeat (first|apply zA|apply zB|apply zC));exact HO0_2.out) gb697 (Nat.le_of_eq hg.symm)) hb);have n1_:=zm (Kd.R_below (by (with_reducible repeat (first|apply zo|apply zp|apply zq));exact HO695.out) hb);have n2_:=zm (zF (g:=gb689) (o:=.cells #[.int .u64 a0_0, .int .u32 a0_1, .slice A0_2 l0_2.length c0_2] 26 (0,0)) (by (with_reducible repeat (first|refine zh ?_ _|refine zj ?_|refine zi ?_ _));exact BK689.out) hb);have n3_:=zm (zF (g:=gb690) (o:=.cells #[.int .u64 0, .int .u32 0, .slice none 0 0] 26 (0,0)) (by (with_reducible repeat (first|refine zh ?_ _|refine zj ?_|refine zi ?_ _));exact BK690.out) hb);have n4_:=zm (zJ (by repeat (first|(with_reducible first|exact HB.out|apply ze|apply zd|apply zf|refine zk ?_ GE689.out|refine zk ?_ GE690.out)|exact HB.out)) hb);have n5_:=zm (hbox);have n6_:=zm ((by rw [hg];exact (zE (by repeat (first|(with_reducible first|exact HB.out|apply ze|apply zd|apply zf|refine zk ?_ GE689.out|refine zk ?_ GE690.out)|exact HB.out))) : w.heap.size≤gb697));have n7_:=zm ((by rw [hg];exact (zE (by repeat (first|(with_reducible first|exact HB.out|apply ze|apply zd|apply zf|refine zk ?_ GE689.out|refine zk ?_ GE690.out)|exact HB.out))) : w.heap.size≤gb697));have n8_:=zm ((by rw [hg];exact zn (zD (g:=gb689) (o:=.cells #[.int .u64 a0_0, .int .u32 a0_1, .slice A0_2 l0_2.length c0_2] 26 (0,0)) (by (with_reducible repeat (first|refine zh ?_ _|refine zj ?_|refine zi ?_ _));exact BK689.out)) : gb689≠gb697));have n9_:=zm ((by rw [hg];exact zg (zD (g:=gb689) (o:=.cells #[.int .u64 a0_0, .int .u32 a0_1, .slice A0_2 l0_2.length c0_2] 26 (0,0)) (by (with_reducible repeat (first|refine zh ?_ _|refine zj ?_|refine zi ?_ _));exact BK689.out)) : gb697≠gb689));have n10_:=zm ((by rw [hg];exact zn (zD (g:=gb690) (o:=.cells #[.int .u64 0, .int .u32 0, .slice none 0 0] 26 (0,0)) (by (with_reducible repeat (first|refine zh ?_ _|refine zj ?_|refine zi ?_ _));exact BK690.out)) : gb690≠gb697));have n11_:=zm ((by rw [hg];exact zg (zD (g:=gb690) (o:=.cells #[.int .u64 0, .int .u32 0, .slice none 0 0] 26 (0,0)) (by (with_reducible repeat (first|refine zh ?_ _|refine zj ?_|refine zi ?_ _));exact BK690.out)) : gb697≠gb690));clear HO0_2;clear HO695;clear BK689;clear BK690;clear HB;have HO0_2:=n0_;have HO695:=n1_;have BK689:=n2_;have BK690:=n3_;have HB:=n4_;have BK697:=n5_;have GW697:=n6_;have GE697:=n7_;have NB689_697:=n8_;have NB697_689:=n9_;have NB690_697:=n10_;have NB697_690:=n11_;clear n0_ n1_ n2_ n3_ n4_ n5_ n6_ n7_ n8_ n9_ n10_ n11_;clear hb hbox hg;have hnb13:=NB697_689.out;have hnc13:=NB689_697.out;have hnb14:=NB697_690.out;have hnc14:=NB690_697.out;have hcz15_0 : w12.cell? ⟨gb697,0,none⟩=some (.int .u64 0):=(zs BK697.out 0).trans rfl;have hcz15_1 : w12.cell? ⟨gb697,1,none⟩=some (.int .u32 0):=(zs BK697.out 1).trans rfl;have hcz15_2 : w12.cell? ⟨gb697,2,none⟩=some (.slice none 0 0):=(zs BK697.out 2).trans rfl;have hfz15_0:=zx BK697.out 0;have hfz15_1:=zx BK697.out 1;have hfz15_2:=zx BK697.out 2;obtain ⟨Ao16,co16,eo16⟩:=Kd.R_slice HO695.out;subst eo16))
 (try simp only [Act.put,List.setIfInBounds_toArray,List.set_cons_zero,List.set_cons_succ])
 go_cut [33] (fun v33 wc => ∃ (kq : Nat) (x33_5 : Bool),v33=.bool x33_5∧Aside0 (gain_Put.j0 kq l1 l2 a3 x33_5 a0_0 a0_1 l0_2 t691 t692 t693=some (r1,r2,r3,r4))∧Aside0 (kq≤k)∧Aside0 (Kd.V (Kd.int .u8) 5 wc w.heap.size (fun k_=>(P0_2_ k_∨w.heap.size≤k_)∧some k_≠((.slice Ao16 t693.length co16) : Value).ownBlock∧k_≠gb689∧k_≠gb690∧k_≠gb697) (.slice A0_2 l0_2.length c0_2) l0_2)∧Aside0 (Kd.R (Kd.int .u8) 5 wc w.heap.size (fun k_=>(w.heap.size≤k_)) (.slice Ao16 t693.length co16) t693)∧Aside0 (wc.heap[gb689]? = some (.cells #[.int .u64 a0_0, .int .u32 a0_1,(.slice A0_2 l0_2.length c0_2)] 26 (0,0)))∧Aside0 (wc.heap[gb690]? = some (.cells #[.int .u64 0, .int .u32 0,(.slice none 0 0)] 26 (0,0)))∧Aside0 (wc.heap[gb697]? = some (.cells #[.int .u64 t691, .int .u32 t692,(.slice Ao16 t693.length co16)] 26 (0,0)))∧Aside0 (Below w.heap.size w wc))
 case first =>
  have H:=HC6.out;clear HC6
  replace H:=Option.bind_eq_some_iff.mp H
  obtain ⟨t698,A170,H⟩:=H
  replace H : (if t698=true then (if a3=true then (gain_Put.j0 k l1 l2 a3 false a0_0 a0_1 l0_2 t691 t692 t693) else ((gain_Right.f k l2).bind fun t699=>(gain_Put.j0 k l1 l2 a3 (!t699) a0_0 a0_1 l0_2 t691 t692 t693))) else (gain_Put.j0 k l1 l2 a3 true a0_0 a0_1 l0_2 t691 t692 t693))=some (r1,r2,r3,r4):=H
  have A17:=zm A170;clear A170
  by_cases c18 : t698=true
  ·
   subst c18
   have H1 : (if a3=true then (gain_Put.j0 k l1 l2 a3 false a0_0 a0_1 l0_2 t691 t692 t693) else ((gain_Right.f k l2).bind fun t699=>(gain_Put.j0 k l1 l2 a3 (!t699) a0_0 a0_1 l0_2 t691 t692 t693)))=some (r1,r2,r3,r4):=by rw [if_pos rfl] at H;exact H
   clear H;have H:=H1;clear H1
   by_cases c19 : a3=true
   ·
    subst c19
    have H1 : (gain_Put.j0 k l1 l2 true false a0_0 a0_1 l0_2 t691 t692 t693)=some (r1,r2,r3,r4):=by rw [if_pos rfl] at H;exact H
    clear H;have H:=H1;clear H1
    have H' := zm H
    clear H
    go_wp2_with (first|((with_reducible refine gate_callee (f:=45) rfl ?_);refine goesL_ (some 23) rfl rfl Try.func45 (by kernel_rfl) rfl #[.slice A1 l1.length c1] rfl (by (try simp only [List.map_toArray,List.map_cons,List.map_nil]);first|done|rfl|(simp only [List.length_drop,List.length_take];rfl)) ?_;(with_reducible refine (gain_Right.calls k _ _ l1 true _ ?side1 ?side2 A17.out).mono ?_);(case side1=>exact Kd.C_below HR1.out (by repeat (first|(with_reducible first|exact HB.out|apply ze|apply zd|apply zf|refine zk ?_ GE689.out|refine zk ?_ GE690.out|refine zk ?_ GE697.out)|exact HB.out)));(case side2=>exact HC1.out);rintro e w' ⟨rfl,⟨nd,rfl⟩⟩;refine ⟨_,rfl, ?_⟩))
    go_meet
    case rel=>exact ⟨_,(false),(by first|rfl|(simp;done)|(simp [*];done)),H',⟨by first|omega|exact Nat.le_refl _⟩,⟨by (with_reducible repeat (first|apply zA|apply zB|apply zC));exact zy (zI (p:=⟨gb697,2,none⟩) (zI (p:=⟨gb697,1,none⟩) (zI (p:=⟨gb697,0,none⟩) (zy HO0_2.out (fun k_ hk=>(⟨hk,hk.2⟩ : _∧k_≠gb697))) (fun _ hk=>hk.2) (.int .u64 t691)) (fun _ hk=>hk.2) (.int .u32 t692)) (fun _ hk=>hk.2) (.slice Ao16 t693.length co16)) (fun _ hk=>⟨hk.1.1.1.1.1,⟨hk.1.1.2,⟨hk.1.1.1.1.2,⟨hk.1.1.1.2,hk.1.2⟩⟩⟩⟩)⟩,⟨by (with_reducible repeat (first|apply zo|apply zp|apply zq));exact zG (zH (p:=⟨gb697,2,none⟩) (zH (p:=⟨gb697,1,none⟩) (zH (p:=⟨gb697,0,none⟩) (Kd.R_types HO695.out BK697.out (by decide)) (fun _ hk=>hk.2) (.int .u64 t691)) (fun _ hk=>hk.2) (.int .u32 t692)) (fun _ hk=>hk.2) (.slice Ao16 t693.length co16)) (fun _ hk=>hk.1.1)⟩,⟨by (with_reducible repeat (first|refine zh ?_ _|refine zj ?_|refine zi ?_ _|refine zv ?_ NB689_697.out _));exact BK689.out⟩,⟨by (with_reducible repeat (first|refine zh ?_ _|refine zj ?_|refine zi ?_ _|refine zv ?_ NB690_697.out _));exact BK690.out⟩,⟨by (with_reducible repeat (first|refine zh ?_ _|refine zj ?_|refine zi ?_ _));refine zw (cs := #[.int .u64 t691, .int .u32 t692, .slice none 0 0]) ?_ 2 _ rfl;(with_reducible repeat (first|refine zh ?_ _|refine zj ?_|refine zi ?_ _));refine zw (cs := #[.int .u64 t691, .int .u32 0, .slice none 0 0]) ?_ 1 _ rfl;(with_reducible repeat (first|refine zh ?_ _|refine zj ?_|refine zi ?_ _));refine zw (cs := #[.int .u64 0, .int .u32 0, .slice none 0 0]) ?_ 0 _ rfl;(with_reducible repeat (first|refine zh ?_ _|refine zj ?_|refine zi ?_ _));exact BK697.out⟩,⟨by repeat (first|(with_reducible first|exact HB.out|apply ze|apply zd|apply zf|refine zk ?_ GE689.out|refine zk ?_ GE690.out|refine zk ?_ GE697.out)|exact HB.out)⟩⟩
   ·
    replace c19:=Bool.eq_false_iff.mpr c19
    subst c19
    have H1 : ((gain_Right.f k l2).bind fun t699=>(gain_Put.j0 k l1 l2 false (!t699) a0_0 a0_1 l0_2 t691 t692 t693))=some (r1,r2,r3,r4):=by rw [if_neg (show ¬ (false=true) by decide)] at H;exact H
    clear H;have H:=H1;clear H1
    replace H:=Option.bind_eq_some_iff.mp H
    obtain ⟨t699,A200,H⟩:=H
    replace H : (gain_Put.j0 k l1 l2 false (!t699) a0_0 a0_1 l0_2 t691 t692 t693)=some (r1,r2,r3,r4):=H
    have A20:=zm A200;clear A200
    have H' := zm H
    clear H
    go_wp2_with (first|((with_reducible refine gate_callee (f:=45) rfl ?_);refine goesL_ (some 23) rfl rfl Try.func45 (by kernel_rfl) rfl #[.slice A1 l1.length c1] rfl (by (try simp only [List.map_toArray,List.map_cons,List.map_nil]);first|done|rfl|(simp only [List.length_drop,List.length_take];rfl)) ?_;(with_reducible refine (gain_Right.calls k _ _ l1 true _ ?side1 ?side2 A17.out).mono ?_);(case side1=>exact Kd.C_below HR1.out (by repeat (first|(with_reducible first|exact HB.out|apply ze|apply zd|apply zf|refine zk ?_ GE689.out|refine zk ?_ GE690.out|refine zk ?_ GE697.out)|exact HB.out)));(case side2=>exact HC1.out);rintro e w' ⟨rfl,⟨nd,rfl⟩⟩;refine ⟨_,rfl, ?_⟩)|(go_at_call 45;(with_reducible refine (gain_Right.calls k _ _ l2 t699 _ ?side1 ?side2 A20.out).mono ?_);(case side1=>exact Kd.C_below HR2.out (by repeat (first|(with_reducible first|exact HB.out|apply ze|apply zd|apply zf|refine zk ?_ GE689.out|refine zk ?_ GE690.out|refine zk ?_ GE697.out)|exact HB.out)));(case side2=>exact HC2.out);rintro e w' ⟨rfl,⟨nd,rfl⟩⟩))
    go_meet
    case rel=>exact ⟨_,(!t699),(by first|rfl|(simp;done)|(simp [*];done)),H',⟨by first|omega|exact Nat.le_refl _⟩,⟨by (with_reducible repeat (first|apply zA|apply zB|apply zC));exact zy (zI (p:=⟨gb697,2,none⟩) (zI (p:=⟨gb697,1,none⟩) (zI (p:=⟨gb697,0,none⟩) (zy HO0_2.out (fun k_ hk=>(⟨hk,hk.2⟩ : _∧k_≠gb697))) (fun _ hk=>hk.2) (.int .u64 t691)) (fun _ hk=>hk.2) (.int .u32 t692)) (fun _ hk=>hk.2) (.slice Ao16 t693.length co16)) (fun _ hk=>⟨hk.1.1.1.1.1,⟨hk.1.1.2,⟨hk.1.1.1.1.2,⟨hk.1.1.1.2,hk.1.2⟩⟩⟩⟩)⟩,⟨by (with_reducible repeat (first|apply zo|apply zp|apply zq));exact zG (zH (p:=⟨gb697,2,none⟩) (zH (p:=⟨gb697,1,none⟩) (zH (p:=⟨gb697,0,none⟩) (Kd.R_types HO695.out BK697.out (by decide)) (fun _ hk=>hk.2) (.int .u64 t691)) (fun _ hk=>hk.2) (.int .u32 t692)) (fun _ hk=>hk.2) (.slice Ao16 t693.length co16)) (fun _ hk=>hk.1.1)⟩,⟨by (with_reducible repeat (first|refine zh ?_ _|refine zj ?_|refine zi ?_ _|refine zv ?_ NB689_697.out _));exact BK689.out⟩,⟨by (with_reducible repeat (first|refine zh ?_ _|refine zj ?_|refine zi ?_ _|refine zv ?_ NB690_697.out _));exact BK690.out⟩,⟨by (with_reducible repeat (first|refine zh ?_ _|refine zj ?_|refine zi ?_ _));refine zw (cs := #[.int .u64 t691, .int .u32 t692, .slice none 0 0]) ?_ 2 _ rfl;(with_reducible repeat (first|refine zh ?_ _|refine zj ?_|refine zi ?_ _));refine zw (cs := #[.int .u64 t691, .int .u32 0, .slice none 0 0]) ?_ 1 _ rfl;(with_reducible repeat (first|refine zh ?_ _|refine zj ?_|refine zi ?_ _));refine zw (cs := #[.int .u64 0, .int .u32 0, .slice none 0 0]) ?_ 0 _ rfl;(with_reducible repeat (first|refine zh ?_ _|refine zj ?_|refine zi ?_ _));exact BK697.out⟩,⟨by repeat (first|(with_reducible first|exact HB.out|apply ze|apply zd|apply zf|refine zk ?_ GE689.out|refine zk ?_ GE690.out|refine zk ?_ GE697.out)|exact HB.out)⟩⟩
  ·
   replace c18:=Bool.eq_false_iff.mpr c18
   subst c18
   have H1 : (gain_Put.j0 k l1 l2 a3 true a0_0 a0_1 l0_2 t691 t692 t693)=some (r1,r2,r3,r4):=by rw [if_neg (show ¬ (false=true) by decide)] at H;exact H
   clear H;have H:=H1;clear H1
   have H' := zm H
   clear H
   go_wp2_with (first|((with_reducible refine gate_callee (f:=45) rfl ?_);refine goesL_ (some 23) rfl rfl Try.func45 (by kernel_rfl) rfl #[.slice A1 l1.length c1] rfl (by (try simp only [List.map_toArray,List.map_cons,List.map_nil]);first|done|rfl|(simp only [List.length_drop,List.length_take];rfl)) ?_;(with_reducible refine (gain_Right.calls k _ _ l1 false _ ?side1 ?side2 A17.out).mono ?_);(case side1=>exact Kd.C_below HR1.out (by repeat (first|(with_reducible first|exact HB.out|apply ze|apply zd|apply zf|refine zk ?_ GE689.out|refine zk ?_ GE690.out|refine zk ?_ GE697.out)|exact HB.out)));(case side2=>exact HC1.out);rintro e w' ⟨rfl,⟨nd,rfl⟩⟩;refine ⟨_,rfl, ?_⟩))
   go_meet
   case rel=>exact ⟨_,(true),(by first|rfl|(simp;done)|(simp [*];done)),H',⟨by first|omega|exact Nat.le_refl _⟩,⟨by (with_reducible repeat (first|apply zA|apply zB|apply zC));exact zy (zI (p:=⟨gb697,2,none⟩) (zI (p:=⟨gb697,1,none⟩) (zI (p:=⟨gb697,0,none⟩) (zy HO0_2.out (fun k_ hk=>(⟨hk,hk.2⟩ : _∧k_≠gb697))) (fun _ hk=>hk.2) (.int .u64 t691)) (fun _ hk=>hk.2) (.int .u32 t692)) (fun _ hk=>hk.2) (.slice Ao16 t693.length co16)) (fun _ hk=>⟨hk.1.1.1.1.1,⟨hk.1.1.2,⟨hk.1.1.1.1.2,⟨hk.1.1.1.2,hk.1.2⟩⟩⟩⟩)⟩,⟨by (with_reducible repeat (first|apply zo|apply zp|apply zq));exact zG (zH (p:=⟨gb697,2,none⟩) (zH (p:=⟨gb697,1,none⟩) (zH (p:=⟨gb697,0,none⟩) (Kd.R_types HO695.out BK697.out (by decide)) (fun _ hk=>hk.2) (.int .u64 t691)) (fun _ hk=>hk.2) (.int .u32 t692)) (fun _ hk=>hk.2) (.slice Ao16 t693.length co16)) (fun _ hk=>hk.1.1)⟩,⟨by (with_reducible repeat (first|refine zh ?_ _|refine zj ?_|refine zi ?_ _|refine zv ?_ NB689_697.out _));exact BK689.out⟩,⟨by (with_reducible repeat (first|refine zh ?_ _|refine zj ?_|refine zi ?_ _|refine zv ?_ NB690_697.out _));exact BK690.out⟩,⟨by (with_reducible repeat (first|refine zh ?_ _|refine zj ?_|refine zi ?_ _));refine zw (cs := #[.int .u64 t691, .int .u32 t692, .slice none 0 0]) ?_ 2 _ rfl;(with_reducible repeat (first|refine zh ?_ _|refine zj ?_|refine zi ?_ _));refine zw (cs := #[.int .u64 t691, .int .u32 0, .slice none 0 0]) ?_ 1 _ rfl;(with_reducible repeat (first|refine zh ?_ _|refine zj ?_|refine zi ?_ _));refine zw (cs := #[.int .u64 0, .int .u32 0, .slice none 0 0]) ?_ 0 _ rfl;(with_reducible repeat (first|refine zh ?_ _|refine zj ?_|refine zi ?_ _));exact BK697.out⟩,⟨by repeat (first|(with_reducible first|exact HB.out|apply ze|apply zd|apply zf|refine zk ?_ GE689.out|refine zk ?_ GE690.out|refine zk ?_ GE697.out)|exact HB.out)⟩⟩
 case rest =>
  clear HC6
  try clear c1
  try clear c2
  try clear p2
  try clear c4
  try clear c9
  try clear c13
  try clear c14
  try clear c18
  try clear c19
  try clear hcz10_0
  try clear hcz10_1
  try clear hcz10_2
  try clear hcz15_0
  try clear hcz15_1
  try clear hcz15_2
  try clear hfz10_0
  try clear hfz10_1
  try clear hfz10_2
  try clear hfz15_0
  try clear hfz15_1
  try clear hfz15_2
  obtain ⟨kq,x33_5,rfl,HA,HJ5,HO_690002,HO_698002,BK689,BK690,BK697,HB⟩:=hcut
  cases kq with
  | zero=>exact absurd HA.out (by simp [gain_Put.j0])
  | succ kj5 =>
   have H:=HA.out;clear HA
   simp only [gain_Put.j0] at H
   by_cases c21 : x33_5=true
   ·
    subst c21
    have H1 : (some (t691,t692,t693,1))=some (r1,r2,r3,r4):=by rw [if_pos rfl] at H;exact H
    clear H;have H:=H1;clear H1
    simp only [Option.some.injEq,Prod.mk.injEq] at H
    obtain ⟨rfl,rfl,rfl,rfl⟩:=H
    have hnb22:=NB697_689.out;have hnc22:=NB689_697.out;have hnb23:=NB697_690.out;have hnc23:=NB690_697.out
    have hcz24_0 : wc.cell? ⟨gb697,0,none⟩=some (.int .u64 t691):=(zs BK697.out 0).trans rfl
    have hcz24_1 : wc.cell? ⟨gb697,1,none⟩=some (.int .u32 t692):=(zs BK697.out 1).trans rfl
    have hcz24_2 : wc.cell? ⟨gb697,2,none⟩=some (.slice Ao16 t693.length co16):=(zs BK697.out 2).trans rfl
    have hfz24_0:=zx BK697.out 0
    have hfz24_1:=zx BK697.out 1
    have hfz24_2:=zx BK697.out 2
    have hnb25:=NB690_689.out;have hnc25:=NB689_690.out
    have hcz26_0 : wc.cell? ⟨gb690,0,none⟩=some (.int .u64 0):=(zs BK690.out 0).trans rfl
    have hcz26_1 : wc.cell? ⟨gb690,1,none⟩=some (.int .u32 0):=(zs BK690.out 1).trans rfl
    have hcz26_2 : wc.cell? ⟨gb690,2,none⟩=some (.slice none 0 0):=(zs BK690.out 2).trans rfl
    have hfz26_0:=zx BK690.out 0
    have hfz26_1:=zx BK690.out 1
    have hfz26_2:=zx BK690.out 2
    go_wp2
    refine bodyPost_ret (results_ct rfl _ _ gb690 26 #[.int .u64 t691, .int .u32 t692, .slice Ao16 t693.length co16] (0,0) _ rfl (by (with_reducible repeat (first|refine zh ?_ _|refine zj ?_|refine zi ?_ _));refine zw (cs := #[.int .u64 t691, .int .u32 t692, .slice none 0 0]) ?_ 2 _ rfl;(with_reducible repeat (first|refine zh ?_ _|refine zj ?_|refine zi ?_ _));refine zw (cs := #[.int .u64 t691, .int .u32 0, .slice none 0 0]) ?_ 1 _ rfl;(with_reducible repeat (first|refine zh ?_ _|refine zj ?_|refine zi ?_ _));refine zw (cs := #[.int .u64 0, .int .u32 0, .slice none 0 0]) ?_ 0 _ rfl;(with_reducible repeat (first|refine zh ?_ _|refine zj ?_|refine zi ?_ _));exact BK690.out) Try.underlying26 rfl (by kernel_rfl)) rfl ?_
    exact ⟨_,by first|rfl|(simp [errW_none,errW_some] <;> rfl)|(simp [*,errW_none,errW_some] <;> rfl),zy (Kd.R_V (by (with_reducible repeat (first|apply zo|apply zp|apply zq));exact zG (zH (p:=⟨gb690,2,none⟩) (zH (p:=⟨gb690,1,none⟩) (zH (p:=⟨gb690,0,none⟩) (Kd.R_types HO_698002.out BK690.out (by decide)) (fun _ hk=>hk.2) (.int .u64 t691)) (fun _ hk=>hk.2) (.int .u32 t692)) (fun _ hk=>hk.2) (.slice Ao16 t693.length co16)) (fun _ hk=>hk.1))) (fun k_ hk=>by first|exact ⟨(.inr (hk.1)),hk.2⟩|exact (.inr (hk))),by repeat (first|(with_reducible first|exact HB.out|apply ze|apply zd|apply zf|refine zk ?_ GE689.out|refine zk ?_ GE690.out|refine zk ?_ GE697.out)|exact HB.out)⟩
   ·
    replace c21:=Bool.eq_false_iff.mpr c21
    subst c21
    have H1 : (gain_Put.l0 kj5 l1 l2 a3 0 t691 t692 t693 a0_0 a0_1 l0_2)=some (r1,r2,r3,r4):=by rw [if_neg (show ¬ (false=true) by decide)] at H;exact H
    clear H;have H:=H1;clear H1
    have H' := zm H
    clear H;have hnb27:=NB689_690.out;have hnc27:=NB690_689.out;have hnb28:=NB689_697.out;have hnc28:=NB697_689.out
    have hcz29_0 : wc.cell? ⟨gb689,0,none⟩=some (.int .u64 a0_0):=(zs BK689.out 0).trans rfl
    have hcz29_1 : wc.cell? ⟨gb689,1,none⟩=some (.int .u32 a0_1):=(zs BK689.out 1).trans rfl
    have hcz29_2 : wc.cell? ⟨gb689,2,none⟩=some (.slice A0_2 l0_2.length c0_2):=(zs BK689.out 2).trans rfl
    have hfz29_0:=zx BK689.out 0
    have hfz29_1:=zx BK689.out 1
    have hfz29_2:=zx BK689.out 2
    go_wp2_with (first|((with_reducible refine gate_dst (N:=12) rfl ?_);refine box_event ?hg (N:=12) ?hd (cs := #[.int .u64 0, .int .u32 0, .slice none 0 0]) (t:=26) ?hr ?_;(case hd=>rfl);(case hg=>rfl);(case hr=>first|(go_simp;done)|(go_simp;rfl));intro gb700 hg w30 hbox hb;have n0_:=zm (Kd.V_below (Kd.V_elderB (by (with_reducible repeat (first|apply zA|apply zB|apply zC));exact HO_690002.out) gb700 (Nat.le_of_eq hg.symm)) hb);have n1_:=zm (Kd.R_below (by (with_reducible repeat (first|apply zo|apply zp|apply zq));exact HO_698002.out) hb);have n2_:=zm (zF (g:=gb689) (o:=.cells #[.int .u64 a0_0, .int .u32 a0_1, .slice A0_2 l0_2.length c0_2] 26 (0,0)) (by (with_reducible repeat (first|refine zh ?_ _|refine zj ?_|refine zi ?_ _));exact BK689.out) hb);have n3_:=zm (zF (g:=gb690) (o:=.cells #[.int .u64 0, .int .u32 0, .slice none 0 0] 26 (0,0)) (by (with_reducible repeat (first|refine zh ?_ _|refine zj ?_|refine zi ?_ _));exact BK690.out) hb);have n4_:=zm (zF (g:=gb697) (o:=.cells #[.int .u64 t691, .int .u32 t692, .slice Ao16 t693.length co16] 26 (0,0)) (by (with_reducible repeat (first|refine zh ?_ _|refine zj ?_|refine zi ?_ _));exact BK697.out) hb);have n5_:=zm (zJ (by repeat (first|(with_reducible first|exact HB.out|apply ze|apply zd|apply zf|refine zk ?_ GE689.out|refine zk ?_ GE690.out|refine zk ?_ GE697.out)|exact HB.out)) hb);have n6_:=zm (hbox);have n7_:=zm ((by rw [hg];exact (zE (by repeat (first|(with_reducible first|exact HB.out|apply ze|apply zd|apply zf|refine zk ?_ GE689.out|refine zk ?_ GE690.out|refine zk ?_ GE697.out)|exact HB.out))) : w.heap.size≤gb700));have n8_:=zm ((by rw [hg];exact (zE (by repeat (first|(with_reducible first|exact HB.out|apply ze|apply zd|apply zf|refine zk ?_ GE689.out|refine zk ?_ GE690.out|refine zk ?_ GE697.out)|exact HB.out))) : w.heap.size≤gb700));have n9_:=zm ((by rw [hg];exact zn (zD (g:=gb689) (o:=.cells #[.int .u64 a0_0, .int .u32 a0_1, .slice A0_2 l0_2.length c0_2] 26 (0,0)) (by (with_reducible repeat (first|refine zh ?_ _|refine zj ?_|refine zi ?_ _));exact BK689.out)) : gb689≠gb700));have n10_:=zm ((by rw [hg];exact zg (zD (g:=gb689) (o:=.cells #[.int .u64 a0_0, .int .u32 a0_1, .slice A0_2 l0_2.length c0_2] 26 (0,0)) (by (with_reducible repeat (first|refine zh ?_ _|refine zj ?_|refine zi ?_ _));exact BK689.out)) : gb700≠gb689));have n11_:=zm ((by rw [hg];exact zn (zD (g:=gb690) (o:=.cells #[.int .u64 0, .int .u32 0, .slice none 0 0] 26 (0,0)) (by (with_reducible repeat (first|refine zh ?_ _|refine zj ?_|refine zi ?_ _));exact BK690.out)) : gb690≠gb700));have n12_:=zm ((by rw [hg];exact zg (zD (g:=gb690) (o:=.cells #[.int .u64 0, .int .u32 0, .slice none 0 0] 26 (0,0)) (by (with_reducible repeat (first|refine zh ?_ _|refine zj ?_|refine zi ?_ _));exact BK690.out)) : gb700≠gb690));have n13_:=zm ((by rw [hg];exact zn (zD (g:=gb697) (o:=.cells #[.int .u64 t691, .int .u32 t692, .slice Ao16 t693.length co16] 26 (0,0)) (by (with_reducible repeat (first|refine zh ?_ _|refine zj ?_|refine zi ?_ _));exact BK697.out)) : gb697≠gb700));have n14_:=zm ((by rw [hg];exact zg (zD (g:=gb697) (o:=.cells #[.int .u64 t691, .int .u32 t692, .slice Ao16 t693.length co16] 26 (0,0)) (by (with_reducible repeat (first|refine zh ?_ _|refine zj ?_|refine zi ?_ _));exact BK697.out)) : gb700≠gb697));clear HO_690002;clear HO_698002;clear BK689;clear BK690;clear BK697;clear HB;have HO_690002:=n0_;have HO_698002:=n1_;have BK689:=n2_;have BK690:=n3_;have BK697:=n4_;have HB:=n5_;have BK700:=n6_;have GW700:=n7_;have GE700:=n8_;have NB689_700:=n9_;have NB700_689:=n10_;have NB690_700:=n11_;have NB700_690:=n12_;have NB697_700:=n13_;have NB700_697:=n14_;clear n0_ n1_ n2_ n3_ n4_ n5_ n6_ n7_ n8_ n9_ n10_ n11_ n12_ n13_ n14_;clear hb hbox hg;have hnb31:=NB700_689.out;have hnc31:=NB689_700.out;have hnb32:=NB700_690.out;have hnc32:=NB690_700.out;have hnb33:=NB700_697.out;have hnc33:=NB697_700.out;have hcz34_0 : w30.cell? ⟨gb700,0,none⟩=some (.int .u64 0):=(zs BK700.out 0).trans rfl;have hcz34_1 : w30.cell? ⟨gb700,1,none⟩=some (.int .u32 0):=(zs BK700.out 1).trans rfl;have hcz34_2 : w30.cell? ⟨gb700,2,none⟩=some (.slice none 0 0):=(zs BK700.out 2).trans rfl;have hfz34_0:=zx BK700.out 0;have hfz34_1:=zx BK700.out 1;have hfz34_2:=zx BK700.out 2))
    go_loopg [36] kj5 (fun kq v36 w' => ∃ (x36_2 : Int) (x691000_2 : Int) (x691001_2 : Int) (x701000_2 : Int) (x701001_2 : Int) (x701002_2 : List Int) (u701002 : Value),v36=.int .i64 x36_2∧Aside0 (gain_Put.l0 kq l1 l2 a3 x36_2 t691 t692 t693 x701000_2 x701001_2 x701002_2=some (r1,r2,r3,r4))∧Aside0 (kq≤kj5)∧Aside0 (Kd.V (Kd.int .u8) 5 w' w.heap.size (fun k_=>(P0_2_ k_∨w.heap.size≤k_)∧some k_≠((.slice Ao16 t693.length co16) : Value).ownBlock∧k_≠gb689∧k_≠gb690∧k_≠gb697∧k_≠gb700) (.slice A0_2 l0_2.length c0_2) l0_2)∧Aside0 (Kd.R (Kd.int .u8) 5 w' w.heap.size (fun k_=>(w.heap.size≤k_)) (.slice Ao16 t693.length co16) t693)∧Aside0 (Kd.V (Kd.int .u8) 5 w' w.heap.size (fun k_=>(P0_2_ k_∨w.heap.size≤k_)∧some k_≠((.slice Ao16 t693.length co16) : Value).ownBlock∧k_≠gb689∧k_≠gb690∧k_≠gb697∧k_≠gb700) u701002 x701002_2)∧Aside0 (w'.heap[gb689]? = some (.cells #[.int .u64 a0_0, .int .u32 a0_1,(.slice A0_2 l0_2.length c0_2)] 26 (0,0)))∧Aside0 (w'.heap[gb690]? = some (.cells #[.int .u64 x691000_2, .int .u32 x691001_2,(.slice none 0 0)] 26 (0,0)))∧Aside0 (w'.heap[gb697]? = some (.cells #[.int .u64 t691, .int .u32 t692,(.slice Ao16 t693.length co16)] 26 (0,0)))∧Aside0 (w'.heap[gb700]? = some (.cells #[.int .u64 x701000_2, .int .u32 x701001_2,u701002] 26 (0,0)))∧Aside0 (Below w.heap.size w w'))
    case atStart=>exact ⟨(0),(0),(0),(a0_0),(a0_1),(l0_2),(.slice A0_2 l0_2.length c0_2),(by first|rfl|(simp;done)|(simp [*];done)),H',⟨Nat.le_refl _⟩,⟨by (with_reducible repeat (first|apply zA|apply zB|apply zC));exact zy (zI (p:=⟨gb700,2,none⟩) (zI (p:=⟨gb700,1,none⟩) (zI (p:=⟨gb700,0,none⟩) (zy HO_690002.out (fun k_ hk=>(⟨hk,hk.2⟩ : _∧k_≠gb700))) (fun _ hk=>hk.2) (.int .u64 a0_0)) (fun _ hk=>hk.2) (.int .u32 a0_1)) (fun _ hk=>hk.2) (.slice A0_2 l0_2.length c0_2)) (fun _ hk=>⟨hk.1.1.1,⟨hk.1.1.2.1,⟨hk.1.1.2.2.1,⟨hk.1.1.2.2.2.1,⟨hk.1.1.2.2.2.2,hk.1.2⟩⟩⟩⟩⟩)⟩,⟨by (with_reducible repeat (first|apply zo|apply zp|apply zq));exact zG (zH (p:=⟨gb700,2,none⟩) (zH (p:=⟨gb700,1,none⟩) (zH (p:=⟨gb700,0,none⟩) (Kd.R_types HO_698002.out BK700.out (by decide)) (fun _ hk=>hk.2) (.int .u64 a0_0)) (fun _ hk=>hk.2) (.int .u32 a0_1)) (fun _ hk=>hk.2) (.slice A0_2 l0_2.length c0_2)) (fun _ hk=>hk.1)⟩,⟨by (with_reducible repeat (first|apply zA|apply zB|apply zC));exact zy (zI (p:=⟨gb700,2,none⟩) (zI (p:=⟨gb700,1,none⟩) (zI (p:=⟨gb700,0,none⟩) (zy HO_690002.out (fun k_ hk=>(⟨hk,hk.2⟩ : _∧k_≠gb700))) (fun _ hk=>hk.2) (.int .u64 a0_0)) (fun _ hk=>hk.2) (.int .u32 a0_1)) (fun _ hk=>hk.2) (.slice A0_2 l0_2.length c0_2)) (fun _ hk=>⟨hk.1.1.1,⟨hk.1.1.2.1,⟨hk.1.1.2.2.1,⟨hk.1.1.2.2.2.1,⟨hk.1.1.2.2.2.2,hk.1.2⟩⟩⟩⟩⟩)⟩,⟨by (with_reducible repeat (first|refine zh ?_ _|refine zj ?_|refine zi ?_ _|refine zv ?_ NB689_700.out _));exact BK689.out⟩,⟨by (with_reducible repeat (first|refine zh ?_ _|refine zj ?_|refine zi ?_ _|refine zv ?_ NB690_700.out _));exact BK690.out⟩,⟨by (with_reducible repeat (first|refine zh ?_ _|refine zj ?_|refine zi ?_ _|refine zv ?_ NB697_700.out _));exact BK697.out⟩,⟨by (with_reducible repeat (first|refine zh ?_ _|refine zj ?_|refine zi ?_ _));refine zw (cs := #[.int .u64 a0_0, .int .u32 a0_1, .slice none 0 0]) ?_ 2 _ rfl;(with_reducible repeat (first|refine zh ?_ _|refine zj ?_|refine zi ?_ _));refine zw (cs := #[.int .u64 a0_0, .int .u32 0, .slice none 0 0]) ?_ 1 _ rfl;(with_reducible repeat (first|refine zh ?_ _|refine zj ?_|refine zi ?_ _));refine zw (cs := #[.int .u64 0, .int .u32 0, .slice none 0 0]) ?_ 0 _ rfl;(with_reducible repeat (first|refine zh ?_ _|refine zj ?_|refine zi ?_ _));exact BK700.out⟩,⟨by repeat (first|(with_reducible first|exact HB.out|apply ze|apply zd|apply zf|refine zk ?_ GE689.out|refine zk ?_ GE690.out|refine zk ?_ GE697.out|refine zk ?_ GE700.out)|exact HB.out)⟩⟩
    case round =>
     clear H'
     try clear c1
     try clear c2
     try clear p2
     try clear c3
     try clear c4
     try clear c9
     try clear c13
     try clear c14
     try clear c18
     try clear c19
     try clear c21
     try clear c22
     try clear c23
     try clear c25
     try clear c27
     try clear c28
     try clear c31
     try clear c32
     try clear c33
     try clear hcz10_0
     try clear hcz10_1
     try clear hcz10_2
     try clear hcz15_0
     try clear hcz15_1
     try clear hcz15_2
     try clear hcz24_0
     try clear hcz24_1
     try clear hcz24_2
     try clear hcz26_0
     try clear hcz26_1
     try clear hcz26_2
     try clear hcz29_0
     try clear hcz29_1
     try clear hcz29_2
     try clear hcz34_0
     try clear hcz34_1
     try clear hcz34_2
     try clear hfz10_0
     try clear hfz10_1
     try clear hfz10_2
     try clear hfz15_0
     try clear hfz15_1
     try clear hfz15_2
     try clear hfz24_0
     try clear hfz24_1
     try clear hfz24_2
     try clear hfz26_0
     try clear hfz26_1
     try clear hfz26_2
     try clear hfz29_0
     try clear hfz29_1
     try clear hfz29_2
     try clear hfz34_0
     try clear hfz34_1
     try clear hfz34_2
     try clear p2
     obtain ⟨x36_2,x691000_2,x691001_2,x701000_2,x701001_2,x701002_2,u701002,rfl,HA,HK2,HO_690002,HO_698002,HO_701002,BK689,BK690,BK697,BK700,HB⟩:=hrel
     cases gk with
     | zero=>exact absurd HA.out (by simp [gain_Put.l0])
     | succ k2 =>
      have H:=HA.out;clear HA
      simp only [gain_Put.l0] at H
      by_cases c35 : x36_2 < 5
      ·
       rw [if_pos c35] at H
       have c35b0 : decide (x36_2 < 5)=true:=decide_eq_true c35
       clear c35;have HC36:=zm H;clear H
       go_upto_if 40 with (fail)
       go_cut [14] (fun v14 wc => ∃ (kq : Nat) (x14_35 : Int),v14=.int .i64 x14_35∧Aside0 (gain_Put.j2 kq l1 l2 a3 x36_2 x14_35 x36_2 t691 t692 t693 x701000_2 x701001_2 x701002_2=some (r1,r2,r3,r4))∧Aside0 (kq≤k2)∧Aside0 (Kd.V (Kd.int .u8) 5 wc w.heap.size (fun k_=>(P0_2_ k_∨w.heap.size≤k_)∧some k_≠((.slice Ao16 t693.length co16) : Value).ownBlock∧k_≠gb689∧k_≠gb690∧k_≠gb697∧k_≠gb700) (.slice A0_2 l0_2.length c0_2) l0_2)∧Aside0 (Kd.R (Kd.int .u8) 5 wc w.heap.size (fun k_=>(w.heap.size≤k_)) (.slice Ao16 t693.length co16) t693)∧Aside0 (Kd.V (Kd.int .u8) 5 wc w.heap.size (fun k_=>(P0_2_ k_∨w.heap.size≤k_)∧some k_≠((.slice Ao16 t693.length co16) : Value).ownBlock∧k_≠gb689∧k_≠gb690∧k_≠gb697∧k_≠gb700) u701002 x701002_2)∧Aside0 (wc.heap[gb689]? = some (.cells #[.int .u64 a0_0, .int .u32 a0_1,(.slice A0_2 l0_2.length c0_2)] 26 (0,0)))∧Aside0 (wc.heap[gb690]? = some (.cells #[.int .u64 x691000_2, .int .u32 x691001_2,(.slice none 0 0)] 26 (0,0)))∧Aside0 (wc.heap[gb697]? = some (.cells #[.int .u64 t691, .int .u32 t692,(.slice Ao16 t693.length co16)] 26 (0,0)))∧Aside0 (wc.heap[gb700]? = some (.cells #[.int .u64 x701000_2, .int .u32 x701001_2,u701002] 26 (0,0)))∧Aside0 (Below w.heap.size w wc))
       case first =>
        have H:=HC36.out;clear HC36
        by_cases c37 : a3=true
        ·
         subst c37
         have H1 : (gain_Put.j2 k2 l1 l2 true x36_2 0 x36_2 t691 t692 t693 x701000_2 x701001_2 x701002_2)=some (r1,r2,r3,r4):=by rw [if_pos rfl] at H;exact H
         clear H;have H:=H1;clear H1
         have H' := zm H
         clear H
         go_wp2
         go_meet
         case rel=>exact ⟨_,(0),(by first|rfl|(simp;done)|(simp [*];done)),H',⟨by have:=HJ5.out;have:=HK2.out;first|omega|exact Nat.le_refl _⟩,⟨by (with_reducible repeat (first|apply zA|apply zB|apply zC));exact HO_690002.out⟩,⟨by (with_reducible repeat (first|apply zo|apply zp|apply zq));exact HO_698002.out⟩,⟨by (with_reducible repeat (first|apply zA|apply zB|apply zC));exact HO_701002.out⟩,⟨by (with_reducible repeat (first|refine zh ?_ _|refine zj ?_|refine zi ?_ _));exact BK689.out⟩,⟨by (with_reducible repeat (first|refine zh ?_ _|refine zj ?_|refine zi ?_ _));exact BK690.out⟩,⟨by (with_reducible repeat (first|refine zh ?_ _|refine zj ?_|refine zi ?_ _));exact BK697.out⟩,⟨by (with_reducible repeat (first|refine zh ?_ _|refine zj ?_|refine zi ?_ _));exact BK700.out⟩,⟨by repeat (first|(with_reducible first|exact HB.out|apply ze|apply zd|apply zf|refine zk ?_ GE689.out|refine zk ?_ GE690.out|refine zk ?_ GE697.out|refine zk ?_ GE700.out)|exact HB.out)⟩⟩
        ·
         replace c37:=Bool.eq_false_iff.mpr c37
         subst c37
         have H1 : (if 0≤x36_2 then (if x36_2 < (l2.length : Int) then (gain_Put.j2 k2 l1 l2 false x36_2 (rd l2 x36_2) x36_2 t691 t692 t693 x701000_2 x701001_2 x701002_2) else (none)) else (none))=some (r1,r2,r3,r4):=by rw [if_neg (show ¬ (false=true) by decide)] at H;exact H
         clear H;have H:=H1;clear H1
         by_cases c38 : 0≤x36_2
         ·
          rw [if_pos c38] at H
          have c38b0 : decide (0≤x36_2)=true:=decide_eq_true c38
          clear c38
          (first|rw [c38b0]|(simp only [i64_w,i32_w];rw [c38b0])|skip)
          by_cases c39 : x36_2 < (l2.length : Int)
          ·
           rw [if_pos c39] at H
           have c39b0 : decide (x36_2 < (l2.length : Int))=true:=decide_eq_true c39
           clear c39
           have H' := zm H
           clear H
           have p701 : 0≤(x36_2 : Int):=of_decide_eq_true (by first|(with_reducible assumption)|assumption)
           have q701 : x36_2 < (l2.length : Int):=of_decide_eq_true (by first|(with_reducible assumption)|assumption)
           obtain ⟨ad701,e701,hx701_0⟩:=Kd.at_int HR2.out x36_2 p701 q701
           cases e701
           replace hx701_0:=(HB.out.cell (zb w _ hx701_0)).trans hx701_0
           replace p701:=eq_true p701
           replace q701:=eq_true q701
           go_wp2
           go_meet
           case rel=>exact ⟨_,(rd l2 x36_2),(by first|rfl|(simp;done)|(simp [*];done)),H',⟨by have:=HJ5.out;have:=HK2.out;first|omega|exact Nat.le_refl _⟩,⟨by (with_reducible repeat (first|apply zA|apply zB|apply zC));exact HO_690002.out⟩,⟨by (with_reducible repeat (first|apply zo|apply zp|apply zq));exact HO_698002.out⟩,⟨by (with_reducible repeat (first|apply zA|apply zB|apply zC));exact HO_701002.out⟩,⟨by (with_reducible repeat (first|refine zh ?_ _|refine zj ?_|refine zi ?_ _));exact BK689.out⟩,⟨by (with_reducible repeat (first|refine zh ?_ _|refine zj ?_|refine zi ?_ _));exact BK690.out⟩,⟨by (with_reducible repeat (first|refine zh ?_ _|refine zj ?_|refine zi ?_ _));exact BK697.out⟩,⟨by (with_reducible repeat (first|refine zh ?_ _|refine zj ?_|refine zi ?_ _));exact BK700.out⟩,⟨by repeat (first|(with_reducible first|exact HB.out|apply ze|apply zd|apply zf|refine zk ?_ GE689.out|refine zk ?_ GE690.out|refine zk ?_ GE697.out|refine zk ?_ GE700.out)|exact HB.out)⟩⟩
          ·
           rw [if_neg c39] at H
           exact absurd H (by simp)
         ·
          rw [if_neg c38] at H
          exact absurd H (by simp)
       case rest =>
        clear HC36
        try clear c1
        try clear c2
        try clear p2
        try clear c3
        try clear c4
        try clear p7
        try clear q7
        try clear hx7
        try clear c9
        try clear c13
        try clear c14
        try clear c18
        try clear c19
        try clear c21
        try clear c22
        try clear c23
        try clear c25
        try clear c27
        try clear c28
        try clear c31
        try clear c32
        try clear c33
        try clear c35
        try clear c35b0
        try clear c37
        try clear c38
        try clear c38b0
        try clear c39
        try clear c39b0
        try clear hcz10_0
        try clear hcz10_1
        try clear hcz10_2
        try clear hcz15_0
        try clear hcz15_1
        try clear hcz15_2
        try clear hcz24_0
        try clear hcz24_1
        try clear hcz24_2
        try clear hcz26_0
        try clear hcz26_1
        try clear hcz26_2
        try clear hcz29_0
        try clear hcz29_1
        try clear hcz29_2
        try clear hcz34_0
        try clear hcz34_1
        try clear hcz34_2
        try clear hfz10_0
        try clear hfz10_1
        try clear hfz10_2
        try clear hfz15_0
        try clear hfz15_1
        try clear hfz15_2
        try clear hfz24_0
        try clear hfz24_1
        try clear hfz24_2
        try clear hfz26_0
        try clear hfz26_1
        try clear hfz26_2
        try clear hfz29_0
        try clear hfz29_1
        try clear hfz29_2
        try clear hfz34_0
        try clear hfz34_1
        try clear hfz34_2
        try clear hx701_0
        try clear p2
        try clear p701
        try clear q701
        obtain ⟨kq,x14_35,rfl,HA,HJ35,HO_690002,HO_698002,HO_701002,BK689,BK690,BK697,BK700,HB⟩:=hcut
        cases kq with
        | zero=>exact absurd HA.out (by simp [gain_Put.j2])
        | succ kj35 =>
         have H:=HA.out;clear HA
         simp only [gain_Put.j2] at H
         by_cases c40 : 0≤x36_2
         ·
          rw [if_pos c40] at H
          have c40b0 : decide (0≤x36_2)=true:=decide_eq_true c40
          clear c40
          by_cases c41 : x36_2 < (l1.length : Int)
          ·
           rw [if_pos c41] at H
           have c41b0 : decide (x36_2 < (l1.length : Int))=true:=decide_eq_true c41
           clear c41
           replace H:=Option.bind_eq_some_iff.mp H
           obtain ⟨⟨t703,t704,t705,t708⟩,A420,H⟩:=H
           replace H : (if t708=0 then (gain_Put.l0 kj35 l1 l2 a3 (wrap64 (x36_2+1)) t691 t692 t693 t703 t704 t705) else (some (t691,t692,t693,t708)))=some (r1,r2,r3,r4):=H
           have A42:=zm A420;clear A420
           by_cases c43 : t708=0
           ·
            rw [if_pos c43] at H
            have c43b0 : (t708 == 0)=true:=beq_iff_eq.mpr c43
            have c43b1 : (t708 != 0)=false:=bne_eq_false_iff_eq.mpr c43
            clear c43
            have H' := zm H
            clear H
            obtain ⟨Ao44,co44,eo44⟩:=Kd.V_slice HO_701002.out
            subst eo44
            try go_wp2
            have n0_:=zm (zC HO_690002.out);have n1_:=zm (zq HO_698002.out);have n2_:=zm (zC HO_701002.out);have n3_:=zm (zj BK689.out);have n4_:=zm (zj BK690.out);have n5_:=zm (zj BK697.out);have n6_:=zm (zj BK700.out);have n7_:=zm (zf HB.out);clear HO_690002;clear HO_698002;clear HO_701002;clear BK689;clear BK690;clear BK697;clear BK700;clear HB;have HO_690002:=n0_;have HO_698002:=n1_;have HO_701002:=n2_;have BK689:=n3_;have BK690:=n4_;have BK697:=n5_;have BK700:=n6_;have HB:=n7_;clear n0_ n1_ n2_ n3_ n4_ n5_ n6_ n7_
            have p702 : 0≤(x36_2 : Int):=of_decide_eq_true (by first|(with_reducible assumption)|assumption)
            have q702 : x36_2 < (l1.length : Int):=of_decide_eq_true (by first|(with_reducible assumption)|assumption)
            obtain ⟨ad702,e702,hx702_0⟩:=Kd.at_int HR1.out x36_2 p702 q702
            have hw702_0:=hx702_0
            cases e702
            replace hx702_0:=(HB.out.cell (zb w _ hx702_0)).trans hx702_0
            replace p702:=eq_true p702
            replace q702:=eq_true q702
            refine start_ (n:=14) (S:=fun w' => w'.cell? ⟨gb700,0,none⟩=some (.int .u64 x701000_2)∧w'.cell? ⟨gb700,1,none⟩=some (.int .u32 x701001_2)∧w'.cell? ⟨gb700,2,none⟩=some (.slice Ao44 x701002_2.length co44)∧w'.cell? (ad702.add (x36_2).toNat)=some (.int .i64 (rd l1 x36_2))) (ds := []) #[false,false,false,false,false,false,false,false,false,false,false,false,false,false] (by kernel_rfl) rfl rfl ⟨(zs BK700.out 0).trans rfl,(zs BK700.out 1).trans rfl,(zs BK700.out 2).trans rfl,((HB.out.cell (zb w _ hw702_0)).trans hw702_0)⟩ (fun hHeld => ?_);refine with_tabW gain_Put.tab11 gain_Put.bits11 (fun HT_ HW_ => ?_)
            generalize wc.drew=w45 at HO_690002 HO_698002 HO_701002 BK689 BK690 BK697 BK700 HB hx702_0 hHeld ⊢
            refine pure_ (i:=1) (N:=some 47) (v := ?_) (a' := ?_) #[false,true,false,false,false,false,false,false,false,false,false,false,false,false] rfl rfl (any_of HT_.out (by kernel_rfl)) (fun _ _ _ h=>h) (Or.inl ⟨by rfl, ?_⟩) ?_ ?_
            rotate_left
            ·
             intro w'
             go_simp
             with_reducible rfl
            rotate_left
            ·
             simp only [Act.put,List.setIfInBounds_toArray,List.set_cons_zero,List.set_cons_succ,i64_w,i32_w]
             rfl
            refine pure_ (i:=2) (N:=some 48) (v := ?_) (a' := ?_) #[false,true,true,false,false,false,false,false,false,false,false,false,false,false] rfl rfl (any_of HT_.out (by kernel_rfl)) (fun _ _ _ h=>h) (Or.inl ⟨by rfl, ?_⟩) ?_ ?_
            rotate_left
            ·
             intro w'
             go_simp
             with_reducible rfl
            rotate_left
            ·
             simp only [Act.put,List.setIfInBounds_toArray,List.set_cons_zero,List.set_cons_succ,i64_w,i32_w]
             rfl
            refine pure_ (i:=3) (N:=some 49) (v := ?_) (a' := ?_) #[false,true,true,true,false,false,false,false,false,false,false,false,false,false] rfl rfl (any_of HT_.out (by kernel_rfl)) (fun _ _ _ h=>h) (Or.inl ⟨by rfl, ?_⟩) ?_ ?_
            rotate_left
            ·
             intro w'
             go_simp
             with_reducible rfl
            rotate_left
            ·
             simp only [Act.put,List.setIfInBounds_toArray,List.set_cons_zero,List.set_cons_succ,i64_w,i32_w]
             rfl
            refine pure_ (i:=5) (N:=some 51) (v := ?_) (a' := ?_) #[false,true,true,true,false,true,false,false,false,false,false,false,false,false] rfl rfl (any_of HT_.out (by kernel_rfl)) (fun _ _ _ h=>h) (Or.inl ⟨by rfl, ?_⟩) ?_ ?_
            rotate_left
            ·
             intro w'
             go_simp
             with_reducible rfl
            rotate_left
            ·
             simp only [Act.put,List.setIfInBounds_toArray,List.set_cons_zero,List.set_cons_succ,i64_w,i32_w]
             rfl
            refine pure_ (i:=6) (N:=some 52) (v := ?_) (a' := ?_) #[false,true,true,true,false,true,true,false,false,false,false,false,false,false] rfl rfl (any_of HT_.out (by kernel_rfl)) (fun _ _ _ h=>h) (Or.inl ⟨by rfl, ?_⟩) ?_ ?_
            rotate_left
            ·
             intro w'
             go_simp
             with_reducible rfl
            rotate_left
            ·
             simp only [Act.put,List.setIfInBounds_toArray,List.set_cons_zero,List.set_cons_succ,i64_w,i32_w]
             rfl
            refine take_ (i:=0) (N:=some 46) (v := ?_) (a' := ?_) #[true,true,true,true,false,true,true,false,false,false,false,false,false,false] rfl rfl (take_ofW HT_.out HW_.out (by kernel_rfl)) (fun _ _ _ h=>h) (Or.inl ⟨by rfl, ?_⟩) hHeld ?_ ?_
            rotate_left
            ·
             rintro w' ⟨s0,s1,s2,s3⟩
             go_simp
             with_reducible rfl
            rotate_left
            ·
             simp only [Act.put,List.setIfInBounds_toArray,List.set_cons_zero,List.set_cons_succ,i64_w,i32_w]
             rfl
            refine take_ (i:=4) (N:=some 50) (v := ?_) (a' := ?_) #[true,true,true,true,true,true,true,false,false,false,false,false,false,false] rfl rfl (take_ofW HT_.out HW_.out (by kernel_rfl)) (fun _ _ _ h=>h) (Or.inl ⟨by rfl, ?_⟩) hHeld ?_ ?_
            rotate_left
            ·
             rintro w' ⟨s0,s1,s2,s3⟩
             go_simp
             with_reducible rfl
            rotate_left
            ·
             simp only [Act.put,List.setIfInBounds_toArray,List.set_cons_zero,List.set_cons_succ,i64_w,i32_w]
             rfl
            refine join_ (σ:=Value × Nat) 2 #[true,true,true,true,true,true,true,true,true,true,true,true,false,false] (fun s_ => [(53, .tuple #[.agg #[.int .u64 t703, .int .u32 t704,s_.1], .int .i64 t708]),(15, .pointer (some ⟨s_.2,0,none⟩)),(45, .tuple #[.agg #[.int .u64 t703, .int .u32 t704,s_.1], .int .i64 t708]),(54, .agg #[.int .u64 t703, .int .u32 t704,s_.1]),(55, .int .i64 t708)]) (fun s_ w' => (w'.cell? ⟨gb700,0,none⟩=some (.int .u64 x701000_2)∧w'.cell? ⟨gb700,1,none⟩=some (.int .u32 x701001_2)∧w'.cell? ⟨gb700,2,none⟩=some (.slice Ao44 x701002_2.length co44)∧w'.cell? (ad702.add (x36_2).toNat)=some (.int .i64 (rd l1 x36_2)))∧(Kd.R (Kd.int .u8) 5 w' w.heap.size (fun k_=>(w.heap.size≤k_)∧some k_≠(.slice Ao16 t693.length co16 : Value).ownBlock) s_.1 t705)∧(Kd.V (Kd.int .u8) 5 w' w.heap.size (fun k_=>(P0_2_ k_∨w.heap.size≤k_)∧some k_≠(s_.1 : Value).ownBlock∧some k_≠(.slice Ao16 t693.length co16 : Value).ownBlock∧k_≠gb689∧k_≠gb690∧k_≠gb697∧k_≠gb700∧k_≠s_.2) (.slice A0_2 l0_2.length c0_2) l0_2)∧(Kd.R (Kd.int .u8) 5 w' w.heap.size (fun k_=>(w.heap.size≤k_)∧some k_≠(s_.1 : Value).ownBlock) (.slice Ao16 t693.length co16) t693)∧(Kd.V (Kd.int .u8) 5 w' w.heap.size (fun k_=>(P0_2_ k_∨w.heap.size≤k_)∧some k_≠(s_.1 : Value).ownBlock∧some k_≠(.slice Ao16 t693.length co16 : Value).ownBlock∧k_≠gb689∧k_≠gb690∧k_≠gb697∧k_≠gb700∧k_≠s_.2) (.slice Ao44 x701002_2.length co44) x701002_2)∧(w'.heap[gb689]? = some (.cells #[.int .u64 a0_0, .int .u32 a0_1, .slice A0_2 l0_2.length c0_2] 26 (0,0)))∧(w'.heap[gb690]? = some (.cells #[.int .u64 x691000_2, .int .u32 x691001_2, .slice none 0 0] 26 (0,0)))∧(w'.heap[gb697]? = some (.cells #[.int .u64 t691, .int .u32 t692, .slice Ao16 t693.length co16] 26 (0,0)))∧(w'.heap[gb700]? = some (.cells #[.int .u64 x701000_2, .int .u32 x701001_2, .slice Ao44 x701002_2.length co44] 26 (0,0)))∧(w'.heap[s_.2]? = some (.cells #[.int .u64 0, .int .u32 0, .slice none 0 0] 26 (0,0)))∧(w.heap.size≤s_.2)∧(w.heap.size≤s_.2)∧(gb689≠s_.2)∧(s_.2≠gb689)∧(gb690≠s_.2)∧(s_.2≠gb690)∧(gb697≠s_.2)∧(s_.2≠gb697)∧(gb700≠s_.2)∧(s_.2≠gb700)∧(Below w.heap.size w w')) ?_ ?_
            rotate_left
            ·
             intro hCont
             refine two_ (i:=7) (j:=11) (Ni:=some 53) (Nj:=some 15) #[true,true,true,true,true,true,true,true,false,false,false,false,false,false] #[true,true,true,true,true,true,true,false,false,false,false,true,false,false] rfl rfl rfl rfl (two_of HT_.out (by kernel_rfl)) (by decide) (by decide) (fun K hK => ?_) (fun K hK => ?_)
             ·
              skip
              refine goes_ Try.func64 (by kernel_rfl) rfl #[.agg #[.int .u64 x701000_2, .int .u32 x701001_2, .slice Ao44 x701002_2.length co44], .int .i64 (rd l1 x36_2), .int .i64 x14_35, .bool a3] (by rfl) rfl rfl (by (try simp only [List.map_toArray,List.map_cons,List.map_nil]);first|done|rfl|(simp only [List.length_drop,List.length_take];rfl)) ?_
              with_reducible refine (gain_put.calls kj35 x701000_2 x701001_2 _ _ x701002_2 (rd l1 x36_2) x14_35 a3 t703 t704 t705 t708 _ ?side1 ?side2 A42.out).mono ?_
              (case side1=>repeat (first|exact (Kd.V_reads' HO_701002.out).2.2|(with_reducible refine Kd.C_alloc ?_ _)|(with_reducible refine Kd.C_drewN ?_ _)|(with_reducible refine Kd.C_drew ?_)))
              (case side2=>exact (Kd.V_reads' HO_701002.out).2.1)
              rintro e w46 ⟨v706,rfl,ho0,hb⟩
              refine ⟨_,rfl, ?_⟩
              have n0_:=zm (Kd.V_elder' (by (with_reducible repeat (first|apply zA|apply zB|apply zC));exact HO_690002.out) (Kd.R_base ho0) hb)
              have n1_:=zm (Kd.R_elder' (by (with_reducible repeat (first|apply zo|apply zp|apply zq));exact HO_698002.out) (Kd.R_base ho0) hb)
              have n2_:=zm (Kd.V_elder' (by (with_reducible repeat (first|apply zA|apply zB|apply zC));exact HO_701002.out) (Kd.R_base ho0) hb)
              have n3_:=zm (Kd.R_lower (Kd.R_new' (Kd.R_newM (M:=fun k_=>(w.heap.size≤k_)) ho0 (zE (by repeat (first|(with_reducible first|exact HB.out|apply ze|apply zd|apply zf|refine zk ?_ GE689.out|refine zk ?_ GE690.out|refine zk ?_ GE697.out|refine zk ?_ GE700.out)|exact HB.out))) (fun k_ h_=>h_)) (Kd.R_lt (by (with_reducible repeat (first|apply zo|apply zp|apply zq));exact HO_698002.out))) (zE (by repeat (first|(with_reducible first|exact HB.out|apply ze|apply zd|apply zf|refine zk ?_ GE689.out|refine zk ?_ GE690.out|refine zk ?_ GE697.out|refine zk ?_ GE700.out)|exact HB.out))))
              have n4_:=zm (zF (g:=gb689) (o:=.cells #[.int .u64 a0_0, .int .u32 a0_1, .slice A0_2 l0_2.length c0_2] 26 (0,0)) (by (with_reducible repeat (first|refine zh ?_ _|refine zj ?_|refine zi ?_ _));exact BK689.out) hb)
              have n5_:=zm (zF (g:=gb690) (o:=.cells #[.int .u64 x691000_2, .int .u32 x691001_2, .slice none 0 0] 26 (0,0)) (by (with_reducible repeat (first|refine zh ?_ _|refine zj ?_|refine zi ?_ _));exact BK690.out) hb)
              have n6_:=zm (zF (g:=gb697) (o:=.cells #[.int .u64 t691, .int .u32 t692, .slice Ao16 t693.length co16] 26 (0,0)) (by (with_reducible repeat (first|refine zh ?_ _|refine zj ?_|refine zi ?_ _));exact BK697.out) hb)
              have n7_:=zm (zF (g:=gb700) (o:=.cells #[.int .u64 x701000_2, .int .u32 x701001_2, .slice Ao44 x701002_2.length co44] 26 (0,0)) (by (with_reducible repeat (first|refine zh ?_ _|refine zj ?_|refine zi ?_ _));exact BK700.out) hb)
              have n8_:=zm (zJ (by repeat (first|(with_reducible first|exact HB.out|apply ze|apply zd|apply zf|refine zk ?_ GE689.out|refine zk ?_ GE690.out|refine zk ?_ GE697.out|refine zk ?_ GE700.out)|exact HB.out)) hb)
              clear HO_690002;clear HO_698002;clear HO_701002;clear BK689;clear BK690;clear BK697;clear BK700;clear HB;have HO_690002:=n0_;have HO_698002:=n1_;have HO_701002:=n2_;have HO707:=n3_;have BK689:=n4_;have BK690:=n5_;have BK697:=n6_;have BK700:=n7_;have HB:=n8_;clear n0_ n1_ n2_ n3_ n4_ n5_ n6_ n7_ n8_
              (try clear hb)
              (try clear hb2)
              (try clear hk)
              (try clear hi)
              (try clear ho0)
              refine hK.out _ _ ⟨(zs BK700.out 0).trans rfl,(zs BK700.out 1).trans rfl,(zs BK700.out 2).trans rfl,((HB.out.cell (zb w _ hw702_0)).trans hw702_0)⟩ (fun hHeld => ?_)
              clear hK K
              refine norm_ (a' := ?_) ?_ ?_
              rotate_left
              ·
               show Act.put _ (some 53) _=_
               simp only [Act.put,List.setIfInBounds_toArray,List.set_cons_zero,List.set_cons_succ,i64_w,i32_w]
               rfl
              refine pure_ (i:=8) (N:=some 45) (v := ?_) (a' := ?_) #[true,true,true,true,true,true,true,true,true,false,false,false,false,false] rfl rfl (any_of HT_.out (by kernel_rfl)) (fun _ _ _ h=>h) (Or.inl ⟨by rfl, ?_⟩) ?_ ?_
              rotate_left
              ·
               intro w'
               go_simp
               with_reducible rfl
              rotate_left
              ·
               simp only [Act.put,List.setIfInBounds_toArray,List.set_cons_zero,List.set_cons_succ,i64_w,i32_w]
               rfl
              refine pure_ (i:=9) (N:=some 54) (v := ?_) (a' := ?_) #[true,true,true,true,true,true,true,true,true,true,false,false,false,false] rfl rfl (any_of HT_.out (by kernel_rfl)) (fun _ _ _ h=>h) (Or.inl ⟨by rfl, ?_⟩) ?_ ?_
              rotate_left
              ·
               intro w'
               go_simp
               with_reducible rfl
              rotate_left
              ·
               simp only [Act.put,List.setIfInBounds_toArray,List.set_cons_zero,List.set_cons_succ,i64_w,i32_w]
               rfl
              refine pure_ (i:=10) (N:=some 55) (v := ?_) (a' := ?_) #[true,true,true,true,true,true,true,true,true,true,true,false,false,false] rfl rfl (any_of HT_.out (by kernel_rfl)) (fun _ _ _ h=>h) (Or.inl ⟨by rfl, ?_⟩) ?_ ?_
              rotate_left
              ·
               intro w'
               go_simp
               with_reducible rfl
              rotate_left
              ·
               simp only [Act.put,List.setIfInBounds_toArray,List.set_cons_zero,List.set_cons_succ,i64_w,i32_w]
               rfl
              refine one_ (i:=11) (N:=some 15) #[true,true,true,true,true,true,true,true,true,true,true,true,false,false] rfl rfl (one_of HT_.out (by kernel_rfl)) (by decide) (fun K hK => ?_)
              refine box_step ?hg (N:=15) ?hd (cs := #[.int .u64 0, .int .u32 0, .slice none 0 0]) (t:=26) ?hr ?_;(case hd=>rfl);(case hg=>rfl);(case hr=>first|(go_simp;done)|(go_simp;rfl))
              intro gb709 hg w47 hbox hb
              have n0_:=zm (Kd.V_below (Kd.V_elderB (by (with_reducible repeat (first|apply zA|apply zB|apply zC));exact HO_690002.out) gb709 (Nat.le_of_eq hg.symm)) hb)
              have n1_:=zm (Kd.R_below (by (with_reducible repeat (first|apply zo|apply zp|apply zq));exact HO_698002.out) hb)
              have n2_:=zm (Kd.V_below (Kd.V_elderB (by (with_reducible repeat (first|apply zA|apply zB|apply zC));exact HO_701002.out) gb709 (Nat.le_of_eq hg.symm)) hb)
              have n3_:=zm (Kd.R_below (by (with_reducible repeat (first|apply zo|apply zp|apply zq));exact HO707.out) hb)
              have n4_:=zm (zF (g:=gb689) (o:=.cells #[.int .u64 a0_0, .int .u32 a0_1, .slice A0_2 l0_2.length c0_2] 26 (0,0)) (by (with_reducible repeat (first|refine zh ?_ _|refine zj ?_|refine zi ?_ _));exact BK689.out) hb)
              have n5_:=zm (zF (g:=gb690) (o:=.cells #[.int .u64 x691000_2, .int .u32 x691001_2, .slice none 0 0] 26 (0,0)) (by (with_reducible repeat (first|refine zh ?_ _|refine zj ?_|refine zi ?_ _));exact BK690.out) hb)
              have n6_:=zm (zF (g:=gb697) (o:=.cells #[.int .u64 t691, .int .u32 t692, .slice Ao16 t693.length co16] 26 (0,0)) (by (with_reducible repeat (first|refine zh ?_ _|refine zj ?_|refine zi ?_ _));exact BK697.out) hb)
              have n7_:=zm (zF (g:=gb700) (o:=.cells #[.int .u64 x701000_2, .int .u32 x701001_2, .slice Ao44 x701002_2.length co44] 26 (0,0)) (by (with_reducible repeat (first|refine zh ?_ _|refine zj ?_|refine zi ?_ _));exact BK700.out) hb)
              have n8_:=zm (zJ (by repeat (first|(with_reducible first|exact HB.out|apply ze|apply zd|apply zf|refine zk ?_ GE689.out|refine zk ?_ GE690.out|refine zk ?_ GE697.out|refine zk ?_ GE700.out)|exact HB.out)) hb)
              have n9_:=zm (hbox)
              have n10_:=zm ((by rw [hg];exact (zE (by repeat (first|(with_reducible first|exact HB.out|apply ze|apply zd|apply zf|refine zk ?_ GE689.out|refine zk ?_ GE690.out|refine zk ?_ GE697.out|refine zk ?_ GE700.out)|exact HB.out))) : w.heap.size≤gb709))
              have n11_:=zm ((by rw [hg];exact (zE (by repeat (first|(with_reducible first|exact HB.out|apply ze|apply zd|apply zf|refine zk ?_ GE689.out|refine zk ?_ GE690.out|refine zk ?_ GE697.out|refine zk ?_ GE700.out)|exact HB.out))) : w.heap.size≤gb709))
              have n12_:=zm ((by rw [hg];exact zn (zD (g:=gb689) (o:=.cells #[.int .u64 a0_0, .int .u32 a0_1, .slice A0_2 l0_2.length c0_2] 26 (0,0)) (by (with_reducible repeat (first|refine zh ?_ _|refine zj ?_|refine zi ?_ _));exact BK689.out)) : gb689≠gb709))
              have n13_:=zm ((by rw [hg];exact zg (zD (g:=gb689) (o:=.cells #[.int .u64 a0_0, .int .u32 a0_1, .slice A0_2 l0_2.length c0_2] 26 (0,0)) (by (with_reducible repeat (first|refine zh ?_ _|refine zj ?_|refine zi ?_ _));exact BK689.out)) : gb709≠gb689))
              have n14_:=zm ((by rw [hg];exact zn (zD (g:=gb690) (o:=.cells #[.int .u64 x691000_2, .int .u32 x691001_2, .slice none 0 0] 26 (0,0)) (by (with_reducible repeat (first|refine zh ?_ _|refine zj ?_|refine zi ?_ _));exact BK690.out)) : gb690≠gb709))
              have n15_:=zm ((by rw [hg];exact zg (zD (g:=gb690) (o:=.cells #[.int .u64 x691000_2, .int .u32 x691001_2, .slice none 0 0] 26 (0,0)) (by (with_reducible repeat (first|refine zh ?_ _|refine zj ?_|refine zi ?_ _));exact BK690.out)) : gb709≠gb690))
              have n16_:=zm ((by rw [hg];exact zn (zD (g:=gb697) (o:=.cells #[.int .u64 t691, .int .u32 t692, .slice Ao16 t693.length co16] 26 (0,0)) (by (with_reducible repeat (first|refine zh ?_ _|refine zj ?_|refine zi ?_ _));exact BK697.out)) : gb697≠gb709))
              have n17_:=zm ((by rw [hg];exact zg (zD (g:=gb697) (o:=.cells #[.int .u64 t691, .int .u32 t692, .slice Ao16 t693.length co16] 26 (0,0)) (by (with_reducible repeat (first|refine zh ?_ _|refine zj ?_|refine zi ?_ _));exact BK697.out)) : gb709≠gb697))
              have n18_:=zm ((by rw [hg];exact zn (zD (g:=gb700) (o:=.cells #[.int .u64 x701000_2, .int .u32 x701001_2, .slice Ao44 x701002_2.length co44] 26 (0,0)) (by (with_reducible repeat (first|refine zh ?_ _|refine zj ?_|refine zi ?_ _));exact BK700.out)) : gb700≠gb709))
              have n19_:=zm ((by rw [hg];exact zg (zD (g:=gb700) (o:=.cells #[.int .u64 x701000_2, .int .u32 x701001_2, .slice Ao44 x701002_2.length co44] 26 (0,0)) (by (with_reducible repeat (first|refine zh ?_ _|refine zj ?_|refine zi ?_ _));exact BK700.out)) : gb709≠gb700))
              clear HO_690002;clear HO_698002;clear HO_701002;clear HO707;clear BK689;clear BK690;clear BK697;clear BK700;clear HB;have HO_690002:=n0_;have HO_698002:=n1_;have HO_701002:=n2_;have HO707:=n3_;have BK689:=n4_;have BK690:=n5_;have BK697:=n6_;have BK700:=n7_;have HB:=n8_;have BK709:=n9_;have GW709:=n10_;have GE709:=n11_;have NB689_709:=n12_;have NB709_689:=n13_;have NB690_709:=n14_;have NB709_690:=n15_;have NB697_709:=n16_;have NB709_697:=n17_;have NB700_709:=n18_;have NB709_700:=n19_;clear n0_ n1_ n2_ n3_ n4_ n5_ n6_ n7_ n8_ n9_ n10_ n11_ n12_ n13_ n14_ n15_ n16_ n17_ n18_ n19_;clear hb hbox hg
              refine hK.out _ _ ⟨(zs BK700.out 0).trans rfl,(zs BK700.out 1).trans rfl,(zs BK700.out 2).trans rfl,((HB.out.cell (zb w _ hw702_0)).trans hw702_0)⟩ (fun hHeld => ?_)
              clear hK K
              refine norm_ (a' := ?_) ?_ ?_
              rotate_left
              ·
               show Act.put _ (some 15) _=_
               simp only [Act.put,List.setIfInBounds_toArray,List.set_cons_zero,List.set_cons_succ,i64_w,i32_w]
               rfl
              exact norm_ (by simp only [putAll,Act.put,List.setIfInBounds_toArray,List.set_cons_zero,List.set_cons_succ]) (hCont (v706,gb709) _ ⟨hHeld,(by (with_reducible repeat (first|apply zo|apply zp|apply zq));exact zG HO707.out (fun _ hk=>⟨hk.1.1,hk.2⟩)),(by (with_reducible repeat (first|apply zA|apply zB|apply zC));exact zy HO_690002.out (fun _ hk=>⟨hk.1.1.1,⟨hk.1.2,⟨hk.1.1.2.1,⟨hk.1.1.2.2.1,⟨hk.1.1.2.2.2.1,⟨hk.1.1.2.2.2.2.1,⟨hk.1.1.2.2.2.2.2,hk.2⟩⟩⟩⟩⟩⟩⟩)),(by (with_reducible repeat (first|apply zo|apply zp|apply zq));exact HO_698002.out),(by (with_reducible repeat (first|apply zA|apply zB|apply zC));exact zy HO_701002.out (fun _ hk=>⟨hk.1.1.1,⟨hk.1.2,⟨hk.1.1.2.1,⟨hk.1.1.2.2.1,⟨hk.1.1.2.2.2.1,⟨hk.1.1.2.2.2.2.1,⟨hk.1.1.2.2.2.2.2,hk.2⟩⟩⟩⟩⟩⟩⟩)),(by (with_reducible repeat (first|refine zh ?_ _|refine zj ?_|refine zi ?_ _));exact BK689.out),(by (with_reducible repeat (first|refine zh ?_ _|refine zj ?_|refine zi ?_ _));exact BK690.out),(by (with_reducible repeat (first|refine zh ?_ _|refine zj ?_|refine zi ?_ _));exact BK697.out),(by (with_reducible repeat (first|refine zh ?_ _|refine zj ?_|refine zi ?_ _));exact BK700.out),(by (with_reducible repeat (first|refine zh ?_ _|refine zj ?_|refine zi ?_ _));exact BK709.out),GW709.out,GE709.out,NB689_709.out,NB709_689.out,NB690_709.out,NB709_690.out,NB697_709.out,NB709_697.out,NB700_709.out,NB709_700.out,(by repeat (first|(with_reducible first|exact HB.out|apply ze|apply zd|apply zf|refine zk ?_ GE689.out|refine zk ?_ GE690.out|refine zk ?_ GE697.out|refine zk ?_ GE700.out|refine zk ?_ GE709.out)|exact HB.out))⟩)
             ·
              skip
              refine box_step ?hg (N:=15) ?hd (cs := #[.int .u64 0, .int .u32 0, .slice none 0 0]) (t:=26) ?hr ?_;(case hd=>rfl);(case hg=>rfl);(case hr=>first|(go_simp;done)|(go_simp;rfl))
              intro gb709 hg w46 hbox hb
              have n0_:=zm (Kd.V_below (Kd.V_elderB (by (with_reducible repeat (first|apply zA|apply zB|apply zC));exact HO_690002.out) gb709 (Nat.le_of_eq hg.symm)) hb)
              have n1_:=zm (Kd.R_below (by (with_reducible repeat (first|apply zo|apply zp|apply zq));exact HO_698002.out) hb)
              have n2_:=zm (Kd.V_below (Kd.V_elderB (by (with_reducible repeat (first|apply zA|apply zB|apply zC));exact HO_701002.out) gb709 (Nat.le_of_eq hg.symm)) hb)
              have n3_:=zm (zF (g:=gb689) (o:=.cells #[.int .u64 a0_0, .int .u32 a0_1, .slice A0_2 l0_2.length c0_2] 26 (0,0)) (by (with_reducible repeat (first|refine zh ?_ _|refine zj ?_|refine zi ?_ _));exact BK689.out) hb)
              have n4_:=zm (zF (g:=gb690) (o:=.cells #[.int .u64 x691000_2, .int .u32 x691001_2, .slice none 0 0] 26 (0,0)) (by (with_reducible repeat (first|refine zh ?_ _|refine zj ?_|refine zi ?_ _));exact BK690.out) hb)
              have n5_:=zm (zF (g:=gb697) (o:=.cells #[.int .u64 t691, .int .u32 t692, .slice Ao16 t693.length co16] 26 (0,0)) (by (with_reducible repeat (first|refine zh ?_ _|refine zj ?_|refine zi ?_ _));exact BK697.out) hb)
              have n6_:=zm (zF (g:=gb700) (o:=.cells #[.int .u64 x701000_2, .int .u32 x701001_2, .slice Ao44 x701002_2.length co44] 26 (0,0)) (by (with_reducible repeat (first|refine zh ?_ _|refine zj ?_|refine zi ?_ _));exact BK700.out) hb)
              have n7_:=zm (zJ (by repeat (first|(with_reducible first|exact HB.out|apply ze|apply zd|apply zf|refine zk ?_ GE689.out|refine zk ?_ GE690.out|refine zk ?_ GE697.out|refine zk ?_ GE700.out)|exact HB.out)) hb)
              have n8_:=zm (hbox)
              have n9_:=zm ((by rw [hg];exact (zE (by repeat (first|(with_reducible first|exact HB.out|apply ze|apply zd|apply zf|refine zk ?_ GE689.out|refine zk ?_ GE690.out|refine zk ?_ GE697.out|refine zk ?_ GE700.out)|exact HB.out))) : w.heap.size≤gb709))
              have n10_:=zm ((by rw [hg];exact (zE (by repeat (first|(with_reducible first|exact HB.out|apply ze|apply zd|apply zf|refine zk ?_ GE689.out|refine zk ?_ GE690.out|refine zk ?_ GE697.out|refine zk ?_ GE700.out)|exact HB.out))) : w.heap.size≤gb709))
              have n11_:=zm ((by rw [hg];exact zn (zD (g:=gb689) (o:=.cells #[.int .u64 a0_0, .int .u32 a0_1, .slice A0_2 l0_2.length c0_2] 26 (0,0)) (by (with_reducible repeat (first|refine zh ?_ _|refine zj ?_|refine zi ?_ _));exact BK689.out)) : gb689≠gb709))
              have n12_:=zm ((by rw [hg];exact zg (zD (g:=gb689) (o:=.cells #[.int .u64 a0_0, .int .u32 a0_1, .slice A0_2 l0_2.length c0_2] 26 (0,0)) (by (with_reducible repeat (first|refine zh ?_ _|refine zj ?_|refine zi ?_ _));exact BK689.out)) : gb709≠gb689))
              have n13_:=zm ((by rw [hg];exact zn (zD (g:=gb690) (o:=.cells #[.int .u64 x691000_2, .int .u32 x691001_2, .slice none 0 0] 26 (0,0)) (by (with_reducible repeat (first|refine zh ?_ _|refine zj ?_|refine zi ?_ _));exact BK690.out)) : gb690≠gb709))
              have n14_:=zm ((by rw [hg];exact zg (zD (g:=gb690) (o:=.cells #[.int .u64 x691000_2, .int .u32 x691001_2, .slice none 0 0] 26 (0,0)) (by (with_reducible repeat (first|refine zh ?_ _|refine zj ?_|refine zi ?_ _));exact BK690.out)) : gb709≠gb690))
              have n15_:=zm ((by rw [hg];exact zn (zD (g:=gb697) (o:=.cells #[.int .u64 t691, .int .u32 t692, .slice Ao16 t693.length co16] 26 (0,0)) (by (with_reducible repeat (first|refine zh ?_ _|refine zj ?_|refine zi ?_ _));exact BK697.out)) : gb697≠gb709))
              have n16_:=zm ((by rw [hg];exact zg (zD (g:=gb697) (o:=.cells #[.int .u64 t691, .int .u32 t692, .slice Ao16 t693.length co16] 26 (0,0)) (by (with_reducible repeat (first|refine zh ?_ _|refine zj ?_|refine zi ?_ _));exact BK697.out)) : gb709≠gb697))
              have n17_:=zm ((by rw [hg];exact zn (zD (g:=gb700) (o:=.cells #[.int .u64 x701000_2, .int .u32 x701001_2, .slice Ao44 x701002_2.length co44] 26 (0,0)) (by (with_reducible repeat (first|refine zh ?_ _|refine zj ?_|refine zi ?_ _));exact BK700.out)) : gb700≠gb709))
              have n18_:=zm ((by rw [hg];exact zg (zD (g:=gb700) (o:=.cells #[.int .u64 x701000_2, .int .u32 x701001_2, .slice Ao44 x701002_2.length co44] 26 (0,0)) (by (with_reducible repeat (first|refine zh ?_ _|refine zj ?_|refine zi ?_ _));exact BK700.out)) : gb709≠gb700))
              clear HO_690002;clear HO_698002;clear HO_701002;clear BK689;clear BK690;clear BK697;clear BK700;clear HB;have HO_690002:=n0_;have HO_698002:=n1_;have HO_701002:=n2_;have BK689:=n3_;have BK690:=n4_;have BK697:=n5_;have BK700:=n6_;have HB:=n7_;have BK709:=n8_;have GW709:=n9_;have GE709:=n10_;have NB689_709:=n11_;have NB709_689:=n12_;have NB690_709:=n13_;have NB709_690:=n14_;have NB697_709:=n15_;have NB709_697:=n16_;have NB700_709:=n17_;have NB709_700:=n18_;clear n0_ n1_ n2_ n3_ n4_ n5_ n6_ n7_ n8_ n9_ n10_ n11_ n12_ n13_ n14_ n15_ n16_ n17_ n18_;clear hb hbox hg
              refine hK.out _ _ ⟨(zs BK700.out 0).trans rfl,(zs BK700.out 1).trans rfl,(zs BK700.out 2).trans rfl,((HB.out.cell (zb w _ hw702_0)).trans hw702_0)⟩ (fun hHeld => ?_)
              clear hK K
              refine norm_ (a' := ?_) ?_ ?_
              rotate_left
              ·
               show Act.put _ (some 15) _=_
               simp only [Act.put,List.setIfInBounds_toArray,List.set_cons_zero,List.set_cons_succ,i64_w,i32_w]
               rfl
              refine one_ (i:=7) (N:=some 53) #[true,true,true,true,true,true,true,true,false,false,false,true,false,false] rfl rfl (one_of HT_.out (by kernel_rfl)) (by decide) (fun K hK => ?_)
              refine goes_ Try.func64 (by kernel_rfl) rfl #[.agg #[.int .u64 x701000_2, .int .u32 x701001_2, .slice Ao44 x701002_2.length co44], .int .i64 (rd l1 x36_2), .int .i64 x14_35, .bool a3] (by rfl) rfl rfl (by (try simp only [List.map_toArray,List.map_cons,List.map_nil]);first|done|rfl|(simp only [List.length_drop,List.length_take];rfl)) ?_
              with_reducible refine (gain_put.calls kj35 x701000_2 x701001_2 _ _ x701002_2 (rd l1 x36_2) x14_35 a3 t703 t704 t705 t708 _ ?side1 ?side2 A42.out).mono ?_
              (case side1=>repeat (first|exact (Kd.V_reads' HO_701002.out).2.2|(with_reducible refine Kd.C_alloc ?_ _)|(with_reducible refine Kd.C_drewN ?_ _)|(with_reducible refine Kd.C_drew ?_)))
              (case side2=>exact (Kd.V_reads' HO_701002.out).2.1)
              rintro e w47 ⟨v706,rfl,ho0,hb⟩
              refine ⟨_,rfl, ?_⟩
              have n0_:=zm (Kd.V_elder' (by (with_reducible repeat (first|apply zA|apply zB|apply zC));exact HO_690002.out) (Kd.R_base ho0) hb)
              have n1_:=zm (Kd.R_elder' (by (with_reducible repeat (first|apply zo|apply zp|apply zq));exact HO_698002.out) (Kd.R_base ho0) hb)
              have n2_:=zm (Kd.V_elder' (by (with_reducible repeat (first|apply zA|apply zB|apply zC));exact HO_701002.out) (Kd.R_base ho0) hb)
              have n3_:=zm (Kd.R_lower (Kd.R_new' (Kd.R_newM (M:=fun k_=>(w.heap.size≤k_)) ho0 (zE (by repeat (first|(with_reducible first|exact HB.out|apply ze|apply zd|apply zf|refine zk ?_ GE689.out|refine zk ?_ GE690.out|refine zk ?_ GE697.out|refine zk ?_ GE700.out|refine zk ?_ GE709.out)|exact HB.out))) (fun k_ h_=>h_)) (Kd.R_lt (by (with_reducible repeat (first|apply zo|apply zp|apply zq));exact HO_698002.out))) (zE (by repeat (first|(with_reducible first|exact HB.out|apply ze|apply zd|apply zf|refine zk ?_ GE689.out|refine zk ?_ GE690.out|refine zk ?_ GE697.out|refine zk ?_ GE700.out|refine zk ?_ GE709.out)|exact HB.out))))
              have n4_:=zm (zF (g:=gb689) (o:=.cells #[.int .u64 a0_0, .int .u32 a0_1, .slice A0_2 l0_2.length c0_2] 26 (0,0)) (by (with_reducible repeat (first|refine zh ?_ _|refine zj ?_|refine zi ?_ _));exact BK689.out) hb)
              have n5_:=zm (zF (g:=gb690) (o:=.cells #[.int .u64 x691000_2, .int .u32 x691001_2, .slice none 0 0] 26 (0,0)) (by (with_reducible repeat (first|refine zh ?_ _|refine zj ?_|refine zi ?_ _));exact BK690.out) hb)
              have n6_:=zm (zF (g:=gb697) (o:=.cells #[.int .u64 t691, .int .u32 t692, .slice Ao16 t693.length co16] 26 (0,0)) (by (with_reducible repeat (first|refine zh ?_ _|refine zj ?_|refine zi ?_ _));exact BK697.out) hb)
              have n7_:=zm (zF (g:=gb700) (o:=.cells #[.int .u64 x701000_2, .int .u32 x701001_2, .slice Ao44 x701002_2.length co44] 26 (0,0)) (by (with_reducible repeat (first|refine zh ?_ _|refine zj ?_|refine zi ?_ _));exact BK700.out) hb)
              have n8_:=zm (zF (g:=gb709) (o:=.cells #[.int .u64 0, .int .u32 0, .slice none 0 0] 26 (0,0)) (by (with_reducible repeat (first|refine zh ?_ _|refine zj ?_|refine zi ?_ _));exact BK709.out) hb)
              have n9_:=zm (zJ (by repeat (first|(with_reducible first|exact HB.out|apply ze|apply zd|apply zf|refine zk ?_ GE689.out|refine zk ?_ GE690.out|refine zk ?_ GE697.out|refine zk ?_ GE700.out|refine zk ?_ GE709.out)|exact HB.out)) hb)
              clear HO_690002;clear HO_698002;clear HO_701002;clear BK689;clear BK690;clear BK697;clear BK700;clear BK709;clear HB;have HO_690002:=n0_;have HO_698002:=n1_;have HO_701002:=n2_;have HO707:=n3_;have BK689:=n4_;have BK690:=n5_;have BK697:=n6_;have BK700:=n7_;have BK709:=n8_;have HB:=n9_;clear n0_ n1_ n2_ n3_ n4_ n5_ n6_ n7_ n8_ n9_
              (try clear hb)
              (try clear hb2)
              (try clear hk)
              (try clear hi)
              (try clear ho0)
              refine hK.out _ _ ⟨(zs BK700.out 0).trans rfl,(zs BK700.out 1).trans rfl,(zs BK700.out 2).trans rfl,((HB.out.cell (zb w _ hw702_0)).trans hw702_0)⟩ (fun hHeld => ?_)
              clear hK K
              refine norm_ (a' := ?_) ?_ ?_
              rotate_left
              ·
               show Act.put _ (some 53) _=_
               simp only [Act.put,List.setIfInBounds_toArray,List.set_cons_zero,List.set_cons_succ,i64_w,i32_w]
               rfl
              refine pure_ (i:=8) (N:=some 45) (v := ?_) (a' := ?_) #[true,true,true,true,true,true,true,true,true,false,false,true,false,false] rfl rfl (any_of HT_.out (by kernel_rfl)) (fun _ _ _ h=>h) (Or.inl ⟨by rfl, ?_⟩) ?_ ?_
              rotate_left
              ·
               intro w'
               go_simp
               with_reducible rfl
              rotate_left
              ·
               simp only [Act.put,List.setIfInBounds_toArray,List.set_cons_zero,List.set_cons_succ,i64_w,i32_w]
               rfl
              refine pure_ (i:=9) (N:=some 54) (v := ?_) (a' := ?_) #[true,true,true,true,true,true,true,true,true,true,false,true,false,false] rfl rfl (any_of HT_.out (by kernel_rfl)) (fun _ _ _ h=>h) (Or.inl ⟨by rfl, ?_⟩) ?_ ?_
              rotate_left
              ·
               intro w'
               go_simp
               with_reducible rfl
              rotate_left
              ·
               simp only [Act.put,List.setIfInBounds_toArray,List.set_cons_zero,List.set_cons_succ,i64_w,i32_w]
               rfl
              refine pure_ (i:=10) (N:=some 55) (v := ?_) (a' := ?_) #[true,true,true,true,true,true,true,true,true,true,true,true,false,false] rfl rfl (any_of HT_.out (by kernel_rfl)) (fun _ _ _ h=>h) (Or.inl ⟨by rfl, ?_⟩) ?_ ?_
              rotate_left
              ·
               intro w'
               go_simp
               with_reducible rfl
              rotate_left
              ·
               simp only [Act.put,List.setIfInBounds_toArray,List.set_cons_zero,List.set_cons_succ,i64_w,i32_w]
               rfl
              exact norm_ (by simp only [putAll,Act.put,List.setIfInBounds_toArray,List.set_cons_zero,List.set_cons_succ]) (hCont (v706,gb709) _ ⟨hHeld,(by (with_reducible repeat (first|apply zo|apply zp|apply zq));exact zG HO707.out (fun _ hk=>⟨hk.1.1,hk.2⟩)),(by (with_reducible repeat (first|apply zA|apply zB|apply zC));exact zy HO_690002.out (fun _ hk=>⟨hk.1.1.1,⟨hk.2,⟨hk.1.1.2.1,⟨hk.1.1.2.2.1,⟨hk.1.1.2.2.2.1,⟨hk.1.1.2.2.2.2.1,⟨hk.1.1.2.2.2.2.2,hk.1.2⟩⟩⟩⟩⟩⟩⟩)),(by (with_reducible repeat (first|apply zo|apply zp|apply zq));exact HO_698002.out),(by (with_reducible repeat (first|apply zA|apply zB|apply zC));exact zy HO_701002.out (fun _ hk=>⟨hk.1.1.1,⟨hk.2,⟨hk.1.1.2.1,⟨hk.1.1.2.2.1,⟨hk.1.1.2.2.2.1,⟨hk.1.1.2.2.2.2.1,⟨hk.1.1.2.2.2.2.2,hk.1.2⟩⟩⟩⟩⟩⟩⟩)),(by (with_reducible repeat (first|refine zh ?_ _|refine zj ?_|refine zi ?_ _));exact BK689.out),(by (with_reducible repeat (first|refine zh ?_ _|refine zj ?_|refine zi ?_ _));exact BK690.out),(by (with_reducible repeat (first|refine zh ?_ _|refine zj ?_|refine zi ?_ _));exact BK697.out),(by (with_reducible repeat (first|refine zh ?_ _|refine zj ?_|refine zi ?_ _));exact BK700.out),(by (with_reducible repeat (first|refine zh ?_ _|refine zj ?_|refine zi ?_ _));exact BK709.out),GW709.out,GE709.out,NB689_709.out,NB709_689.out,NB690_709.out,NB709_690.out,NB697_709.out,NB709_697.out,NB700_709.out,NB709_700.out,(by repeat (first|(with_reducible first|exact HB.out|apply ze|apply zd|apply zf|refine zk ?_ GE689.out|refine zk ?_ GE690.out|refine zk ?_ GE697.out|refine zk ?_ GE700.out|refine zk ?_ GE709.out)|exact HB.out))⟩)
            rintro ⟨v706,gb709⟩ w48 ⟨hS_,h0_,h1_,h2_,h3_,h4_,h5_,h6_,h7_,h8_,h9_,h10_,h11_,h12_,h13_,h14_,h15_,h16_,h17_,h18_,h19_⟩
            have n0_ : Aside0 (Kd.R (Kd.int .u8) 5 w48 w.heap.size (fun k_=>(w.heap.size≤k_)∧some k_≠(.slice Ao16 t693.length co16 : Value).ownBlock) v706 t705):=⟨h0_⟩
            have n1_ : Aside0 (Kd.V (Kd.int .u8) 5 w48 w.heap.size (fun k_=>(P0_2_ k_∨w.heap.size≤k_)∧some k_≠(v706 : Value).ownBlock∧some k_≠(.slice Ao16 t693.length co16 : Value).ownBlock∧k_≠gb689∧k_≠gb690∧k_≠gb697∧k_≠gb700∧k_≠gb709) (.slice A0_2 l0_2.length c0_2) l0_2):=⟨h1_⟩
            have n2_ : Aside0 (Kd.R (Kd.int .u8) 5 w48 w.heap.size (fun k_=>(w.heap.size≤k_)∧some k_≠(v706 : Value).ownBlock) (.slice Ao16 t693.length co16) t693):=⟨h2_⟩
            have n3_ : Aside0 (Kd.V (Kd.int .u8) 5 w48 w.heap.size (fun k_=>(P0_2_ k_∨w.heap.size≤k_)∧some k_≠(v706 : Value).ownBlock∧some k_≠(.slice Ao16 t693.length co16 : Value).ownBlock∧k_≠gb689∧k_≠gb690∧k_≠gb697∧k_≠gb700∧k_≠gb709) (.slice Ao44 x701002_2.length co44) x701002_2):=⟨h3_⟩
            have n4_ : Aside0 (w48.heap[gb689]? = some (.cells #[.int .u64 a0_0, .int .u32 a0_1, .slice A0_2 l0_2.length c0_2] 26 (0,0))):=⟨h4_⟩
            have n5_ : Aside0 (w48.heap[gb690]? = some (.cells #[.int .u64 x691000_2, .int .u32 x691001_2, .slice none 0 0] 26 (0,0))):=⟨h5_⟩
            have n6_ : Aside0 (w48.heap[gb697]? = some (.cells #[.int .u64 t691, .int .u32 t692, .slice Ao16 t693.length co16] 26 (0,0))):=⟨h6_⟩
            have n7_ : Aside0 (w48.heap[gb700]? = some (.cells #[.int .u64 x701000_2, .int .u32 x701001_2, .slice Ao44 x701002_2.length co44] 26 (0,0))):=⟨h7_⟩
            have n8_ : Aside0 (w48.heap[gb709]? = some (.cells #[.int .u64 0, .int .u32 0, .slice none 0 0] 26 (0,0))):=⟨h8_⟩
            have n9_ : Aside0 (w.heap.size≤gb709):=⟨h9_⟩
            have n10_ : Aside0 (w.heap.size≤gb709):=⟨h10_⟩
            have n11_ : Aside0 (gb689≠gb709):=⟨h11_⟩
            have n12_ : Aside0 (gb709≠gb689):=⟨h12_⟩
            have n13_ : Aside0 (gb690≠gb709):=⟨h13_⟩
            have n14_ : Aside0 (gb709≠gb690):=⟨h14_⟩
            have n15_ : Aside0 (gb697≠gb709):=⟨h15_⟩
            have n16_ : Aside0 (gb709≠gb697):=⟨h16_⟩
            have n17_ : Aside0 (gb700≠gb709):=⟨h17_⟩
            have n18_ : Aside0 (gb709≠gb700):=⟨h18_⟩
            have n19_ : Aside0 (Below w.heap.size w w48):=⟨h19_⟩
            clear HO_690002;clear HO_698002;clear HO_701002;clear BK689;clear BK690;clear BK697;clear BK700;clear HB;clear h0_ h1_ h2_ h3_ h4_ h5_ h6_ h7_ h8_ h9_ h10_ h11_ h12_ h13_ h14_ h15_ h16_ h17_ h18_ h19_;have HO707:=n0_;have HO_690002:=n1_;have HO_698002:=n2_;have HO_701002:=n3_;have BK689:=n4_;have BK690:=n5_;have BK697:=n6_;have BK700:=n7_;have BK709:=n8_;have GW709:=n9_;have GE709:=n10_;have NB689_709:=n11_;have NB709_689:=n12_;have NB690_709:=n13_;have NB709_690:=n14_;have NB697_709:=n15_;have NB709_697:=n16_;have NB700_709:=n17_;have NB709_700:=n18_;have HB:=n19_;clear n0_ n1_ n2_ n3_ n4_ n5_ n6_ n7_ n8_ n9_ n10_ n11_ n12_ n13_ n14_ n15_ n16_ n17_ n18_ n19_
            have hHeld : w48.cell? ⟨gb700,0,none⟩=some (.int .u64 x701000_2)∧w48.cell? ⟨gb700,1,none⟩=some (.int .u32 x701001_2)∧w48.cell? ⟨gb700,2,none⟩=some (.slice Ao44 x701002_2.length co44)∧w48.cell? (ad702.add (x36_2).toNat)=some (.int .i64 (rd l1 x36_2)):=hS_
            obtain ⟨Ao51,co51,eo51⟩:=Kd.R_slice HO707.out
            (first|subst eo51|(injection eo51 with f1_ f2_ f3_;have f4_:=f1_.symm;have f5_:=f3_.symm;clear f1_ f2_ f3_;subst f4_;subst f5_))
            refine norm_ (a' := ?_) ?_ ?_
            rotate_left
            ·
             simp only [putAll,Act.put,List.setIfInBounds_toArray,List.set_cons_zero,List.set_cons_succ]
             rfl
            refine one_ (i:=12) (N:=none) #[true,true,true,true,true,true,true,true,true,true,true,true,true,false] rfl rfl (one_of HT_.out (by kernel_rfl)) (by decide) (fun K hK => ?_)
            have hs49 : w48.cell? ⟨gb709,0,none⟩=some (.int .u64 0):=(zs BK709.out 0).trans rfl
            have hfs49:=zx BK709.out 0
            have hns49_0:=NB689_709.out;have hns49_1:=NB690_709.out;have hns49_2:=NB697_709.out;have hns49_3:=NB700_709.out;have hms49_0:=NB709_689.out;have hms49_1:=NB709_690.out;have hms49_2:=NB709_697.out;have hms49_3:=NB709_700.out
            have hs50 : w48.cell? ⟨gb709,1,none⟩=some (.int .u32 0):=(zs BK709.out 1).trans rfl
            have hfs50:=zx BK709.out 1
            have hns50_0:=NB689_709.out;have hns50_1:=NB690_709.out;have hns50_2:=NB697_709.out;have hns50_3:=NB700_709.out;have hms50_0:=NB709_689.out;have hms50_1:=NB709_690.out;have hms50_2:=NB709_697.out;have hms50_3:=NB709_700.out
            have hs52 : w48.cell? ⟨gb709,2,none⟩=some (.slice none 0 0):=(zs BK709.out 2).trans rfl
            have hfs52:=zx BK709.out 2
            have hns52_0:=NB689_709.out;have hns52_1:=NB690_709.out;have hns52_2:=NB697_709.out;have hns52_3:=NB700_709.out;have hms52_0:=NB709_689.out;have hms52_1:=NB709_690.out;have hms52_2:=NB709_697.out;have hms52_3:=NB709_700.out
            refine skip_ (w1 := ?_) (by rfl) rfl ?_ ?_
            rotate_left
            ·
             go_simp
             rfl
            refine hK.out _ _ ⟨((zr (p:=⟨gb709,_,none⟩) NB700_709.out _).trans (((zr (p:=⟨gb709,_,none⟩) NB700_709.out _).trans (((zr (p:=⟨gb709,_,none⟩) NB700_709.out _).trans (hHeld.1)))))),((zr (p:=⟨gb709,_,none⟩) NB700_709.out _).trans (((zr (p:=⟨gb709,_,none⟩) NB700_709.out _).trans (((zr (p:=⟨gb709,_,none⟩) NB700_709.out _).trans (hHeld.2.1)))))),((zr (p:=⟨gb709,_,none⟩) NB700_709.out _).trans (((zr (p:=⟨gb709,_,none⟩) NB700_709.out _).trans (((zr (p:=⟨gb709,_,none⟩) NB700_709.out _).trans (hHeld.2.2.1)))))),((zr (p:=⟨gb709,_,none⟩) (by first|exact zn (zl (by have:=zb _ _ hw702_0;first|rwa [za] at this|exact this) GW709.out)|(rw [za];exact zn (zl (by have:=zb _ _ hw702_0;first|rwa [za] at this|exact this) GW709.out))|(show (Addr.add _ _).block≠_;rw [za];exact zn (zl (by have:=zb _ _ hw702_0;first|rwa [za] at this|exact this) GW709.out))|(dsimp only;exact zn (zl (by have:=zb _ _ hw702_0;first|rwa [za] at this|exact this) GW709.out))) _).trans (((zr (p:=⟨gb709,_,none⟩) (by first|exact zn (zl (by have:=zb _ _ hw702_0;first|rwa [za] at this|exact this) GW709.out)|(rw [za];exact zn (zl (by have:=zb _ _ hw702_0;first|rwa [za] at this|exact this) GW709.out))|(show (Addr.add _ _).block≠_;rw [za];exact zn (zl (by have:=zb _ _ hw702_0;first|rwa [za] at this|exact this) GW709.out))|(dsimp only;exact zn (zl (by have:=zb _ _ hw702_0;first|rwa [za] at this|exact this) GW709.out))) _).trans (((zr (p:=⟨gb709,_,none⟩) (by first|exact zn (zl (by have:=zb _ _ hw702_0;first|rwa [za] at this|exact this) GW709.out)|(rw [za];exact zn (zl (by have:=zb _ _ hw702_0;first|rwa [za] at this|exact this) GW709.out))|(show (Addr.add _ _).block≠_;rw [za];exact zn (zl (by have:=zb _ _ hw702_0;first|rwa [za] at this|exact this) GW709.out))|(dsimp only;exact zn (zl (by have:=zb _ _ hw702_0;first|rwa [za] at this|exact this) GW709.out))) _).trans (hHeld.2.2.2))))))⟩ (fun hHeld => ?_)
            clear hK K
            refine pure_ (i:=13) (N:=some 16) (v := ?_) (a' := ?_) #[true,true,true,true,true,true,true,true,true,true,true,true,true,true] rfl rfl (any_of HT_.out (by kernel_rfl)) (fun _ _ _ h=>h) (Or.inl ⟨by rfl, ?_⟩) ?_ ?_
            rotate_left
            ·
             intro w'
             go_simp
             with_reducible rfl
            rotate_left
            ·
             simp only [Act.put,List.setIfInBounds_toArray,List.set_cons_zero,List.set_cons_succ,i64_w,i32_w]
             rfl
            refine done_ (done_of HT_.out (by kernel_rfl)) ?_
            have hnb53:=NB709_689.out;have hnc53:=NB689_709.out;have hnb54:=NB709_690.out;have hnc54:=NB690_709.out;have hnb55:=NB709_697.out;have hnc55:=NB697_709.out;have hnb56:=NB709_700.out;have hnc56:=NB700_709.out
            have hcz57_0 : w48.cell? ⟨gb709,0,none⟩=some (.int .u64 0):=(zs BK709.out 0).trans rfl
            have hcz57_1 : w48.cell? ⟨gb709,1,none⟩=some (.int .u32 0):=(zs BK709.out 1).trans rfl
            have hcz57_2 : w48.cell? ⟨gb709,2,none⟩=some (.slice none 0 0):=(zs BK709.out 2).trans rfl
            have hfz57_0:=zx BK709.out 0
            have hfz57_1:=zx BK709.out 1
            have hfz57_2:=zx BK709.out 2
            have hnb58:=NB700_689.out;have hnc58:=NB689_700.out;have hnb59:=NB700_690.out;have hnc59:=NB690_700.out;have hnb60:=NB700_697.out;have hnc60:=NB697_700.out
            have hcz61_0 : w48.cell? ⟨gb700,0,none⟩=some (.int .u64 x701000_2):=(zs BK700.out 0).trans rfl
            have hcz61_1 : w48.cell? ⟨gb700,1,none⟩=some (.int .u32 x701001_2):=(zs BK700.out 1).trans rfl
            have hcz61_2 : w48.cell? ⟨gb700,2,none⟩=some (.slice Ao44 x701002_2.length co44):=(zs BK700.out 2).trans rfl
            have hfz61_0:=zx BK700.out 0
            have hfz61_1:=zx BK700.out 1
            have hfz61_2:=zx BK700.out 2
            try go_wp2
            go_roundg kj35
            case measure=>have:=HJ5.out;have:=HK2.out;have:=HJ35.out;omega
            case rel=>exact ⟨(wrap64 (x36_2+1)),(x691000_2),(x691001_2),(t703),(t704),(t705),(.slice Ao51 t705.length co51),(by first|rfl|(simp;done)|(simp [*];done)),H',⟨by have:=HJ5.out;have:=HK2.out;have:=HJ35.out;omega⟩,⟨by (with_reducible repeat (first|apply zA|apply zB|apply zC));exact zy (zI (p:=⟨gb700,2,none⟩) (zI (p:=⟨gb700,1,none⟩) (zI (p:=⟨gb700,0,none⟩) (zI (p:=⟨gb709,2,none⟩) (zI (p:=⟨gb709,1,none⟩) (zI (p:=⟨gb709,0,none⟩) (zy (zy HO_690002.out (fun k_ hk=>(⟨hk,hk.2.2.2.2.2.2.2⟩ : _∧k_≠gb709))) (fun k_ hk=>(⟨hk,hk.1.2.2.2.2.2.2.1⟩ : _∧k_≠gb700))) (fun _ hk=>hk.1.2) (.int .u64 t703)) (fun _ hk=>hk.1.2) (.int .u32 t704)) (fun _ hk=>hk.1.2) (.slice Ao51 t705.length co51)) (fun _ hk=>hk.2) (.int .u64 t703)) (fun _ hk=>hk.2) (.int .u32 t704)) (fun _ hk=>hk.2) (.slice Ao51 t705.length co51)) (fun _ hk=>⟨hk.1.1.1,⟨hk.1.1.2.2.1,⟨hk.1.1.2.2.2.1,⟨hk.1.1.2.2.2.2.1,⟨hk.1.1.2.2.2.2.2.1,hk.1.1.2.2.2.2.2.2.1⟩⟩⟩⟩⟩)⟩,⟨by (with_reducible repeat (first|apply zo|apply zp|apply zq));exact zG (zH (p:=⟨gb700,2,none⟩) (zH (p:=⟨gb700,1,none⟩) (zH (p:=⟨gb700,0,none⟩) (zH (p:=⟨gb709,2,none⟩) (zH (p:=⟨gb709,1,none⟩) (zH (p:=⟨gb709,0,none⟩) (Kd.R_types (Kd.R_types HO_698002.out BK709.out (by decide)) BK700.out (by decide)) (fun _ hk=>hk.1.2) (.int .u64 t703)) (fun _ hk=>hk.1.2) (.int .u32 t704)) (fun _ hk=>hk.1.2) (.slice Ao51 t705.length co51)) (fun _ hk=>hk.2) (.int .u64 t703)) (fun _ hk=>hk.2) (.int .u32 t704)) (fun _ hk=>hk.2) (.slice Ao51 t705.length co51)) (fun _ hk=>hk.1.1.1)⟩,⟨zy (Kd.R_V (ok:=fun k_=>w.heap.size≤k_∧some k_≠((.slice Ao16 t693.length co16) : Value).ownBlock∧k_≠gb689∧k_≠gb690∧k_≠gb697∧k_≠gb700) (by (with_reducible repeat (first|apply zo|apply zp|apply zq));exact zG (zH (p:=⟨gb700,2,none⟩) (zH (p:=⟨gb700,1,none⟩) (zH (p:=⟨gb700,0,none⟩) (zH (p:=⟨gb709,2,none⟩) (zH (p:=⟨gb709,1,none⟩) (zH (p:=⟨gb709,0,none⟩) (Kd.R_types (Kd.R_types (Kd.R_types (Kd.R_types (Kd.R_types (Kd.R_types HO707.out BK689.out (by decide)) BK690.out (by decide)) BK697.out (by decide)) BK700.out (by decide)) BK709.out (by decide)) BK700.out (by decide)) (fun _ hk=>hk.1.2) (.int .u64 t703)) (fun _ hk=>hk.1.2) (.int .u32 t704)) (fun _ hk=>hk.1.2) (.slice Ao51 t705.length co51)) (fun _ hk=>hk.2) (.int .u64 t703)) (fun _ hk=>hk.2) (.int .u32 t704)) (fun _ hk=>hk.2) (.slice Ao51 t705.length co51)) (fun _ hk=>⟨hk.1.1.1.1.1.1.1,⟨hk.1.1.1.1.1.1.2,⟨hk.1.1.1.1.1.2,⟨hk.1.1.1.1.2,⟨hk.1.1.1.2,hk.1.1.2⟩⟩⟩⟩⟩))) (fun k_ hk=>by first|exact ⟨(.inr (hk.1)),hk.2⟩|exact (.inr (hk)))⟩,⟨by (with_reducible repeat (first|refine zh ?_ _|refine zj ?_|refine zi ?_ _|refine zv ?_ NB689_700.out _|refine zv ?_ NB689_709.out _));exact BK689.out⟩,⟨by (with_reducible repeat (first|refine zh ?_ _|refine zj ?_|refine zi ?_ _|refine zv ?_ NB690_700.out _|refine zv ?_ NB690_709.out _));exact BK690.out⟩,⟨by (with_reducible repeat (first|refine zh ?_ _|refine zj ?_|refine zi ?_ _|refine zv ?_ NB697_700.out _|refine zv ?_ NB697_709.out _));exact BK697.out⟩,⟨by (with_reducible repeat (first|refine zh ?_ _|refine zj ?_|refine zi ?_ _));refine zw (cs := #[.int .u64 t703, .int .u32 t704, .slice Ao44 x701002_2.length co44]) ?_ 2 _ rfl;(with_reducible repeat (first|refine zh ?_ _|refine zj ?_|refine zi ?_ _));refine zw (cs := #[.int .u64 t703, .int .u32 x701001_2, .slice Ao44 x701002_2.length co44]) ?_ 1 _ rfl;(with_reducible repeat (first|refine zh ?_ _|refine zj ?_|refine zi ?_ _));refine zw (cs := #[.int .u64 x701000_2, .int .u32 x701001_2, .slice Ao44 x701002_2.length co44]) ?_ 0 _ rfl;(with_reducible repeat (first|refine zh ?_ _|refine zj ?_|refine zi ?_ _|refine zv ?_ NB700_709.out _));exact BK700.out⟩,⟨by repeat (first|(with_reducible first|exact HB.out|apply ze|apply zd|apply zf|refine zk ?_ GE689.out|refine zk ?_ GE690.out|refine zk ?_ GE697.out|refine zk ?_ GE700.out|refine zk ?_ GE709.out)|exact HB.out)⟩⟩
           ·
            rw [if_neg c43] at H
            have c43b0 : (t708 == 0)=false:=beq_eq_false_iff_ne.mpr c43
            have c43b1 : (t708 != 0)=true:=bne_iff_ne.mpr c43
            simp only [Option.some.injEq,Prod.mk.injEq] at H
            obtain ⟨rfl,rfl,rfl,rfl⟩:=H
            obtain ⟨Ao62,co62,eo62⟩:=Kd.V_slice HO_701002.out
            subst eo62
            try go_wp2
            have n0_:=zm (zC HO_690002.out);have n1_:=zm (zq HO_698002.out);have n2_:=zm (zC HO_701002.out);have n3_:=zm (zj BK689.out);have n4_:=zm (zj BK690.out);have n5_:=zm (zj BK697.out);have n6_:=zm (zj BK700.out);have n7_:=zm (zf HB.out);clear HO_690002;clear HO_698002;clear HO_701002;clear BK689;clear BK690;clear BK697;clear BK700;clear HB;have HO_690002:=n0_;have HO_698002:=n1_;have HO_701002:=n2_;have BK689:=n3_;have BK690:=n4_;have BK697:=n5_;have BK700:=n6_;have HB:=n7_;clear n0_ n1_ n2_ n3_ n4_ n5_ n6_ n7_
            have p702 : 0≤(x36_2 : Int):=of_decide_eq_true (by first|(with_reducible assumption)|assumption)
            have q702 : x36_2 < (l1.length : Int):=of_decide_eq_true (by first|(with_reducible assumption)|assumption)
            obtain ⟨ad702,e702,hx702_0⟩:=Kd.at_int HR1.out x36_2 p702 q702
            have hw702_0:=hx702_0
            cases e702
            replace hx702_0:=(HB.out.cell (zb w _ hx702_0)).trans hx702_0
            replace p702:=eq_true p702
            replace q702:=eq_true q702
            refine start_ (n:=14) (S:=fun w' => w'.cell? ⟨gb700,0,none⟩=some (.int .u64 x701000_2)∧w'.cell? ⟨gb700,1,none⟩=some (.int .u32 x701001_2)∧w'.cell? ⟨gb700,2,none⟩=some (.slice Ao62 x701002_2.length co62)∧w'.cell? (ad702.add (x36_2).toNat)=some (.int .i64 (rd l1 x36_2))) (ds := []) #[false,false,false,false,false,false,false,false,false,false,false,false,false,false] (by kernel_rfl) rfl rfl ⟨(zs BK700.out 0).trans rfl,(zs BK700.out 1).trans rfl,(zs BK700.out 2).trans rfl,((HB.out.cell (zb w _ hw702_0)).trans hw702_0)⟩ (fun hHeld => ?_);refine with_tabW gain_Put.tab11 gain_Put.bits11 (fun HT_ HW_ => ?_)
            generalize wc.drew=w63 at HO_690002 HO_698002 HO_701002 BK689 BK690 BK697 BK700 HB hx702_0 hHeld ⊢
            refine pure_ (i:=1) (N:=some 47) (v := ?_) (a' := ?_) #[false,true,false,false,false,false,false,false,false,false,false,false,false,false] rfl rfl (any_of HT_.out (by kernel_rfl)) (fun _ _ _ h=>h) (Or.inl ⟨by rfl, ?_⟩) ?_ ?_
            rotate_left
            ·
             intro w'
             go_simp
             with_reducible rfl
            rotate_left
            ·
             simp only [Act.put,List.setIfInBounds_toArray,List.set_cons_zero,List.set_cons_succ,i64_w,i32_w]
             rfl
            refine pure_ (i:=2) (N:=some 48) (v := ?_) (a' := ?_) #[false,true,true,false,false,false,false,false,false,false,false,false,false,false] rfl rfl (any_of HT_.out (by kernel_rfl)) (fun _ _ _ h=>h) (Or.inl ⟨by rfl, ?_⟩) ?_ ?_
            rotate_left
            ·
             intro w'
             go_simp
             with_reducible rfl
            rotate_left
            ·
             simp only [Act.put,List.setIfInBounds_toArray,List.set_cons_zero,List.set_cons_succ,i64_w,i32_w]
             rfl
            refine pure_ (i:=3) (N:=some 49) (v := ?_) (a' := ?_) #[false,true,true,true,false,false,false,false,false,false,false,false,false,false] rfl rfl (any_of HT_.out (by kernel_rfl)) (fun _ _ _ h=>h) (Or.inl ⟨by rfl, ?_⟩) ?_ ?_
            rotate_left
            ·
             intro w'
             go_simp
             with_reducible rfl
            rotate_left
            ·
             simp only [Act.put,List.setIfInBounds_toArray,List.set_cons_zero,List.set_cons_succ,i64_w,i32_w]
             rfl
            refine pure_ (i:=5) (N:=some 51) (v := ?_) (a' := ?_) #[false,true,true,true,false,true,false,false,false,false,false,false,false,false] rfl rfl (any_of HT_.out (by kernel_rfl)) (fun _ _ _ h=>h) (Or.inl ⟨by rfl, ?_⟩) ?_ ?_
            rotate_left
            ·
             intro w'
             go_simp
             with_reducible rfl
            rotate_left
            ·
             simp only [Act.put,List.setIfInBounds_toArray,List.set_cons_zero,List.set_cons_succ,i64_w,i32_w]
             rfl
            refine pure_ (i:=6) (N:=some 52) (v := ?_) (a' := ?_) #[false,true,true,true,false,true,true,false,false,false,false,false,false,false] rfl rfl (any_of HT_.out (by kernel_rfl)) (fun _ _ _ h=>h) (Or.inl ⟨by rfl, ?_⟩) ?_ ?_
            rotate_left
            ·
             intro w'
             go_simp
             with_reducible rfl
            rotate_left
            ·
             simp only [Act.put,List.setIfInBounds_toArray,List.set_cons_zero,List.set_cons_succ,i64_w,i32_w]
             rfl
            refine take_ (i:=0) (N:=some 46) (v := ?_) (a' := ?_) #[true,true,true,true,false,true,true,false,false,false,false,false,false,false] rfl rfl (take_ofW HT_.out HW_.out (by kernel_rfl)) (fun _ _ _ h=>h) (Or.inl ⟨by rfl, ?_⟩) hHeld ?_ ?_
            rotate_left
            ·
             rintro w' ⟨s0,s1,s2,s3⟩
             go_simp
             with_reducible rfl
            rotate_left
            ·
             simp only [Act.put,List.setIfInBounds_toArray,List.set_cons_zero,List.set_cons_succ,i64_w,i32_w]
             rfl
            refine take_ (i:=4) (N:=some 50) (v := ?_) (a' := ?_) #[true,true,true,true,true,true,true,false,false,false,false,false,false,false] rfl rfl (take_ofW HT_.out HW_.out (by kernel_rfl)) (fun _ _ _ h=>h) (Or.inl ⟨by rfl, ?_⟩) hHeld ?_ ?_
            rotate_left
            ·
             rintro w' ⟨s0,s1,s2,s3⟩
             go_simp
             with_reducible rfl
            rotate_left
            ·
             simp only [Act.put,List.setIfInBounds_toArray,List.set_cons_zero,List.set_cons_succ,i64_w,i32_w]
             rfl
            refine join_ (σ:=Value × Nat) 2 #[true,true,true,true,true,true,true,true,true,true,true,true,false,false] (fun s_ => [(53, .tuple #[.agg #[.int .u64 t703, .int .u32 t704,s_.1], .int .i64 t708]),(15, .pointer (some ⟨s_.2,0,none⟩)),(45, .tuple #[.agg #[.int .u64 t703, .int .u32 t704,s_.1], .int .i64 t708]),(54, .agg #[.int .u64 t703, .int .u32 t704,s_.1]),(55, .int .i64 t708)]) (fun s_ w' => (w'.cell? ⟨gb700,0,none⟩=some (.int .u64 x701000_2)∧w'.cell? ⟨gb700,1,none⟩=some (.int .u32 x701001_2)∧w'.cell? ⟨gb700,2,none⟩=some (.slice Ao62 x701002_2.length co62)∧w'.cell? (ad702.add (x36_2).toNat)=some (.int .i64 (rd l1 x36_2)))∧(Kd.R (Kd.int .u8) 5 w' w.heap.size (fun k_=>(w.heap.size≤k_)∧some k_≠(.slice Ao16 t693.length co16 : Value).ownBlock) s_.1 t705)∧(Kd.V (Kd.int .u8) 5 w' w.heap.size (fun k_=>(P0_2_ k_∨w.heap.size≤k_)∧some k_≠(s_.1 : Value).ownBlock∧some k_≠(.slice Ao16 t693.length co16 : Value).ownBlock∧k_≠gb689∧k_≠gb690∧k_≠gb697∧k_≠gb700∧k_≠s_.2) (.slice A0_2 l0_2.length c0_2) l0_2)∧(Kd.R (Kd.int .u8) 5 w' w.heap.size (fun k_=>(w.heap.size≤k_)∧some k_≠(s_.1 : Value).ownBlock) (.slice Ao16 t693.length co16) t693)∧(Kd.V (Kd.int .u8) 5 w' w.heap.size (fun k_=>(P0_2_ k_∨w.heap.size≤k_)∧some k_≠(s_.1 : Value).ownBlock∧some k_≠(.slice Ao16 t693.length co16 : Value).ownBlock∧k_≠gb689∧k_≠gb690∧k_≠gb697∧k_≠gb700∧k_≠s_.2) (.slice Ao62 x701002_2.length co62) x701002_2)∧(w'.heap[gb689]? = some (.cells #[.int .u64 a0_0, .int .u32 a0_1, .slice A0_2 l0_2.length c0_2] 26 (0,0)))∧(w'.heap[gb690]? = some (.cells #[.int .u64 x691000_2, .int .u32 x691001_2, .slice none 0 0] 26 (0,0)))∧(w'.heap[gb697]? = some (.cells #[.int .u64 t691, .int .u32 t692, .slice Ao16 t693.length co16] 26 (0,0)))∧(w'.heap[gb700]? = some (.cells #[.int .u64 x701000_2, .int .u32 x701001_2, .slice Ao62 x701002_2.length co62] 26 (0,0)))∧(w'.heap[s_.2]? = some (.cells #[.int .u64 0, .int .u32 0, .slice none 0 0] 26 (0,0)))∧(w.heap.size≤s_.2)∧(w.heap.size≤s_.2)∧(gb689≠s_.2)∧(s_.2≠gb689)∧(gb690≠s_.2)∧(s_.2≠gb690)∧(gb697≠s_.2)∧(s_.2≠gb697)∧(gb700≠s_.2)∧(s_.2≠gb700)∧(Below w.heap.size w w')) ?_ ?_
            rotate_left
            ·
             intro hCont
             refine two_ (i:=7) (j:=11) (Ni:=some 53) (Nj:=some 15) #[true,true,true,true,true,true,true,true,false,false,false,false,false,false] #[true,true,true,true,true,true,true,false,false,false,false,true,false,false] rfl rfl rfl rfl (two_of HT_.out (by kernel_rfl)) (by decide) (by decide) (fun K hK => ?_) (fun K hK => ?_)
             ·
              skip
              refine goes_ Try.func64 (by kernel_rfl) rfl #[.agg #[.int .u64 x701000_2, .int .u32 x701001_2, .slice Ao62 x701002_2.length co62], .int .i64 (rd l1 x36_2), .int .i64 x14_35, .bool a3] (by rfl) rfl rfl (by (try simp only [List.map_toArray,List.map_cons,List.map_nil]);first|done|rfl|(simp only [List.length_drop,List.length_take];rfl)) ?_
              with_reducible refine (gain_put.calls kj35 x701000_2 x701001_2 _ _ x701002_2 (rd l1 x36_2) x14_35 a3 t703 t704 t705 t708 _ ?side1 ?side2 A42.out).mono ?_
              (case side1=>repeat (first|exact (Kd.V_reads' HO_701002.out).2.2|(with_reducible refine Kd.C_alloc ?_ _)|(with_reducible refine Kd.C_drewN ?_ _)|(with_reducible refine Kd.C_drew ?_)))
              (case side2=>exact (Kd.V_reads' HO_701002.out).2.1)
              rintro e w64 ⟨v706,rfl,ho0,hb⟩
              refine ⟨_,rfl, ?_⟩
              have n0_:=zm (Kd.V_elder' (by (with_reducible repeat (first|apply zA|apply zB|apply zC));exact HO_690002.out) (Kd.R_base ho0) hb)
              have n1_:=zm (Kd.R_elder' (by (with_reducible repeat (first|apply zo|apply zp|apply zq));exact HO_698002.out) (Kd.R_base ho0) hb)
              have n2_:=zm (Kd.V_elder' (by (with_reducible repeat (first|apply zA|apply zB|apply zC));exact HO_701002.out) (Kd.R_base ho0) hb)
              have n3_:=zm (Kd.R_lower (Kd.R_new' (Kd.R_newM (M:=fun k_=>(w.heap.size≤k_)) ho0 (zE (by repeat (first|(with_reducible first|exact HB.out|apply ze|apply zd|apply zf|refine zk ?_ GE689.out|refine zk ?_ GE690.out|refine zk ?_ GE697.out|refine zk ?_ GE700.out)|exact HB.out))) (fun k_ h_=>h_)) (Kd.R_lt (by (with_reducible repeat (first|apply zo|apply zp|apply zq));exact HO_698002.out))) (zE (by repeat (first|(with_reducible first|exact HB.out|apply ze|apply zd|apply zf|refine zk ?_ GE689.out|refine zk ?_ GE690.out|refine zk ?_ GE697.out|refine zk ?_ GE700.out)|exact HB.out))))
              have n4_:=zm (zF (g:=gb689) (o:=.cells #[.int .u64 a0_0, .int .u32 a0_1, .slice A0_2 l0_2.length c0_2] 26 (0,0)) (by (with_reducible repeat (first|refine zh ?_ _|refine zj ?_|refine zi ?_ _));exact BK689.out) hb)
              have n5_:=zm (zF (g:=gb690) (o:=.cells #[.int .u64 x691000_2, .int .u32 x691001_2, .slice none 0 0] 26 (0,0)) (by (with_reducible repeat (first|refine zh ?_ _|refine zj ?_|refine zi ?_ _));exact BK690.out) hb)
              have n6_:=zm (zF (g:=gb697) (o:=.cells #[.int .u64 t691, .int .u32 t692, .slice Ao16 t693.length co16] 26 (0,0)) (by (with_reducible repeat (first|refine zh ?_ _|refine zj ?_|refine zi ?_ _));exact BK697.out) hb)
              have n7_:=zm (zF (g:=gb700) (o:=.cells #[.int .u64 x701000_2, .int .u32 x701001_2, .slice Ao62 x701002_2.length co62] 26 (0,0)) (by (with_reducible repeat (first|refine zh ?_ _|refine zj ?_|refine zi ?_ _));exact BK700.out) hb)
              have n8_:=zm (zJ (by repeat (first|(with_reducible first|exact HB.out|apply ze|apply zd|apply zf|refine zk ?_ GE689.out|refine zk ?_ GE690.out|refine zk ?_ GE697.out|refine zk ?_ GE700.out)|exact HB.out)) hb)
              clear HO_690002;clear HO_698002;clear HO_701002;clear BK689;clear BK690;clear BK697;clear BK700;clear HB;have HO_690002:=n0_;have HO_698002:=n1_;have HO_701002:=n2_;have HO707:=n3_;have BK689:=n4_;have BK690:=n5_;have BK697:=n6_;have BK700:=n7_;have HB:=n8_;clear n0_ n1_ n2_ n3_ n4_ n5_ n6_ n7_ n8_
              (try clear hb)
              (try clear hb2)
              (try clear hk)
              (try clear hi)
              (try clear ho0)
              refine hK.out _ _ ⟨(zs BK700.out 0).trans rfl,(zs BK700.out 1).trans rfl,(zs BK700.out 2).trans rfl,((HB.out.cell (zb w _ hw702_0)).trans hw702_0)⟩ (fun hHeld => ?_)
              clear hK K
              refine norm_ (a' := ?_) ?_ ?_
              rotate_left
              ·
               show Act.put _ (some 53) _=_
               simp only [Act.put,List.setIfInBounds_toArray,List.set_cons_zero,List.set_cons_succ,i64_w,i32_w]
               rfl
              refine pure_ (i:=8) (N:=some 45) (v := ?_) (a' := ?_) #[true,true,true,true,true,true,true,true,true,false,false,false,false,false] rfl rfl (any_of HT_.out (by kernel_rfl)) (fun _ _ _ h=>h) (Or.inl ⟨by rfl, ?_⟩) ?_ ?_
              rotate_left
              ·
               intro w'
               go_simp
               with_reducible rfl
              rotate_left
              ·
               simp only [Act.put,List.setIfInBounds_toArray,List.set_cons_zero,List.set_cons_succ,i64_w,i32_w]
               rfl
              refine pure_ (i:=9) (N:=some 54) (v := ?_) (a' := ?_) #[true,true,true,true,true,true,true,true,true,true,false,false,false,false] rfl rfl (any_of HT_.out (by kernel_rfl)) (fun _ _ _ h=>h) (Or.inl ⟨by rfl, ?_⟩) ?_ ?_
              rotate_left
              ·
               intro w'
               go_simp
               with_reducible rfl
              rotate_left
              ·
               simp only [Act.put,List.setIfInBounds_toArray,List.set_cons_zero,List.set_cons_succ,i64_w,i32_w]
               rfl
              refine pure_ (i:=10) (N:=some 55) (v := ?_) (a' := ?_) #[true,true,true,true,true,true,true,true,true,true,true,false,false,false] rfl rfl (any_of HT_.out (by kernel_rfl)) (fun _ _ _ h=>h) (Or.inl ⟨by rfl, ?_⟩) ?_ ?_
              rotate_left
              ·
               intro w'
               go_simp
               with_reducible rfl
              rotate_left
              ·
               simp only [Act.put,List.setIfInBounds_toArray,List.set_cons_zero,List.set_cons_succ,i64_w,i32_w]
               rfl
              refine one_ (i:=11) (N:=some 15) #[true,true,true,true,true,true,true,true,true,true,true,true,false,false] rfl rfl (one_of HT_.out (by kernel_rfl)) (by decide) (fun K hK => ?_)
              refine box_step ?hg (N:=15) ?hd (cs := #[.int .u64 0, .int .u32 0, .slice none 0 0]) (t:=26) ?hr ?_;(case hd=>rfl);(case hg=>rfl);(case hr=>first|(go_simp;done)|(go_simp;rfl))
              intro gb709 hg w65 hbox hb
              have n0_:=zm (Kd.V_below (Kd.V_elderB (by (with_reducible repeat (first|apply zA|apply zB|apply zC));exact HO_690002.out) gb709 (Nat.le_of_eq hg.symm)) hb)
              have n1_:=zm (Kd.R_below (by (with_reducible repeat (first|apply zo|apply zp|apply zq));exact HO_698002.out) hb)
              have n2_:=zm (Kd.V_below (Kd.V_elderB (by (with_reducible repeat (first|apply zA|apply zB|apply zC));exact HO_701002.out) gb709 (Nat.le_of_eq hg.symm)) hb)
              have n3_:=zm (Kd.R_below (by (with_reducible repeat (first|apply zo|apply zp|apply zq));exact HO707.out) hb)
              have n4_:=zm (zF (g:=gb689) (o:=.cells #[.int .u64 a0_0, .int .u32 a0_1, .slice A0_2 l0_2.length c0_2] 26 (0,0)) (by (with_reducible repeat (first|refine zh ?_ _|refine zj ?_|refine zi ?_ _));exact BK689.out) hb)
              have n5_:=zm (zF (g:=gb690) (o:=.cells #[.int .u64 x691000_2, .int .u32 x691001_2, .slice none 0 0] 26 (0,0)) (by (with_reducible repeat (first|refine zh ?_ _|refine zj ?_|refine zi ?_ _));exact BK690.out) hb)
              have n6_:=zm (zF (g:=gb697) (o:=.cells #[.int .u64 t691, .int .u32 t692, .slice Ao16 t693.length co16] 26 (0,0)) (by (with_reducible repeat (first|refine zh ?_ _|refine zj ?_|refine zi ?_ _));exact BK697.out) hb)
              have n7_:=zm (zF (g:=gb700) (o:=.cells #[.int .u64 x701000_2, .int .u32 x701001_2, .slice Ao62 x701002_2.length co62] 26 (0,0)) (by (with_reducible repeat (first|refine zh ?_ _|refine zj ?_|refine zi ?_ _));exact BK700.out) hb)
              have n8_:=zm (zJ (by repeat (first|(with_reducible first|exact HB.out|apply ze|apply zd|apply zf|refine zk ?_ GE689.out|refine zk ?_ GE690.out|refine zk ?_ GE697.out|refine zk ?_ GE700.out)|exact HB.out)) hb)
              have n9_:=zm (hbox)
              have n10_:=zm ((by rw [hg];exact (zE (by repeat (first|(with_reducible first|exact HB.out|apply ze|apply zd|apply zf|refine zk ?_ GE689.out|refine zk ?_ GE690.out|refine zk ?_ GE697.out|refine zk ?_ GE700.out)|exact HB.out))) : w.heap.size≤gb709))
              have n11_:=zm ((by rw [hg];exact (zE (by repeat (first|(with_reducible first|exact HB.out|apply ze|apply zd|apply zf|refine zk ?_ GE689.out|refine zk ?_ GE690.out|refine zk ?_ GE697.out|refine zk ?_ GE700.out)|exact HB.out))) : w.heap.size≤gb709))
              have n12_:=zm ((by rw [hg];exact zn (zD (g:=gb689) (o:=.cells #[.int .u64 a0_0, .int .u32 a0_1, .slice A0_2 l0_2.length c0_2] 26 (0,0)) (by (with_reducible repeat (first|refine zh ?_ _|refine zj ?_|refine zi ?_ _));exact BK689.out)) : gb689≠gb709))
              have n13_:=zm ((by rw [hg];exact zg (zD (g:=gb689) (o:=.cells #[.int .u64 a0_0, .int .u32 a0_1, .slice A0_2 l0_2.length c0_2] 26 (0,0)) (by (with_reducible repeat (first|refine zh ?_ _|refine zj ?_|refine zi ?_ _));exact BK689.out)) : gb709≠gb689))
              have n14_:=zm ((by rw [hg];exact zn (zD (g:=gb690) (o:=.cells #[.int .u64 x691000_2, .int .u32 x691001_2, .slice none 0 0] 26 (0,0)) (by (with_reducible repeat (first|refine zh ?_ _|refine zj ?_|refine zi ?_ _));exact BK690.out)) : gb690≠gb709))
              have n15_:=zm ((by rw [hg];exact zg (zD (g:=gb690) (o:=.cells #[.int .u64 x691000_2, .int .u32 x691001_2, .slice none 0 0] 26 (0,0)) (by (with_reducible repeat (first|refine zh ?_ _|refine zj ?_|refine zi ?_ _));exact BK690.out)) : gb709≠gb690))
              have n16_:=zm ((by rw [hg];exact zn (zD (g:=gb697) (o:=.cells #[.int .u64 t691, .int .u32 t692, .slice Ao16 t693.length co16] 26 (0,0)) (by (with_reducible repeat (first|refine zh ?_ _|refine zj ?_|refine zi ?_ _));exact BK697.out)) : gb697≠gb709))
              have n17_:=zm ((by rw [hg];exact zg (zD (g:=gb697) (o:=.cells #[.int .u64 t691, .int .u32 t692, .slice Ao16 t693.length co16] 26 (0,0)) (by (with_reducible repeat (first|refine zh ?_ _|refine zj ?_|refine zi ?_ _));exact BK697.out)) : gb709≠gb697))
              have n18_:=zm ((by rw [hg];exact zn (zD (g:=gb700) (o:=.cells #[.int .u64 x701000_2, .int .u32 x701001_2, .slice Ao62 x701002_2.length co62] 26 (0,0)) (by (with_reducible repeat (first|refine zh ?_ _|refine zj ?_|refine zi ?_ _));exact BK700.out)) : gb700≠gb709))
              have n19_:=zm ((by rw [hg];exact zg (zD (g:=gb700) (o:=.cells #[.int .u64 x701000_2, .int .u32 x701001_2, .slice Ao62 x701002_2.length co62] 26 (0,0)) (by (with_reducible repeat (first|refine zh ?_ _|refine zj ?_|refine zi ?_ _));exact BK700.out)) : gb709≠gb700))
              clear HO_690002;clear HO_698002;clear HO_701002;clear HO707;clear BK689;clear BK690;clear BK697;clear BK700;clear HB;have HO_690002:=n0_;have HO_698002:=n1_;have HO_701002:=n2_;have HO707:=n3_;have BK689:=n4_;have BK690:=n5_;have BK697:=n6_;have BK700:=n7_;have HB:=n8_;have BK709:=n9_;have GW709:=n10_;have GE709:=n11_;have NB689_709:=n12_;have NB709_689:=n13_;have NB690_709:=n14_;have NB709_690:=n15_;have NB697_709:=n16_;have NB709_697:=n17_;have NB700_709:=n18_;have NB709_700:=n19_;clear n0_ n1_ n2_ n3_ n4_ n5_ n6_ n7_ n8_ n9_ n10_ n11_ n12_ n13_ n14_ n15_ n16_ n17_ n18_ n19_;clear hb hbox hg
              refine hK.out _ _ ⟨(zs BK700.out 0).trans rfl,(zs BK700.out 1).trans rfl,(zs BK700.out 2).trans rfl,((HB.out.cell (zb w _ hw702_0)).trans hw702_0)⟩ (fun hHeld => ?_)
              clear hK K
              refine norm_ (a' := ?_) ?_ ?_
              rotate_left
              ·
               show Act.put _ (some 15) _=_
               simp only [Act.put,List.setIfInBounds_toArray,List.set_cons_zero,List.set_cons_succ,i64_w,i32_w]
               rfl
              exact norm_ (by simp only [putAll,Act.put,List.setIfInBounds_toArray,List.set_cons_zero,List.set_cons_succ]) (hCont (v706,gb709) _ ⟨hHeld,(by (with_reducible repeat (first|apply zo|apply zp|apply zq));exact zG HO707.out (fun _ hk=>⟨hk.1.1,hk.2⟩)),(by (with_reducible repeat (first|apply zA|apply zB|apply zC));exact zy HO_690002.out (fun _ hk=>⟨hk.1.1.1,⟨hk.1.2,⟨hk.1.1.2.1,⟨hk.1.1.2.2.1,⟨hk.1.1.2.2.2.1,⟨hk.1.1.2.2.2.2.1,⟨hk.1.1.2.2.2.2.2,hk.2⟩⟩⟩⟩⟩⟩⟩)),(by (with_reducible repeat (first|apply zo|apply zp|apply zq));exact HO_698002.out),(by (with_reducible repeat (first|apply zA|apply zB|apply zC));exact zy HO_701002.out (fun _ hk=>⟨hk.1.1.1,⟨hk.1.2,⟨hk.1.1.2.1,⟨hk.1.1.2.2.1,⟨hk.1.1.2.2.2.1,⟨hk.1.1.2.2.2.2.1,⟨hk.1.1.2.2.2.2.2,hk.2⟩⟩⟩⟩⟩⟩⟩)),(by (with_reducible repeat (first|refine zh ?_ _|refine zj ?_|refine zi ?_ _));exact BK689.out),(by (with_reducible repeat (first|refine zh ?_ _|refine zj ?_|refine zi ?_ _));exact BK690.out),(by (with_reducible repeat (first|refine zh ?_ _|refine zj ?_|refine zi ?_ _));exact BK697.out),(by (with_reducible repeat (first|refine zh ?_ _|refine zj ?_|refine zi ?_ _));exact BK700.out),(by (with_reducible repeat (first|refine zh ?_ _|refine zj ?_|refine zi ?_ _));exact BK709.out),GW709.out,GE709.out,NB689_709.out,NB709_689.out,NB690_709.out,NB709_690.out,NB697_709.out,NB709_697.out,NB700_709.out,NB709_700.out,(by repeat (first|(with_reducible first|exact HB.out|apply ze|apply zd|apply zf|refine zk ?_ GE689.out|refine zk ?_ GE690.out|refine zk ?_ GE697.out|refine zk ?_ GE700.out|refine zk ?_ GE709.out)|exact HB.out))⟩)
             ·
              skip
              refine box_step ?hg (N:=15) ?hd (cs := #[.int .u64 0, .int .u32 0, .slice none 0 0]) (t:=26) ?hr ?_;(case hd=>rfl);(case hg=>rfl);(case hr=>first|(go_simp;done)|(go_simp;rfl))
              intro gb709 hg w64 hbox hb
              have n0_:=zm (Kd.V_below (Kd.V_elderB (by (with_reducible repeat (first|apply zA|apply zB|apply zC));exact HO_690002.out) gb709 (Nat.le_of_eq hg.symm)) hb)
              have n1_:=zm (Kd.R_below (by (with_reducible repeat (first|apply zo|apply zp|apply zq));exact HO_698002.out) hb)
              have n2_:=zm (Kd.V_below (Kd.V_elderB (by (with_reducible repeat (first|apply zA|apply zB|apply zC));exact HO_701002.out) gb709 (Nat.le_of_eq hg.symm)) hb)
              have n3_:=zm (zF (g:=gb689) (o:=.cells #[.int .u64 a0_0, .int .u32 a0_1, .slice A0_2 l0_2.length c0_2] 26 (0,0)) (by (with_reducible repeat (first|refine zh ?_ _|refine zj ?_|refine zi ?_ _));exact BK689.out) hb)
              have n4_:=zm (zF (g:=gb690) (o:=.cells #[.int .u64 x691000_2, .int .u32 x691001_2, .slice none 0 0] 26 (0,0)) (by (with_reducible repeat (first|refine zh ?_ _|refine zj ?_|refine zi ?_ _));exact BK690.out) hb)
              have n5_:=zm (zF (g:=gb697) (o:=.cells #[.int .u64 t691, .int .u32 t692, .slice Ao16 t693.length co16] 26 (0,0)) (by (with_reducible repeat (first|refine zh ?_ _|refine zj ?_|refine zi ?_ _));exact BK697.out) hb)
              have n6_:=zm (zF (g:=gb700) (o:=.cells #[.int .u64 x701000_2, .int .u32 x701001_2, .slice Ao62 x701002_2.length co62] 26 (0,0)) (by (with_reducible repeat (first|refine zh ?_ _|refine zj ?_|refine zi ?_ _));exact BK700.out) hb)
              have n7_:=zm (zJ (by repeat (first|(with_reducible first|exact HB.out|apply ze|apply zd|apply zf|refine zk ?_ GE689.out|refine zk ?_ GE690.out|refine zk ?_ GE697.out|refine zk ?_ GE700.out)|exact HB.out)) hb)
              have n8_:=zm (hbox)
              have n9_:=zm ((by rw [hg];exact (zE (by repeat (first|(with_reducible first|exact HB.out|apply ze|apply zd|apply zf|refine zk ?_ GE689.out|refine zk ?_ GE690.out|refine zk ?_ GE697.out|refine zk ?_ GE700.out)|exact HB.out))) : w.heap.size≤gb709))
              have n10_:=zm ((by rw [hg];exact (zE (by repeat (first|(with_reducible first|exact HB.out|apply ze|apply zd|apply zf|refine zk ?_ GE689.out|refine zk ?_ GE690.out|refine zk ?_ GE697.out|refine zk ?_ GE700.out)|exact HB.out))) : w.heap.size≤gb709))
              have n11_:=zm ((by rw [hg];exact zn (zD (g:=gb689) (o:=.cells #[.int .u64 a0_0, .int .u32 a0_1, .slice A0_2 l0_2.length c0_2] 26 (0,0)) (by (with_reducible repeat (first|refine zh ?_ _|refine zj ?_|refine zi ?_ _));exact BK689.out)) : gb689≠gb709))
              have n12_:=zm ((by rw [hg];exact zg (zD (g:=gb689) (o:=.cells #[.int .u64 a0_0, .int .u32 a0_1, .slice A0_2 l0_2.length c0_2] 26 (0,0)) (by (with_reducible repeat (first|refine zh ?_ _|refine zj ?_|refine zi ?_ _));exact BK689.out)) : gb709≠gb689))
              have n13_:=zm ((by rw [hg];exact zn (zD (g:=gb690) (o:=.cells #[.int .u64 x691000_2, .int .u32 x691001_2, .slice none 0 0] 26 (0,0)) (by (with_reducible repeat (first|refine zh ?_ _|refine zj ?_|refine zi ?_ _));exact BK690.out)) : gb690≠gb709))
              have n14_:=zm ((by rw [hg];exact zg (zD (g:=gb690) (o:=.cells #[.int .u64 x691000_2, .int .u32 x691001_2, .slice none 0 0] 26 (0,0)) (by (with_reducible repeat (first|refine zh ?_ _|refine zj ?_|refine zi ?_ _));exact BK690.out)) : gb709≠gb690))
              have n15_:=zm ((by rw [hg];exact zn (zD (g:=gb697) (o:=.cells #[.int .u64 t691, .int .u32 t692, .slice Ao16 t693.length co16] 26 (0,0)) (by (with_reducible repeat (first|refine zh ?_ _|refine zj ?_|refine zi ?_ _));exact BK697.out)) : gb697≠gb709))
              have n16_:=zm ((by rw [hg];exact zg (zD (g:=gb697) (o:=.cells #[.int .u64 t691, .int .u32 t692, .slice Ao16 t693.length co16] 26 (0,0)) (by (with_reducible repeat (first|refine zh ?_ _|refine zj ?_|refine zi ?_ _));exact BK697.out)) : gb709≠gb697))
              have n17_:=zm ((by rw [hg];exact zn (zD (g:=gb700) (o:=.cells #[.int .u64 x701000_2, .int .u32 x701001_2, .slice Ao62 x701002_2.length co62] 26 (0,0)) (by (with_reducible repeat (first|refine zh ?_ _|refine zj ?_|refine zi ?_ _));exact BK700.out)) : gb700≠gb709))
              have n18_:=zm ((by rw [hg];exact zg (zD (g:=gb700) (o:=.cells #[.int .u64 x701000_2, .int .u32 x701001_2, .slice Ao62 x701002_2.length co62] 26 (0,0)) (by (with_reducible repeat (first|refine zh ?_ _|refine zj ?_|refine zi ?_ _));exact BK700.out)) : gb709≠gb700))
              clear HO_690002;clear HO_698002;clear HO_701002;clear BK689;clear BK690;clear BK697;clear BK700;clear HB;have HO_690002:=n0_;have HO_698002:=n1_;have HO_701002:=n2_;have BK689:=n3_;have BK690:=n4_;have BK697:=n5_;have BK700:=n6_;have HB:=n7_;have BK709:=n8_;have GW709:=n9_;have GE709:=n10_;have NB689_709:=n11_;have NB709_689:=n12_;have NB690_709:=n13_;have NB709_690:=n14_;have NB697_709:=n15_;have NB709_697:=n16_;have NB700_709:=n17_;have NB709_700:=n18_;clear n0_ n1_ n2_ n3_ n4_ n5_ n6_ n7_ n8_ n9_ n10_ n11_ n12_ n13_ n14_ n15_ n16_ n17_ n18_;clear hb hbox hg
              refine hK.out _ _ ⟨(zs BK700.out 0).trans rfl,(zs BK700.out 1).trans rfl,(zs BK700.out 2).trans rfl,((HB.out.cell (zb w _ hw702_0)).trans hw702_0)⟩ (fun hHeld => ?_)
              clear hK K
              refine norm_ (a' := ?_) ?_ ?_
              rotate_left
              ·
               show Act.put _ (some 15) _=_
               simp only [Act.put,List.setIfInBounds_toArray,List.set_cons_zero,List.set_cons_succ,i64_w,i32_w]
               rfl
              refine one_ (i:=7) (N:=some 53) #[true,true,true,true,true,true,true,true,false,false,false,true,false,false] rfl rfl (one_of HT_.out (by kernel_rfl)) (by decide) (fun K hK => ?_)
              refine goes_ Try.func64 (by kernel_rfl) rfl #[.agg #[.int .u64 x701000_2, .int .u32 x701001_2, .slice Ao62 x701002_2.length co62], .int .i64 (rd l1 x36_2), .int .i64 x14_35, .bool a3] (by rfl) rfl rfl (by (try simp only [List.map_toArray,List.map_cons,List.map_nil]);first|done|rfl|(simp only [List.length_drop,List.length_take];rfl)) ?_
              with_reducible refine (gain_put.calls kj35 x701000_2 x701001_2 _ _ x701002_2 (rd l1 x36_2) x14_35 a3 t703 t704 t705 t708 _ ?side1 ?side2 A42.out).mono ?_
              (case side1=>repeat (first|exact (Kd.V_reads' HO_701002.out).2.2|(with_reducible refine Kd.C_alloc ?_ _)|(with_reducible refine Kd.C_drewN ?_ _)|(with_reducible refine Kd.C_drew ?_)))
              (case side2=>exact (Kd.V_reads' HO_701002.out).2.1)
              rintro e w65 ⟨v706,rfl,ho0,hb⟩
              refine ⟨_,rfl, ?_⟩
              have n0_:=zm (Kd.V_elder' (by (with_reducible repeat (first|apply zA|apply zB|apply zC));exact HO_690002.out) (Kd.R_base ho0) hb)
              have n1_:=zm (Kd.R_elder' (by (with_reducible repeat (first|apply zo|apply zp|apply zq));exact HO_698002.out) (Kd.R_base ho0) hb)
              have n2_:=zm (Kd.V_elder' (by (with_reducible repeat (first|apply zA|apply zB|apply zC));exact HO_701002.out) (Kd.R_base ho0) hb)
              have n3_:=zm (Kd.R_lower (Kd.R_new' (Kd.R_newM (M:=fun k_=>(w.heap.size≤k_)) ho0 (zE (by repeat (first|(with_reducible first|exact HB.out|apply ze|apply zd|apply zf|refine zk ?_ GE689.out|refine zk ?_ GE690.out|refine zk ?_ GE697.out|refine zk ?_ GE700.out|refine zk ?_ GE709.out)|exact HB.out))) (fun k_ h_=>h_)) (Kd.R_lt (by (with_reducible repeat (first|apply zo|apply zp|apply zq));exact HO_698002.out))) (zE (by repeat (first|(with_reducible first|exact HB.out|apply ze|apply zd|apply zf|refine zk ?_ GE689.out|refine zk ?_ GE690.out|refine zk ?_ GE697.out|refine zk ?_ GE700.out|refine zk ?_ GE709.out)|exact HB.out))))
              have n4_:=zm (zF (g:=gb689) (o:=.cells #[.int .u64 a0_0, .int .u32 a0_1, .slice A0_2 l0_2.length c0_2] 26 (0,0)) (by (with_reducible repeat (first|refine zh ?_ _|refine zj ?_|refine zi ?_ _));exact BK689.out) hb)
              have n5_:=zm (zF (g:=gb690) (o:=.cells #[.int .u64 x691000_2, .int .u32 x691001_2, .slice none 0 0] 26 (0,0)) (by (with_reducible repeat (first|refine zh ?_ _|refine zj ?_|refine zi ?_ _));exact BK690.out) hb)
              have n6_:=zm (zF (g:=gb697) (o:=.cells #[.int .u64 t691, .int .u32 t692, .slice Ao16 t693.length co16] 26 (0,0)) (by (with_reducible repeat (first|refine zh ?_ _|refine zj ?_|refine zi ?_ _));exact BK697.out) hb)
              have n7_:=zm (zF (g:=gb700) (o:=.cells #[.int .u64 x701000_2, .int .u32 x701001_2, .slice Ao62 x701002_2.length co62] 26 (0,0)) (by (with_reducible repeat (first|refine zh ?_ _|refine zj ?_|refine zi ?_ _));exact BK700.out) hb)
              have n8_:=zm (zF (g:=gb709) (o:=.cells #[.int .u64 0, .int .u32 0, .slice none 0 0] 26 (0,0)) (by (with_reducible repeat (first|refine zh ?_ _|refine zj ?_|refine zi ?_ _));exact BK709.out) hb)
              have n9_:=zm (zJ (by repeat (first|(with_reducible first|exact HB.out|apply ze|apply zd|apply zf|refine zk ?_ GE689.out|refine zk ?_ GE690.out|refine zk ?_ GE697.out|refine zk ?_ GE700.out|refine zk ?_ GE709.out)|exact HB.out)) hb)
              clear HO_690002;clear HO_698002;clear HO_701002;clear BK689;clear BK690;clear BK697;clear BK700;clear BK709;clear HB;have HO_690002:=n0_;have HO_698002:=n1_;have HO_701002:=n2_;have HO707:=n3_;have BK689:=n4_;have BK690:=n5_;have BK697:=n6_;have BK700:=n7_;have BK709:=n8_;have HB:=n9_;clear n0_ n1_ n2_ n3_ n4_ n5_ n6_ n7_ n8_ n9_
              (try clear hb)
              (try clear hb2)
              (try clear hk)
              (try clear hi)
              (try clear ho0)
              refine hK.out _ _ ⟨(zs BK700.out 0).trans rfl,(zs BK700.out 1).trans rfl,(zs BK700.out 2).trans rfl,((HB.out.cell (zb w _ hw702_0)).trans hw702_0)⟩ (fun hHeld => ?_)
              clear hK K
              refine norm_ (a' := ?_) ?_ ?_
              rotate_left
              ·
               show Act.put _ (some 53) _=_
               simp only [Act.put,List.setIfInBounds_toArray,List.set_cons_zero,List.set_cons_succ,i64_w,i32_w]
               rfl
              refine pure_ (i:=8) (N:=some 45) (v := ?_) (a' := ?_) #[true,true,true,true,true,true,true,true,true,false,false,true,false,false] rfl rfl (any_of HT_.out (by kernel_rfl)) (fun _ _ _ h=>h) (Or.inl ⟨by rfl, ?_⟩) ?_ ?_
              rotate_left
              ·
               intro w'
               go_simp
               with_reducible rfl
              rotate_left
              ·
               simp only [Act.put,List.setIfInBounds_toArray,List.set_cons_zero,List.set_cons_succ,i64_w,i32_w]
               rfl
              refine pure_ (i:=9) (N:=some 54) (v := ?_) (a' := ?_) #[true,true,true,true,true,true,true,true,true,true,false,true,false,false] rfl rfl (any_of HT_.out (by kernel_rfl)) (fun _ _ _ h=>h) (Or.inl ⟨by rfl, ?_⟩) ?_ ?_
              rotate_left
              ·
               intro w'
               go_simp
               with_reducible rfl
              rotate_left
              ·
               simp only [Act.put,List.setIfInBounds_toArray,List.set_cons_zero,List.set_cons_succ,i64_w,i32_w]
               rfl
              refine pure_ (i:=10) (N:=some 55) (v := ?_) (a' := ?_) #[true,true,true,true,true,true,true,true,true,true,true,true,false,false] rfl rfl (any_of HT_.out (by kernel_rfl)) (fun _ _ _ h=>h) (Or.inl ⟨by rfl, ?_⟩) ?_ ?_
              rotate_left
              ·
               intro w'
               go_simp
               with_reducible rfl
              rotate_left
              ·
               simp only [Act.put,List.setIfInBounds_toArray,List.set_cons_zero,List.set_cons_succ,i64_w,i32_w]
               rfl
              exact norm_ (by simp only [putAll,Act.put,List.setIfInBounds_toArray,List.set_cons_zero,List.set_cons_succ]) (hCont (v706,gb709) _ ⟨hHeld,(by (with_reducible repeat (first|apply zo|apply zp|apply zq));exact zG HO707.out (fun _ hk=>⟨hk.1.1,hk.2⟩)),(by (with_reducible repeat (first|apply zA|apply zB|apply zC));exact zy HO_690002.out (fun _ hk=>⟨hk.1.1.1,⟨hk.2,⟨hk.1.1.2.1,⟨hk.1.1.2.2.1,⟨hk.1.1.2.2.2.1,⟨hk.1.1.2.2.2.2.1,⟨hk.1.1.2.2.2.2.2,hk.1.2⟩⟩⟩⟩⟩⟩⟩)),(by (with_reducible repeat (first|apply zo|apply zp|apply zq));exact HO_698002.out),(by (with_reducible repeat (first|apply zA|apply zB|apply zC));exact zy HO_701002.out (fun _ hk=>⟨hk.1.1.1,⟨hk.2,⟨hk.1.1.2.1,⟨hk.1.1.2.2.1,⟨hk.1.1.2.2.2.1,⟨hk.1.1.2.2.2.2.1,⟨hk.1.1.2.2.2.2.2,hk.1.2⟩⟩⟩⟩⟩⟩⟩)),(by (with_reducible repeat (first|refine zh ?_ _|refine zj ?_|refine zi ?_ _));exact BK689.out),(by (with_reducible repeat (first|refine zh ?_ _|refine zj ?_|refine zi ?_ _));exact BK690.out),(by (with_reducible repeat (first|refine zh ?_ _|refine zj ?_|refine zi ?_ _));exact BK697.out),(by (with_reducible repeat (first|refine zh ?_ _|refine zj ?_|refine zi ?_ _));exact BK700.out),(by (with_reducible repeat (first|refine zh ?_ _|refine zj ?_|refine zi ?_ _));exact BK709.out),GW709.out,GE709.out,NB689_709.out,NB709_689.out,NB690_709.out,NB709_690.out,NB697_709.out,NB709_697.out,NB700_709.out,NB709_700.out,(by repeat (first|(with_reducible first|exact HB.out|apply ze|apply zd|apply zf|refine zk ?_ GE689.out|refine zk ?_ GE690.out|refine zk ?_ GE697.out|refine zk ?_ GE700.out|refine zk ?_ GE709.out)|exact HB.out))⟩)
            rintro ⟨v706,gb709⟩ w66 ⟨hS_,h0_,h1_,h2_,h3_,h4_,h5_,h6_,h7_,h8_,h9_,h10_,h11_,h12_,h13_,h14_,h15_,h16_,h17_,h18_,h19_⟩
            have n0_ : Aside0 (Kd.R (Kd.int .u8) 5 w66 w.heap.size (fun k_=>(w.heap.size≤k_)∧some k_≠(.slice Ao16 t693.length co16 : Value).ownBlock) v706 t705):=⟨h0_⟩
            have n1_ : Aside0 (Kd.V (Kd.int .u8) 5 w66 w.heap.size (fun k_=>(P0_2_ k_∨w.heap.size≤k_)∧some k_≠(v706 : Value).ownBlock∧some k_≠(.slice Ao16 t693.length co16 : Value).ownBlock∧k_≠gb689∧k_≠gb690∧k_≠gb697∧k_≠gb700∧k_≠gb709) (.slice A0_2 l0_2.length c0_2) l0_2):=⟨h1_⟩
            have n2_ : Aside0 (Kd.R (Kd.int .u8) 5 w66 w.heap.size (fun k_=>(w.heap.size≤k_)∧some k_≠(v706 : Value).ownBlock) (.slice Ao16 t693.length co16) t693):=⟨h2_⟩
            have n3_ : Aside0 (Kd.V (Kd.int .u8) 5 w66 w.heap.size (fun k_=>(P0_2_ k_∨w.heap.size≤k_)∧some k_≠(v706 : Value).ownBlock∧some k_≠(.slice Ao16 t693.length co16 : Value).ownBlock∧k_≠gb689∧k_≠gb690∧k_≠gb697∧k_≠gb700∧k_≠gb709) (.slice Ao62 x701002_2.length co62) x701002_2):=⟨h3_⟩
            have n4_ : Aside0 (w66.heap[gb689]? = some (.cells #[.int .u64 a0_0, .int .u32 a0_1, .slice A0_2 l0_2.length c0_2] 26 (0,0))):=⟨h4_⟩
            have n5_ : Aside0 (w66.heap[gb690]? = some (.cells #[.int .u64 x691000_2, .int .u32 x691001_2, .slice none 0 0] 26 (0,0))):=⟨h5_⟩
            have n6_ : Aside0 (w66.heap[gb697]? = some (.cells #[.int .u64 t691, .int .u32 t692, .slice Ao16 t693.length co16] 26 (0,0))):=⟨h6_⟩
            have n7_ : Aside0 (w66.heap[gb700]? = some (.cells #[.int .u64 x701000_2, .int .u32 x701001_2, .slice Ao62 x701002_2.length co62] 26 (0,0))):=⟨h7_⟩
            have n8_ : Aside0 (w66.heap[gb709]? = some (.cells #[.int .u64 0, .int .u32 0, .slice none 0 0] 26 (0,0))):=⟨h8_⟩
            have n9_ : Aside0 (w.heap.size≤gb709):=⟨h9_⟩
            have n10_ : Aside0 (w.heap.size≤gb709):=⟨h10_⟩
            have n11_ : Aside0 (gb689≠gb709):=⟨h11_⟩
            have n12_ : Aside0 (gb709≠gb689):=⟨h12_⟩
            have n13_ : Aside0 (gb690≠gb709):=⟨h13_⟩
            have n14_ : Aside0 (gb709≠gb690):=⟨h14_⟩
            have n15_ : Aside0 (gb697≠gb709):=⟨h15_⟩
            have n16_ : Aside0 (gb709≠gb697):=⟨h16_⟩
            have n17_ : Aside0 (gb700≠gb709):=⟨h17_⟩
            have n18_ : Aside0 (gb709≠gb700):=⟨h18_⟩
            have n19_ : Aside0 (Below w.heap.size w w66):=⟨h19_⟩
            clear HO_690002;clear HO_698002;clear HO_701002;clear BK689;clear BK690;clear BK697;clear BK700;clear HB;clear h0_ h1_ h2_ h3_ h4_ h5_ h6_ h7_ h8_ h9_ h10_ h11_ h12_ h13_ h14_ h15_ h16_ h17_ h18_ h19_;have HO707:=n0_;have HO_690002:=n1_;have HO_698002:=n2_;have HO_701002:=n3_;have BK689:=n4_;have BK690:=n5_;have BK697:=n6_;have BK700:=n7_;have BK709:=n8_;have GW709:=n9_;have GE709:=n10_;have NB689_709:=n11_;have NB709_689:=n12_;have NB690_709:=n13_;have NB709_690:=n14_;have NB697_709:=n15_;have NB709_697:=n16_;have NB700_709:=n17_;have NB709_700:=n18_;have HB:=n19_;clear n0_ n1_ n2_ n3_ n4_ n5_ n6_ n7_ n8_ n9_ n10_ n11_ n12_ n13_ n14_ n15_ n16_ n17_ n18_ n19_
            have hHeld : w66.cell? ⟨gb700,0,none⟩=some (.int .u64 x701000_2)∧w66.cell? ⟨gb700,1,none⟩=some (.int .u32 x701001_2)∧w66.cell? ⟨gb700,2,none⟩=some (.slice Ao62 x701002_2.length co62)∧w66.cell? (ad702.add (x36_2).toNat)=some (.int .i64 (rd l1 x36_2)):=hS_
            obtain ⟨Ao69,co69,eo69⟩:=Kd.R_slice HO707.out
            (first|subst eo69|(injection eo69 with f1_ f2_ f3_;have f4_:=f1_.symm;have f5_:=f3_.symm;clear f1_ f2_ f3_;subst f4_;subst f5_))
            refine norm_ (a' := ?_) ?_ ?_
            rotate_left
            ·
             simp only [putAll,Act.put,List.setIfInBounds_toArray,List.set_cons_zero,List.set_cons_succ]
             rfl
            refine one_ (i:=12) (N:=none) #[true,true,true,true,true,true,true,true,true,true,true,true,true,false] rfl rfl (one_of HT_.out (by kernel_rfl)) (by decide) (fun K hK => ?_)
            have hs67 : w66.cell? ⟨gb709,0,none⟩=some (.int .u64 0):=(zs BK709.out 0).trans rfl
            have hfs67:=zx BK709.out 0
            have hns67_0:=NB689_709.out;have hns67_1:=NB690_709.out;have hns67_2:=NB697_709.out;have hns67_3:=NB700_709.out;have hms67_0:=NB709_689.out;have hms67_1:=NB709_690.out;have hms67_2:=NB709_697.out;have hms67_3:=NB709_700.out
            have hs68 : w66.cell? ⟨gb709,1,none⟩=some (.int .u32 0):=(zs BK709.out 1).trans rfl
            have hfs68:=zx BK709.out 1
            have hns68_0:=NB689_709.out;have hns68_1:=NB690_709.out;have hns68_2:=NB697_709.out;have hns68_3:=NB700_709.out;have hms68_0:=NB709_689.out;have hms68_1:=NB709_690.out;have hms68_2:=NB709_697.out;have hms68_3:=NB709_700.out
            have hs70 : w66.cell? ⟨gb709,2,none⟩=some (.slice none 0 0):=(zs BK709.out 2).trans rfl
            have hfs70:=zx BK709.out 2
            have hns70_0:=NB689_709.out;have hns70_1:=NB690_709.out;have hns70_2:=NB697_709.out;have hns70_3:=NB700_709.out;have hms70_0:=NB709_689.out;have hms70_1:=NB709_690.out;have hms70_2:=NB709_697.out;have hms70_3:=NB709_700.out
            refine skip_ (w1 := ?_) (by rfl) rfl ?_ ?_
            rotate_left
            ·
             go_simp
             rfl
            refine hK.out _ _ ⟨((zr (p:=⟨gb709,_,none⟩) NB700_709.out _).trans (((zr (p:=⟨gb709,_,none⟩) NB700_709.out _).trans (((zr (p:=⟨gb709,_,none⟩) NB700_709.out _).trans (hHeld.1)))))),((zr (p:=⟨gb709,_,none⟩) NB700_709.out _).trans (((zr (p:=⟨gb709,_,none⟩) NB700_709.out _).trans (((zr (p:=⟨gb709,_,none⟩) NB700_709.out _).trans (hHeld.2.1)))))),((zr (p:=⟨gb709,_,none⟩) NB700_709.out _).trans (((zr (p:=⟨gb709,_,none⟩) NB700_709.out _).trans (((zr (p:=⟨gb709,_,none⟩) NB700_709.out _).trans (hHeld.2.2.1)))))),((zr (p:=⟨gb709,_,none⟩) (by first|exact zn (zl (by have:=zb _ _ hw702_0;first|rwa [za] at this|exact this) GW709.out)|(rw [za];exact zn (zl (by have:=zb _ _ hw702_0;first|rwa [za] at this|exact this) GW709.out))|(show (Addr.add _ _).block≠_;rw [za];exact zn (zl (by have:=zb _ _ hw702_0;first|rwa [za] at this|exact this) GW709.out))|(dsimp only;exact zn (zl (by have:=zb _ _ hw702_0;first|rwa [za] at this|exact this) GW709.out))) _).trans (((zr (p:=⟨gb709,_,none⟩) (by first|exact zn (zl (by have:=zb _ _ hw702_0;first|rwa [za] at this|exact this) GW709.out)|(rw [za];exact zn (zl (by have:=zb _ _ hw702_0;first|rwa [za] at this|exact this) GW709.out))|(show (Addr.add _ _).block≠_;rw [za];exact zn (zl (by have:=zb _ _ hw702_0;first|rwa [za] at this|exact this) GW709.out))|(dsimp only;exact zn (zl (by have:=zb _ _ hw702_0;first|rwa [za] at this|exact this) GW709.out))) _).trans (((zr (p:=⟨gb709,_,none⟩) (by first|exact zn (zl (by have:=zb _ _ hw702_0;first|rwa [za] at this|exact this) GW709.out)|(rw [za];exact zn (zl (by have:=zb _ _ hw702_0;first|rwa [za] at this|exact this) GW709.out))|(show (Addr.add _ _).block≠_;rw [za];exact zn (zl (by have:=zb _ _ hw702_0;first|rwa [za] at this|exact this) GW709.out))|(dsimp only;exact zn (zl (by have:=zb _ _ hw702_0;first|rwa [za] at this|exact this) GW709.out))) _).trans (hHeld.2.2.2))))))⟩ (fun hHeld => ?_)
            clear hK K
            refine pure_ (i:=13) (N:=some 16) (v := ?_) (a' := ?_) #[true,true,true,true,true,true,true,true,true,true,true,true,true,true] rfl rfl (any_of HT_.out (by kernel_rfl)) (fun _ _ _ h=>h) (Or.inl ⟨by rfl, ?_⟩) ?_ ?_
            rotate_left
            ·
             intro w'
             go_simp
             with_reducible rfl
            rotate_left
            ·
             simp only [Act.put,List.setIfInBounds_toArray,List.set_cons_zero,List.set_cons_succ,i64_w,i32_w]
             rfl
            refine done_ (done_of HT_.out (by kernel_rfl)) ?_
            have hnb71:=NB697_689.out;have hnc71:=NB689_697.out;have hnb72:=NB697_690.out;have hnc72:=NB690_697.out;have hnb73:=NB697_700.out;have hnc73:=NB700_697.out;have hnb74:=NB697_709.out;have hnc74:=NB709_697.out
            have hcz75_0 : w66.cell? ⟨gb697,0,none⟩=some (.int .u64 t691):=(zs BK697.out 0).trans rfl
            have hcz75_1 : w66.cell? ⟨gb697,1,none⟩=some (.int .u32 t692):=(zs BK697.out 1).trans rfl
            have hcz75_2 : w66.cell? ⟨gb697,2,none⟩=some (.slice Ao16 t693.length co16):=(zs BK697.out 2).trans rfl
            have hfz75_0:=zx BK697.out 0
            have hfz75_1:=zx BK697.out 1
            have hfz75_2:=zx BK697.out 2
            have hnb76:=NB690_689.out;have hnc76:=NB689_690.out;have hnb77:=NB690_700.out;have hnc77:=NB700_690.out;have hnb78:=NB690_709.out;have hnc78:=NB709_690.out
            have hcz79_0 : w66.cell? ⟨gb690,0,none⟩=some (.int .u64 x691000_2):=(zs BK690.out 0).trans rfl
            have hcz79_1 : w66.cell? ⟨gb690,1,none⟩=some (.int .u32 x691001_2):=(zs BK690.out 1).trans rfl
            have hcz79_2 : w66.cell? ⟨gb690,2,none⟩=some (.slice none 0 0):=(zs BK690.out 2).trans rfl
            have hfz79_0:=zx BK690.out 0
            have hfz79_1:=zx BK690.out 1
            have hfz79_2:=zx BK690.out 2
            try go_wp2
            refine bodyPost_ret (results_ct rfl _ _ gb690 26 #[.int .u64 t691, .int .u32 t692, .slice Ao16 t693.length co16] (0,0) _ rfl (by (with_reducible repeat (first|refine zh ?_ _|refine zj ?_|refine zi ?_ _));refine zw (cs := #[.int .u64 t691, .int .u32 t692, .slice none 0 0]) ?_ 2 _ rfl;(with_reducible repeat (first|refine zh ?_ _|refine zj ?_|refine zi ?_ _));refine zw (cs := #[.int .u64 t691, .int .u32 x691001_2, .slice none 0 0]) ?_ 1 _ rfl;(with_reducible repeat (first|refine zh ?_ _|refine zj ?_|refine zi ?_ _));refine zw (cs := #[.int .u64 x691000_2, .int .u32 x691001_2, .slice none 0 0]) ?_ 0 _ rfl;(with_reducible repeat (first|refine zh ?_ _|refine zj ?_|refine zi ?_ _|refine zv ?_ NB690_709.out _));exact BK690.out) Try.underlying26 rfl (by kernel_rfl)) rfl ?_
            exact ⟨_,by first|rfl|(simp [errW_none,errW_some] <;> rfl)|(simp [*,errW_none,errW_some] <;> rfl),zy (Kd.R_V (by (with_reducible repeat (first|apply zo|apply zp|apply zq));exact zG (zH (p:=⟨gb690,2,none⟩) (zH (p:=⟨gb690,1,none⟩) (zH (p:=⟨gb690,0,none⟩) (zH (p:=⟨gb709,2,none⟩) (zH (p:=⟨gb709,1,none⟩) (zH (p:=⟨gb709,0,none⟩) (Kd.R_types (Kd.R_types HO_698002.out BK709.out (by decide)) BK690.out (by decide)) (fun _ hk=>hk.1.2) (.int .u64 t703)) (fun _ hk=>hk.1.2) (.int .u32 t704)) (fun _ hk=>hk.1.2) (.slice Ao69 t705.length co69)) (fun _ hk=>hk.2) (.int .u64 t691)) (fun _ hk=>hk.2) (.int .u32 t692)) (fun _ hk=>hk.2) (.slice Ao16 t693.length co16)) (fun _ hk=>hk.1.1.1))) (fun k_ hk=>by first|exact ⟨(.inr (hk.1)),hk.2⟩|exact (.inr (hk))),by repeat (first|(with_reducible first|exact HB.out|apply ze|apply zd|apply zf|refine zk ?_ GE689.out|refine zk ?_ GE690.out|refine zk ?_ GE697.out|refine zk ?_ GE700.out|refine zk ?_ GE709.out)|exact HB.out)⟩
          ·
           rw [if_neg c41] at H
           exact absurd H (by simp)
         ·
          rw [if_neg c40] at H
          exact absurd H (by simp)
      ·
       rw [if_neg c35] at H
       have c35b0 : decide (x36_2 < 5)=false:=decide_eq_false c35
       clear c35
       simp only [Option.some.injEq,Prod.mk.injEq] at H
       obtain ⟨rfl,rfl,rfl,rfl⟩:=H
       have hnb80:=NB700_689.out;have hnc80:=NB689_700.out;have hnb81:=NB700_690.out;have hnc81:=NB690_700.out;have hnb82:=NB700_697.out;have hnc82:=NB697_700.out
       have hcz83_0 : wr.cell? ⟨gb700,0,none⟩=some (.int .u64 x701000_2):=(zs BK700.out 0).trans rfl
       have hcz83_1 : wr.cell? ⟨gb700,1,none⟩=some (.int .u32 x701001_2):=(zs BK700.out 1).trans rfl
       have hcz83_2 : wr.cell? ⟨gb700,2,none⟩=some (u701002):=(zs BK700.out 2).trans rfl
       have hfz83_0:=zx BK700.out 0
       have hfz83_1:=zx BK700.out 1
       have hfz83_2:=zx BK700.out 2
       have hnb84:=NB690_689.out;have hnc84:=NB689_690.out;have hnb85:=NB690_697.out;have hnc85:=NB697_690.out
       have hcz86_0 : wr.cell? ⟨gb690,0,none⟩=some (.int .u64 x691000_2):=(zs BK690.out 0).trans rfl
       have hcz86_1 : wr.cell? ⟨gb690,1,none⟩=some (.int .u32 x691001_2):=(zs BK690.out 1).trans rfl
       have hcz86_2 : wr.cell? ⟨gb690,2,none⟩=some (.slice none 0 0):=(zs BK690.out 2).trans rfl
       have hfz86_0:=zx BK690.out 0
       have hfz86_1:=zx BK690.out 1
       have hfz86_2:=zx BK690.out 2
       obtain ⟨Ao87,co87,eo87⟩:=Kd.V_slice HO_701002.out
       subst eo87
       go_wp2
       refine bodyPost_ret (results_ct rfl _ _ gb690 26 #[.int .u64 x701000_2, .int .u32 x701001_2, .slice Ao87 x701002_2.length co87] (0,0) _ rfl (by (with_reducible repeat (first|refine zh ?_ _|refine zj ?_|refine zi ?_ _));refine zw (cs := #[.int .u64 x701000_2, .int .u32 x701001_2, .slice none 0 0]) ?_ 2 _ rfl;(with_reducible repeat (first|refine zh ?_ _|refine zj ?_|refine zi ?_ _));refine zw (cs := #[.int .u64 x701000_2, .int .u32 x691001_2, .slice none 0 0]) ?_ 1 _ rfl;(with_reducible repeat (first|refine zh ?_ _|refine zj ?_|refine zi ?_ _));refine zw (cs := #[.int .u64 x691000_2, .int .u32 x691001_2, .slice none 0 0]) ?_ 0 _ rfl;(with_reducible repeat (first|refine zh ?_ _|refine zj ?_|refine zi ?_ _));exact BK690.out) Try.underlying26 rfl (by kernel_rfl)) rfl ?_
       exact ⟨_,by first|rfl|(simp [errW_none,errW_some] <;> rfl)|(simp [*,errW_none,errW_some] <;> rfl),by (with_reducible repeat (first|apply zA|apply zB|apply zC));exact zy (zI (p:=⟨gb690,2,none⟩) (zI (p:=⟨gb690,1,none⟩) (zI (p:=⟨gb690,0,none⟩) (zy HO_701002.out (fun k_ hk=>(⟨hk,hk.2.2.2.1⟩ : _∧k_≠gb690))) (fun _ hk=>hk.2) (.int .u64 x701000_2)) (fun _ hk=>hk.2) (.int .u32 x701001_2)) (fun _ hk=>hk.2) (.slice Ao87 x701002_2.length co87)) (fun _ hk=>hk.1.1),by repeat (first|(with_reducible first|exact HB.out|apply ze|apply zd|apply zf|refine zk ?_ GE689.out|refine zk ?_ GE690.out|refine zk ?_ GE697.out|refine zk ?_ GE700.out)|exact HB.out)⟩

end Go.Proofs.Ytkaoiblgfpphoaa.Prt

namespace Go.Proofs.Ytkaoiblgfpphoaa.Prt
open Go.RowKit Go.Proofs.YtkaoiblgfpphoaaW.PrintWords Go.Proofs.YtkaoiblgfpphoaaW.PrintLast Go.Proofs.YtkaoiblgfpphoaaW.PrintMore
attribute [local go_sem] max2_int min2_int max_two min_two max_three min_three max_four min_four   -- for this text's walks alone
set_option linter.unusedVariables false
set_option linter.unusedSimpArgs false

/-! ### psalterylaw05_right: function 22 -/
def psalterylaw05_right.f (a0_0 : Int) (a0_1 : Int) (l0_2 : List Int) : Option (Bool):=if a0_0≤4294967295 then (if a0_1 ≥ 16777216 then (some (decide ((l0_2.length : Int)≤4000))) else (some false)) else (some false)
set_option maxHeartbeats 8000000 in
set_option maxRecDepth 100000 in
theorem psalterylaw05_right.calls (a0_0 : Int) (a0_1 : Int) (A0_2 : Option Addr) (c0_2 : Nat) (l0_2 : List Int) (r : Bool) (w : World) (hr0_2 : Kd.C (Kd.int .u8) w A0_2 l0_2.length l0_2) (hc0_2 : l0_2.length≤c0_2) (h : psalterylaw05_right.f a0_0 a0_1 l0_2=some r) :
  Calls Try.prog 22 #[.agg #[.int .u64 a0_0, .int .u32 a0_1, .slice A0_2 l0_2.length c0_2]] w fun e w' => e=.returned (.bool r)∧Below w.heap.size w w' := by
 have hu26:=Try.underlying26;have HR0_2:=zm hr0_2;have HC0_2:=zm hc0_2;clear hr0_2 hc0_2;have HB:=zm (Below.refl w.heap.size w)
 have H : (if a0_0≤4294967295 then (if a0_1 ≥ 16777216 then (some (decide ((l0_2.length : Int)≤4000))) else (some false)) else (some false))=some r:=h
 clear h
 by_cases c2 : a0_0≤4294967295
 ·
  rw [if_pos c2] at H
  have c2b0 : decide (a0_0≤4294967295)=true:=decide_eq_true c2
  clear c2
  by_cases c3 : a0_1 ≥ 16777216
  ·
   rw [if_pos c3] at H
   have c3b0 : decide (16777216≤a0_1)=true:=decide_eq_true c3
   clear c3
   obtain rfl:=Option.some.inj H
   go_enter Try.func22,Try.ntmps22
   go_wp2_with (first|((with_reducible refine gate_dst (N:=1) rfl ?_);(try (refine gate_guard (by rfl) ?_;dsimp only));refine box_event ?hg (N:=1) ?hd (cs := #[.int .u64 a0_0, .int .u32 a0_1, .slice A0_2 l0_2.length c0_2]) (t:=26) ?hr ?_;(case hd=>rfl);(case hg=>rfl);(case hr=>first|(go_simp;done)|(go_simp;rfl));intro gb221 hg w4 hbox hb;have n0_:=zm (zJ (by repeat (first|(with_reducible first|exact HB.out|apply ze|apply zd|apply zf)|exact HB.out)) hb);have n1_:=zm (hbox);have n2_:=zm ((by rw [hg];exact (zE (by repeat (first|(with_reducible first|exact HB.out|apply ze|apply zd|apply zf)|exact HB.out))) : w.heap.size≤gb221));have n3_:=zm ((by rw [hg];exact (zE (by repeat (first|(with_reducible first|exact HB.out|apply ze|apply zd|apply zf)|exact HB.out))) : w.heap.size≤gb221));clear HB;have HB:=n0_;have BK221:=n1_;have GW221:=n2_;have GE221:=n3_;clear n0_ n1_ n2_ n3_;clear hb hbox hg;have hcz5_0 : w4.cell? ⟨gb221,0,none⟩=some (.int .u64 a0_0):=(zs BK221.out 0).trans rfl;have hcz5_1 : w4.cell? ⟨gb221,1,none⟩=some (.int .u32 a0_1):=(zs BK221.out 1).trans rfl;have hcz5_2 : w4.cell? ⟨gb221,2,none⟩=some (.slice A0_2 l0_2.length c0_2):=(zs BK221.out 2).trans rfl;have hfz5_0:=zx BK221.out 0;have hfz5_1:=zx BK221.out 1;have hfz5_2:=zx BK221.out 2))
   go_ret
   exact ⟨by first|rfl|(simp [errW_none,errW_some] <;> rfl)|(simp [*,errW_none,errW_some] <;> rfl),by repeat (first|(with_reducible first|exact HB.out|apply ze|apply zd|apply zf|refine zk ?_ GE221.out)|exact HB.out)⟩
  ·
   rw [if_neg c3] at H
   have c3b0 : decide (16777216≤a0_1)=false:=decide_eq_false c3
   clear c3
   obtain rfl:=Option.some.inj H
   go_enter Try.func22,Try.ntmps22
   go_wp2_with (first|((with_reducible refine gate_dst (N:=1) rfl ?_);(try (refine gate_guard (by rfl) ?_;dsimp only));refine box_event ?hg (N:=1) ?hd (cs := #[.int .u64 a0_0, .int .u32 a0_1, .slice A0_2 l0_2.length c0_2]) (t:=26) ?hr ?_;(case hd=>rfl);(case hg=>rfl);(case hr=>first|(go_simp;done)|(go_simp;rfl));intro gb221 hg w6 hbox hb;have n0_:=zm (zJ (by repeat (first|(with_reducible first|exact HB.out|apply ze|apply zd|apply zf)|exact HB.out)) hb);have n1_:=zm (hbox);have n2_:=zm ((by rw [hg];exact (zE (by repeat (first|(with_reducible first|exact HB.out|apply ze|apply zd|apply zf)|exact HB.out))) : w.heap.size≤gb221));have n3_:=zm ((by rw [hg];exact (zE (by repeat (first|(with_reducible first|exact HB.out|apply ze|apply zd|apply zf)|exact HB.out))) : w.heap.size≤gb221));clear HB;have HB:=n0_;have BK221:=n1_;have GW221:=n2_;have GE221:=n3_;clear n0_ n1_ n2_ n3_;clear hb hbox hg;have hcz7_0 : w6.cell? ⟨gb221,0,none⟩=some (.int .u64 a0_0):=(zs BK221.out 0).trans rfl;have hcz7_1 : w6.cell? ⟨gb221,1,none⟩=some (.int .u32 a0_1):=(zs BK221.out 1).trans rfl;have hcz7_2 : w6.cell? ⟨gb221,2,none⟩=some (.slice A0_2 l0_2.length c0_2):=(zs BK221.out 2).trans rfl;have hfz7_0:=zx BK221.out 0;have hfz7_1:=zx BK221.out 1;have hfz7_2:=zx BK221.out 2))
   go_ret
   exact ⟨by first|rfl|(simp [errW_none,errW_some] <;> rfl)|(simp [*,errW_none,errW_some] <;> rfl),by repeat (first|(with_reducible first|exact HB.out|apply ze|apply zd|apply zf|refine zk ?_ GE221.out)|exact HB.out)⟩
 ·
  rw [if_neg c2] at H
  have c2b0 : decide (a0_0≤4294967295)=false:=decide_eq_false c2
  clear c2
  obtain rfl:=Option.some.inj H
  go_enter Try.func22,Try.ntmps22
  go_wp2_with (first|((with_reducible refine gate_dst (N:=1) rfl ?_);(try (refine gate_guard (by rfl) ?_;dsimp only));refine box_event ?hg (N:=1) ?hd (cs := #[.int .u64 a0_0, .int .u32 a0_1, .slice A0_2 l0_2.length c0_2]) (t:=26) ?hr ?_;(case hd=>rfl);(case hg=>rfl);(case hr=>first|(go_simp;done)|(go_simp;rfl));intro gb221 hg w8 hbox hb;have n0_:=zm (zJ (by repeat (first|(with_reducible first|exact HB.out|apply ze|apply zd|apply zf)|exact HB.out)) hb);have n1_:=zm (hbox);have n2_:=zm ((by rw [hg];exact (zE (by repeat (first|(with_reducible first|exact HB.out|apply ze|apply zd|apply zf)|exact HB.out))) : w.heap.size≤gb221));have n3_:=zm ((by rw [hg];exact (zE (by repeat (first|(with_reducible first|exact HB.out|apply ze|apply zd|apply zf)|exact HB.out))) : w.heap.size≤gb221));clear HB;have HB:=n0_;have BK221:=n1_;have GW221:=n2_;have GE221:=n3_;clear n0_ n1_ n2_ n3_;clear hb hbox hg;have hcz9_0 : w8.cell? ⟨gb221,0,none⟩=some (.int .u64 a0_0):=(zs BK221.out 0).trans rfl;have hcz9_1 : w8.cell? ⟨gb221,1,none⟩=some (.int .u32 a0_1):=(zs BK221.out 1).trans rfl;have hcz9_2 : w8.cell? ⟨gb221,2,none⟩=some (.slice A0_2 l0_2.length c0_2):=(zs BK221.out 2).trans rfl;have hfz9_0:=zx BK221.out 0;have hfz9_1:=zx BK221.out 1;have hfz9_2:=zx BK221.out 2))
  go_ret
  exact ⟨by first|rfl|(simp [errW_none,errW_some] <;> rfl)|(simp [*,errW_none,errW_some] <;> rfl),by repeat (first|(with_reducible first|exact HB.out|apply ze|apply zd|apply zf|refine zk ?_ GE221.out)|exact HB.out)⟩

end Go.Proofs.Ytkaoiblgfpphoaa.Prt

namespace Go.Proofs.Ytkaoiblgfpphoaa.Prt
open Go.RowKit Go.Proofs.YtkaoiblgfpphoaaW.PrintWords Go.Proofs.YtkaoiblgfpphoaaW.PrintLast Go.Proofs.YtkaoiblgfpphoaaW.PrintMore
attribute [local go_sem] max2_int min2_int max_two min_two max_three min_three max_four min_four   -- for this text's walks alone
set_option linter.unusedVariables false
set_option linter.unusedSimpArgs false

/-! ### psalteryref05_New: function 57 -/
def psalteryref05_New.f  : Option (Int × List Int):=some (4294967295,(([0,0,0,0] : List Int)))
set_option maxHeartbeats 8000000 in
set_option maxRecDepth 100000 in
theorem psalteryref05_New.calls  (r1 : Int) (r2 : List Int) (w : World) (h : psalteryref05_New.f  = some (r1,r2)) :
  Calls Try.prog 57 #[] w fun e w' => ∃ v1_ : Value,e=.returned (.agg #[.int .u64 r1,v1_])∧Kd.R (Kd.int .i64) 3 w' w.heap.size (fun _=>True) v1_ r2∧Below w.heap.size w w' := by
 have hu33:=Try.underlying33;have HB:=zm (Below.refl w.heap.size w)
 have H : (some (4294967295,(([0,0,0,0] : List Int))))=some (r1,r2):=h
 clear h
 obtain ⟨y223,hy223⟩ : ∃ y_ : List Int,y_=(([0,0,0,0] : List Int)):=⟨_,rfl⟩
 replace H : (some (4294967295,y223))=some (r1,r2):=by first|(rw [hy223];with_reducible exact H)|(have H2_:=(Option.bind_some _ _).symm.trans H;rw [hy223];with_reducible exact H2_)|(have H2_:=(Option.bind_some _ _).symm.trans H;with_reducible exact H2_)|with_reducible exact H|(rw [hy223];exact H)|exact H
 have Ny223:=zm hy223;clear hy223
 simp only [Option.some.injEq,Prod.mk.injEq] at H
 obtain ⟨rfl,rfl⟩:=H
 go_enter Try.func57,Try.ntmps57
 go_wp2_with (first|((with_reducible refine gate_dst (N:=0) rfl ?_);refine box_event ?hg (N:=0) ?hd (cs := #[.int .u64 0, .slice none 0 0]) (t:=33) ?hr ?_;(case hd=>rfl);(case hg=>rfl);(case hr=>first|(go_simp;done)|(go_simp;rfl));intro gb222 hg w1 hbox hb;have n0_:=zm (zJ (by repeat (first|(with_reducible first|exact HB.out|apply ze|apply zd|apply zf)|exact HB.out)) hb);have n1_:=zm (hbox);have n2_:=zm ((by rw [hg];exact (zE (by repeat (first|(with_reducible first|exact HB.out|apply ze|apply zd|apply zf)|exact HB.out))) : w.heap.size≤gb222));have n3_:=zm ((by rw [hg];exact (zE (by repeat (first|(with_reducible first|exact HB.out|apply ze|apply zd|apply zf)|exact HB.out))) : w.heap.size≤gb222));clear HB;have HB:=n0_;have BK222:=n1_;have GW222:=n2_;have GE222:=n3_;clear n0_ n1_ n2_ n3_;clear hb hbox hg)|((with_reducible refine gate_dst (N:=1) rfl ?_);refine Kd.R_lit (Kd.int .i64) _ 3 ?hg (N:=1) ?hd (xs:=([0,0,0,0] : List Int)) (inner := [.int .i64 0, .int .i64 0, .int .i64 0, .int .i64 0]) (ok:=fun _=>True) (okp:=fun _=>True) ?hr ?hp (fun _ hk=>hk) trivial (Below.refl _ _) (Nat.le_refl _) (by simp) ?_;(case hd=>rfl);(case hg=>rfl);(case hr=>first|(go_simp;done)|(go_simp;rfl));(case hp=>exact (Reps.one (show Kd.M (Kd.int .i64) _ _ _ 0 [.int .i64 0] from rfl) (Reps.one (show Kd.M (Kd.int .i64) _ _ _ 0 [.int .i64 0] from rfl) (Reps.one (show Kd.M (Kd.int .i64) _ _ _ 0 [.int .i64 0] from rfl) (Reps.one (show Kd.M (Kd.int .i64) _ _ _ 0 [.int .i64 0] from rfl) (Reps.none _ _))))));intro v224 w2 ho3 hb hg_ hnew_;clear hg_ hnew_;(first|rw [← Ny223.out] at ho3|(simp only [Int.reduceToNat] at ho3;rw [← Ny223.out] at ho3));have n0_:=zm (Kd.R_lower ho3 (zE (by repeat (first|(with_reducible first|exact HB.out|apply ze|apply zd|apply zf|refine zk ?_ GE222.out)|exact HB.out))));have n1_:=zm (zF (g:=gb222) (o:=.cells #[.int .u64 0, .slice none 0 0] 33 (0,0)) (by (with_reducible repeat (first|refine zh ?_ _|refine zj ?_|refine zi ?_ _));exact BK222.out) hb);have n2_:=zm (zJ (by repeat (first|(with_reducible first|exact HB.out|apply ze|apply zd|apply zf|refine zk ?_ GE222.out)|exact HB.out)) hb);clear BK222;clear HB;have HO225:=n0_;have BK222:=n1_;have HB:=n2_;clear n0_ n1_ n2_;clear hb ho3;obtain ⟨Ao4,co4,eo4⟩:=Kd.R_slice HO225.out;subst eo4;have hcz5_0 : w2.cell? ⟨gb222,0,none⟩=some (.int .u64 0):=(zs BK222.out 0).trans rfl;have hcz5_1 : w2.cell? ⟨gb222,1,none⟩=some (.slice none 0 0):=(zs BK222.out 1).trans rfl;have hfz5_0:=zx BK222.out 0;have hfz5_1:=zx BK222.out 1))
 refine bodyPost_ret (results_cell_row rfl _ _ gb222 33 #[.int .u64 4294967295, .slice Ao4 y223.length co4] (0,0) _ rfl (by (with_reducible repeat (first|refine zh ?_ _|refine zj ?_|refine zi ?_ _));refine zw (cs := #[.int .u64 4294967295, .slice none 0 0]) ?_ 1 _ rfl;(with_reducible repeat (first|refine zh ?_ _|refine zj ?_|refine zi ?_ _));refine zw (cs := #[.int .u64 0, .slice none 0 0]) ?_ 0 _ rfl;(with_reducible repeat (first|refine zh ?_ _|refine zj ?_|refine zi ?_ _));exact BK222.out) Try.underlying33 rfl (by kernel_rfl)) rfl ?_
 exact ⟨_,by first|rfl|(simp [errW_none,errW_some] <;> rfl)|(simp [*,errW_none,errW_some] <;> rfl),by (with_reducible repeat (first|apply zo|apply zp|apply zq));exact zG (zH (p:=⟨gb222,1,none⟩) (zH (p:=⟨gb222,0,none⟩) (Kd.R_types HO225.out BK222.out (by decide)) (fun _ hk=>hk.2) (.int .u64 4294967295)) (fun _ hk=>hk.2) (.slice Ao4 y223.length co4)) (fun _ hk=>trivial),by repeat (first|(with_reducible first|exact HB.out|apply ze|apply zd|apply zf|refine zk ?_ GE222.out)|exact HB.out)⟩

end Go.Proofs.Ytkaoiblgfpphoaa.Prt

namespace Go.Proofs.Ytkaoiblgfpphoaa.Prt
open Go.RowKit Go.Proofs.YtkaoiblgfpphoaaW.PrintWords Go.Proofs.YtkaoiblgfpphoaaW.PrintLast Go.Proofs.YtkaoiblgfpphoaaW.PrintMore
attribute [local go_sem] max2_int min2_int max_two min_two max_three min_three max_four min_four   -- for this text's walks alone
set_option linter.unusedVariables false
set_option linter.unusedSimpArgs false

/-! ### psalterylaw05_AsEnc: function 20 -/
def psalterylaw05_AsEnc.l0 : Nat→Int→Int→Int→List Int→Int→List Int→Option (Int × List Int)
 | 0,_,_,_,_,_,_=>none
 | k+1,x4,x227000,x227001,x227002,x234000,x234001=>if x4 < (x227002.length : Int) then (if 0≤x4 then (if x234001.length < 17592186044416 then (psalterylaw05_AsEnc.l0 k (wrap64 (x4+1)) x227000 x227001 x227002 x234000 (x234001 ++ [wrap64 (rd x227002 x4)])) else (none)) else (none)) else ((some (([wrap64 (IntKind.u64.wrap (Int.tdiv x227000 16777216)),wrap64 (Int.tmod (IntKind.u64.wrap (Int.tdiv x227000 65536)) 256),wrap64 (Int.tmod (IntKind.u64.wrap (Int.tdiv x227000 256)) 256),wrap64 (Int.tmod x227000 256)] : List Int) : List Int)).bind fun y238=>(if x234001.length+y238.length < 17592186044416 then (some (x234000,(x234001 ++ y238))) else (none)))
def psalterylaw05_AsEnc.f (k : Nat) (a0_0 : Int) (a0_1 : Int) (l0_2 : List Int) : Option (Int × List Int):=(psalterylaw05_right.f a0_0 a0_1 l0_2).bind fun t228=>(if t228=true then (psalterylaw05_AsEnc.l0 k 0 a0_0 a0_1 l0_2 (IntKind.u64.wrap (a0_1)) ([] : List Int)) else ((psalteryref05_New.f).bind fun bt229=>(some (bt229.1,bt229.2))))
theorem psalterylaw05_AsEnc.mono_l : ∀ k,(∀ y0 y1 y2 y3 y4 y5,LeO (psalterylaw05_AsEnc.l0 k y0 y1 y2 y3 y4 y5) (psalterylaw05_AsEnc.l0 (k+1) y0 y1 y2 y3 y4 y5))
 | 0=>fun _ _ _ _ _ _ r h=>by simp [psalterylaw05_AsEnc.l0] at h
 | k+1=>by
  have ih0:=psalterylaw05_AsEnc.mono_l k
  ·
   intro y0 y1 y2 y3 y4 y5
   unfold psalterylaw05_AsEnc.l0
   repeat' first
   | (with_reducible exact ih0 _ _ _ _ _ _)
   | (with_reducible exact LeO.refl _)
   | (with_reducible exact LeO.none _)
   | (with_reducible refine LeO.ite ?_ ?_)
   | (with_reducible refine LeO.bind ?_ (fun _ => ?_))
   | exact ih0 _ _ _ _ _ _
   | exact LeO.none _
   | refine LeO.ite ?_ ?_
   | refine LeO.bind ?_ (fun _ => ?_)
theorem psalterylaw05_AsEnc.mono : ∀ a0 a1 a2 k,LeO (psalterylaw05_AsEnc.f k a0 a1 a2) (psalterylaw05_AsEnc.f (k+1) a0 a1 a2):=by
 intro a0 a1 a2 k
 have ih0:=psalterylaw05_AsEnc.mono_l k
 unfold psalterylaw05_AsEnc.f
 repeat' first
   | (with_reducible exact ih0 _ _ _ _ _ _)
   | (with_reducible exact LeO.refl _)
   | (with_reducible exact LeO.none _)
   | (with_reducible refine LeO.ite ?_ ?_)
   | (with_reducible refine LeO.bind ?_ (fun _ => ?_))
   | exact ih0 _ _ _ _ _ _
   | exact LeO.none _
   | refine LeO.ite ?_ ?_
   | refine LeO.bind ?_ (fun _ => ?_)
def psalterylaw05_AsEnc.T7 : Bool × List (List Nat × List Nat):=(true, [([], []),([0], [0]),([], []),([2], [2]),([], []),([3,4], [3,4]),([5], [5]),([6], [6]),([7], [7]),([1,8], [1,8]),([0,1,2,3,4,5,6,7,8,9], []),([10,9,9,0,1,2,3,4,5,6,7,8,9], [9,10])])
def psalterylaw05_AsEnc.B7 : List Nat := [0,1,0,4,0,28,60,124,252,511,1023,2047]
theorem psalterylaw05_AsEnc.tab7 : rtab .any (opsOf Try.f20 7)=psalterylaw05_AsEnc.T7:=by kernel_rfl
theorem psalterylaw05_AsEnc.bits7 : waitsOk psalterylaw05_AsEnc.T7.2 psalterylaw05_AsEnc.B7=true:=by kernel_rfl
set_option maxHeartbeats 8000000 in
set_option maxRecDepth 100000 in
theorem psalterylaw05_AsEnc.calls (k : Nat) (a0_0 : Int) (a0_1 : Int) (A0_2 : Option Addr) (c0_2 : Nat) (l0_2 : List Int) (r1 : Int) (r2 : List Int) (w : World) (hr0_2 : Kd.C (Kd.int .u8) w A0_2 l0_2.length l0_2) (hc0_2 : l0_2.length≤c0_2) (h : psalterylaw05_AsEnc.f k a0_0 a0_1 l0_2=some (r1,r2)) :
  Calls Try.prog 20 #[.agg #[.int .u64 a0_0, .int .u32 a0_1, .slice A0_2 l0_2.length c0_2]] w fun e w' => ∃ v1_ : Value,e=.returned (.agg #[.int .u64 r1,v1_])∧Kd.R (Kd.int .i64) 3 w' w.heap.size (fun _=>True) v1_ r2∧Below w.heap.size w w' := by
 have hu26:=Try.underlying26;have hu33:=Try.underlying33;have HR0_2:=zm hr0_2;have HC0_2:=zm hc0_2;clear hr0_2 hc0_2;have HB:=zm (Below.refl w.heap.size w)
 have H : ((psalterylaw05_right.f a0_0 a0_1 l0_2).bind fun t228=>(if t228=true then (psalterylaw05_AsEnc.l0 k 0 a0_0 a0_1 l0_2 (IntKind.u64.wrap (a0_1)) ([] : List Int)) else ((psalteryref05_New.f).bind fun bt229=>(some (bt229.1,bt229.2)))))=some (r1,r2):=h
 clear h
 replace H:=Option.bind_eq_some_iff.mp H
 obtain ⟨t228,A20,H⟩:=H
 replace H : (if t228=true then (psalterylaw05_AsEnc.l0 k 0 a0_0 a0_1 l0_2 (IntKind.u64.wrap (a0_1)) ([] : List Int)) else ((psalteryref05_New.f).bind fun bt229=>(some (bt229.1,bt229.2))))=some (r1,r2):=H
 have A2:=zm A20;clear A20
 by_cases c3 : t228=true
 ·
  subst c3
  have H1 : (psalterylaw05_AsEnc.l0 k 0 a0_0 a0_1 l0_2 (IntKind.u64.wrap (a0_1)) ([] : List Int))=some (r1,r2):=by rw [if_pos rfl] at H;exact H
  clear H;have H:=H1;clear H1
  have H' := zm H
  clear H
  go_enter Try.func20,Try.ntmps20
  go_wp2_with (first|((with_reducible refine gate_dst (N:=1) rfl ?_);refine box_event ?hg (N:=1) ?hd (cs := #[.int .u64 a0_0, .int .u32 a0_1, .slice A0_2 l0_2.length c0_2]) (t:=26) ?hr ?_;(case hd=>rfl);(case hg=>rfl);(case hr=>first|(go_simp;done)|(go_simp;rfl));intro gb226 hg w4 hbox hb;have n0_:=zm (zJ (by repeat (first|(with_reducible first|exact HB.out|apply ze|apply zd|apply zf)|exact HB.out)) hb);have n1_:=zm (hbox);have n2_:=zm ((by rw [hg];exact (zE (by repeat (first|(with_reducible first|exact HB.out|apply ze|apply zd|apply zf)|exact HB.out))) : w.heap.size≤gb226));have n3_:=zm ((by rw [hg];exact (zE (by repeat (first|(with_reducible first|exact HB.out|apply ze|apply zd|apply zf)|exact HB.out))) : w.heap.size≤gb226));clear HB;have HB:=n0_;have BK226:=n1_;have GW226:=n2_;have GE226:=n3_;clear n0_ n1_ n2_ n3_;clear hb hbox hg)|((with_reducible refine gate_dst (N:=2) rfl ?_);refine box_event ?hg (N:=2) ?hd (cs := #[.int .u64 0, .slice none 0 0]) (t:=33) ?hr ?_;(case hd=>rfl);(case hg=>rfl);(case hr=>first|(go_simp;done)|(go_simp;rfl));intro gb227 hg w5 hbox hb;have n0_:=zm (zF (g:=gb226) (o:=.cells #[.int .u64 a0_0, .int .u32 a0_1, .slice A0_2 l0_2.length c0_2] 26 (0,0)) (by (with_reducible repeat (first|refine zh ?_ _|refine zj ?_|refine zi ?_ _));exact BK226.out) hb);have n1_:=zm (zJ (by repeat (first|(with_reducible first|exact HB.out|apply ze|apply zd|apply zf|refine zk ?_ GE226.out)|exact HB.out)) hb);have n2_:=zm (hbox);have n3_:=zm ((by rw [hg];exact (zE (by repeat (first|(with_reducible first|exact HB.out|apply ze|apply zd|apply zf|refine zk ?_ GE226.out)|exact HB.out))) : w.heap.size≤gb227));have n4_:=zm ((by rw [hg];exact (zE (by repeat (first|(with_reducible first|exact HB.out|apply ze|apply zd|apply zf|refine zk ?_ GE226.out)|exact HB.out))) : w.heap.size≤gb227));have n5_:=zm ((by rw [hg];exact zn (zD (g:=gb226) (o:=.cells #[.int .u64 a0_0, .int .u32 a0_1, .slice A0_2 l0_2.length c0_2] 26 (0,0)) (by (with_reducible repeat (first|refine zh ?_ _|refine zj ?_|refine zi ?_ _));exact BK226.out)) : gb226≠gb227));have n6_:=zm ((by rw [hg];exact zg (zD (g:=gb226) (o:=.cells #[.int .u64 a0_0, .int .u32 a0_1, .slice A0_2 l0_2.length c0_2] 26 (0,0)) (by (with_reducible repeat (first|refine zh ?_ _|refine zj ?_|refine zi ?_ _));exact BK226.out)) : gb227≠gb226));clear BK226;clear HB;have BK226:=n0_;have HB:=n1_;have BK227:=n2_;have GW227:=n3_;have GE227:=n4_;have NB226_227:=n5_;have NB227_226:=n6_;clear n0_ n1_ n2_ n3_ n4_ n5_ n6_;clear hb hbox hg;have hnb6:=NB226_227.out;have hnc6:=NB227_226.out;have hcz7_0 : w5.cell? ⟨gb226,0,none⟩=some (.int .u64 a0_0):=(zs BK226.out 0).trans rfl;have hcz7_1 : w5.cell? ⟨gb226,1,none⟩=some (.int .u32 a0_1):=(zs BK226.out 1).trans rfl;have hcz7_2 : w5.cell? ⟨gb226,2,none⟩=some (.slice A0_2 l0_2.length c0_2):=(zs BK226.out 2).trans rfl;have hfz7_0:=zx BK226.out 0;have hfz7_1:=zx BK226.out 1;have hfz7_2:=zx BK226.out 2)|((with_reducible refine gate_callee (f:=22) rfl ?_);refine goesL_ (some 6) rfl rfl Try.func22 (by kernel_rfl) rfl #[.agg #[.int .u64 a0_0, .int .u32 a0_1, .slice A0_2 l0_2.length c0_2]] rfl (by (try simp only [List.map_toArray,List.map_cons,List.map_nil]);first|done|rfl|(simp only [List.length_drop,List.length_take];rfl)) ?_;(with_reducible refine (psalterylaw05_right.calls a0_0 a0_1 _ _ l0_2 true _ ?side1 ?side2 A2.out).mono ?_);(case side1=>repeat (first|exact (Kd.C_below HR0_2.out HB.out)|(with_reducible refine Kd.C_alloc ?_ _)|(with_reducible refine Kd.C_drewN ?_ _)|(with_reducible refine Kd.C_drew ?_)));(case side2=>exact HC0_2.out);rintro e w8 ⟨rfl,hb⟩;refine ⟨_,rfl, ?_⟩;have n0_:=zm (zF (g:=gb226) (o:=.cells #[.int .u64 a0_0, .int .u32 a0_1, .slice A0_2 l0_2.length c0_2] 26 (0,0)) (by (with_reducible repeat (first|refine zh ?_ _|refine zj ?_|refine zi ?_ _));exact BK226.out) hb);have n1_:=zm (zF (g:=gb227) (o:=.cells #[.int .u64 0, .slice none 0 0] 33 (0,0)) (by (with_reducible repeat (first|refine zh ?_ _|refine zj ?_|refine zi ?_ _));exact BK227.out) hb);have n2_:=zm (zJ (by repeat (first|(with_reducible first|exact HB.out|apply ze|apply zd|apply zf|refine zk ?_ GE226.out|refine zk ?_ GE227.out)|exact HB.out)) hb);clear BK226;clear BK227;clear HB;have BK226:=n0_;have BK227:=n1_;have HB:=n2_;clear n0_ n1_ n2_;(try clear hb);(try clear hb2);(try clear hk);(try clear hi);have hcz9_0 : w8.cell? ⟨gb226,0,none⟩=some (.int .u64 a0_0):=(zs BK226.out 0).trans rfl;have hcz9_1 : w8.cell? ⟨gb226,1,none⟩=some (.int .u32 a0_1):=(zs BK226.out 1).trans rfl;have hcz9_2 : w8.cell? ⟨gb226,2,none⟩=some (.slice A0_2 l0_2.length c0_2):=(zs BK226.out 2).trans rfl;have hfz9_0:=zx BK226.out 0;have hfz9_1:=zx BK226.out 1;have hfz9_2:=zx BK226.out 2)|((with_reducible refine gate_dst (N:=3) rfl ?_);refine box_event ?hg (N:=3) ?hd (cs := #[.int .u64 0, .slice none 0 0]) (t:=33) ?hr ?_;(case hd=>rfl);(case hg=>rfl);(case hr=>first|(go_simp;done)|(go_simp;rfl));intro gb233 hg w10 hbox hb;have n0_:=zm (zF (g:=gb226) (o:=.cells #[.int .u64 a0_0, .int .u32 a0_1, .slice A0_2 l0_2.length c0_2] 26 (0,0)) (by (with_reducible repeat (first|refine zh ?_ _|refine zj ?_|refine zi ?_ _));exact BK226.out) hb);have n1_:=zm (zF (g:=gb227) (o:=.cells #[.int .u64 0, .slice none 0 0] 33 (0,0)) (by (with_reducible repeat (first|refine zh ?_ _|refine zj ?_|refine zi ?_ _));exact BK227.out) hb);have n2_:=zm (zJ (by repeat (first|(with_reducible first|exact HB.out|apply ze|apply zd|apply zf|refine zk ?_ GE226.out|refine zk ?_ GE227.out)|exact HB.out)) hb);have n3_:=zm (hbox);have n4_:=zm ((by rw [hg];exact (zE (by repeat (first|(with_reducible first|exact HB.out|apply ze|apply zd|apply zf|refine zk ?_ GE226.out|refine zk ?_ GE227.out)|exact HB.out))) : w.heap.size≤gb233));have n5_:=zm ((by rw [hg];exact (zE (by repeat (first|(with_reducible first|exact HB.out|apply ze|apply zd|apply zf|refine zk ?_ GE226.out|refine zk ?_ GE227.out)|exact HB.out))) : w.heap.size≤gb233));have n6_:=zm ((by rw [hg];exact zn (zD (g:=gb226) (o:=.cells #[.int .u64 a0_0, .int .u32 a0_1, .slice A0_2 l0_2.length c0_2] 26 (0,0)) (by (with_reducible repeat (first|refine zh ?_ _|refine zj ?_|refine zi ?_ _));exact BK226.out)) : gb226≠gb233));have n7_:=zm ((by rw [hg];exact zg (zD (g:=gb226) (o:=.cells #[.int .u64 a0_0, .int .u32 a0_1, .slice A0_2 l0_2.length c0_2] 26 (0,0)) (by (with_reducible repeat (first|refine zh ?_ _|refine zj ?_|refine zi ?_ _));exact BK226.out)) : gb233≠gb226));have n8_:=zm ((by rw [hg];exact zn (zD (g:=gb227) (o:=.cells #[.int .u64 0, .slice none 0 0] 33 (0,0)) (by (with_reducible repeat (first|refine zh ?_ _|refine zj ?_|refine zi ?_ _));exact BK227.out)) : gb227≠gb233));have n9_:=zm ((by rw [hg];exact zg (zD (g:=gb227) (o:=.cells #[.int .u64 0, .slice none 0 0] 33 (0,0)) (by (with_reducible repeat (first|refine zh ?_ _|refine zj ?_|refine zi ?_ _));exact BK227.out)) : gb233≠gb227));clear BK226;clear BK227;clear HB;have BK226:=n0_;have BK227:=n1_;have HB:=n2_;have BK233:=n3_;have GW233:=n4_;have GE233:=n5_;have NB226_233:=n6_;have NB233_226:=n7_;have NB227_233:=n8_;have NB233_227:=n9_;clear n0_ n1_ n2_ n3_ n4_ n5_ n6_ n7_ n8_ n9_;clear hb hbox hg;have hnb11:=NB233_226.out;have hnc11:=NB226_233.out;have hnb12:=NB233_227.out;have hnc12:=NB227_233.out;have hcz13_0 : w10.cell? ⟨gb233,0,none⟩=some (.int .u64 0):=(zs BK233.out 0).trans rfl;have hcz13_1 : w10.cell? ⟨gb233,1,none⟩=some (.slice none 0 0):=(zs BK233.out 1).trans rfl;have hfz13_0:=zx BK233.out 0;have hfz13_1:=zx BK233.out 1))
  go_loopg [4] k (fun kq v4 w' => ∃ (x4_1 : Int) (x234001_1 : List Int) (u234001 : Value),v4=.int .i64 x4_1∧Aside0 (psalterylaw05_AsEnc.l0 kq x4_1 a0_0 a0_1 l0_2 (IntKind.u64.wrap (a0_1)) x234001_1=some (r1,r2))∧Aside0 (kq≤k)∧Aside0 (Kd.R (Kd.int .i64) 3 w' w.heap.size (fun _=>True) u234001 x234001_1)∧Aside0 (w'.heap[gb226]? = some (.cells #[.int .u64 a0_0, .int .u32 a0_1,(.slice A0_2 l0_2.length c0_2)] 26 (0,0)))∧Aside0 (w'.heap[gb227]? = some (.cells #[.int .u64 0,(.slice none 0 0)] 33 (0,0)))∧Aside0 (w'.heap[gb233]? = some (.cells #[.int .u64 (IntKind.u64.wrap (a0_1)),u234001] 33 (0,0)))∧Aside0 (Below w.heap.size w w'))
  case atStart=>exact ⟨(0),(([] : List Int)),(.slice none 0 0),(by first|rfl|(simp;done)|(simp [*];done)),H',⟨Nat.le_refl _⟩,⟨by first|exact Kd.R_nil _ _ _ _ _|exact Kd.N_nil _ _ _ _ _|exact Kd.V_nil _ _ _ _ _|exact Kd.Q_nil _ _ _ _ _|exact Kd.S_nil _ _ _ _ _⟩,⟨by (with_reducible repeat (first|refine zh ?_ _|refine zj ?_|refine zi ?_ _|refine zv ?_ NB226_233.out _));exact BK226.out⟩,⟨by (with_reducible repeat (first|refine zh ?_ _|refine zj ?_|refine zi ?_ _|refine zv ?_ NB227_233.out _));exact BK227.out⟩,⟨by (with_reducible repeat (first|refine zh ?_ _|refine zj ?_|refine zi ?_ _));refine zw (cs := #[.int .u64 (IntKind.u64.wrap (a0_1)), .slice none 0 0]) ?_ 1 _ rfl;(with_reducible repeat (first|refine zh ?_ _|refine zj ?_|refine zi ?_ _));refine zw (cs := #[.int .u64 0, .slice none 0 0]) ?_ 0 _ rfl;(with_reducible repeat (first|refine zh ?_ _|refine zj ?_|refine zi ?_ _));exact BK233.out⟩,⟨by repeat (first|(with_reducible first|exact HB.out|apply ze|apply zd|apply zf|refine zk ?_ GE226.out|refine zk ?_ GE227.out|refine zk ?_ GE233.out)|exact HB.out)⟩⟩
  case round =>
   clear H'
   try clear c1
   try clear c2
   try clear p2
   try clear c3
   try clear c6
   try clear c11
   try clear c12
   try clear hcz13_0
   try clear hcz13_1
   try clear hcz7_0
   try clear hcz7_1
   try clear hcz7_2
   try clear hcz9_0
   try clear hcz9_1
   try clear hcz9_2
   try clear hfz13_0
   try clear hfz13_1
   try clear hfz7_0
   try clear hfz7_1
   try clear hfz7_2
   try clear hfz9_0
   try clear hfz9_1
   try clear hfz9_2
   obtain ⟨x4_1,x234001_1,u234001,rfl,HA,HK1,HO_234001,BK226,BK227,BK233,HB⟩:=hrel
   cases gk with
   | zero=>exact absurd HA.out (by simp [psalterylaw05_AsEnc.l0])
   | succ k1 =>
    have H:=HA.out;clear HA
    simp only [psalterylaw05_AsEnc.l0] at H
    by_cases c14 : x4_1 < (l0_2.length : Int)
    ·
     rw [if_pos c14] at H
     have c14b0 : decide (x4_1 < (l0_2.length : Int))=true:=decide_eq_true c14
     clear c14
     by_cases c15 : 0≤x4_1
     ·
      rw [if_pos c15] at H
      have c15b0 : decide (0≤x4_1)=true:=decide_eq_true c15
      clear c15
      by_cases c16 : x234001_1.length < 17592186044416
      ·
       rw [if_pos c16] at H
       have LMc16:=zm c16;clear c16
       obtain ⟨y235,hy235⟩ : ∃ y_ : List Int,y_=(x234001_1 ++ [wrap64 (rd l0_2 x4_1)]):=⟨_,rfl⟩
       replace H : (psalterylaw05_AsEnc.l0 k1 (wrap64 (x4_1+1)) a0_0 a0_1 l0_2 (IntKind.u64.wrap (a0_1)) y235)=some (r1,r2):=by first|(rw [hy235];with_reducible exact H)|(have H2_:=(Option.bind_some _ _).symm.trans H;rw [hy235];with_reducible exact H2_)|(have H2_:=(Option.bind_some _ _).symm.trans H;with_reducible exact H2_)|with_reducible exact H|(rw [hy235];exact H)|exact H
       have Ny235:=zm hy235;clear hy235
       have H' := zm H
       clear H;have hnb17:=NB226_227.out;have hnc17:=NB227_226.out;have hnb18:=NB226_233.out;have hnc18:=NB233_226.out
       have hcz19_0 : wr.cell? ⟨gb226,0,none⟩=some (.int .u64 a0_0):=(zs BK226.out 0).trans rfl
       have hcz19_1 : wr.cell? ⟨gb226,1,none⟩=some (.int .u32 a0_1):=(zs BK226.out 1).trans rfl
       have hcz19_2 : wr.cell? ⟨gb226,2,none⟩=some (.slice A0_2 l0_2.length c0_2):=(zs BK226.out 2).trans rfl
       have hfz19_0:=zx BK226.out 0
       have hfz19_1:=zx BK226.out 1
       have hfz19_2:=zx BK226.out 2
       try go_wp2
       have n0_:=zm (zq HO_234001.out);have n1_:=zm (zj BK226.out);have n2_:=zm (zj BK227.out);have n3_:=zm (zj BK233.out);have n4_:=zm (zf HB.out);clear HO_234001;clear BK226;clear BK227;clear BK233;clear HB;have HO_234001:=n0_;have BK226:=n1_;have BK227:=n2_;have BK233:=n3_;have HB:=n4_;clear n0_ n1_ n2_ n3_ n4_
       have p234 : 0≤(x4_1 : Int):=of_decide_eq_true (by first|(with_reducible assumption)|assumption)
       have q234 : x4_1 < (l0_2.length : Int):=of_decide_eq_true (by first|(with_reducible assumption)|assumption)
       obtain ⟨ad234,e234,hx234_0⟩:=Kd.at_int HR0_2.out x4_1 p234 q234
       have hw234_0:=hx234_0
       cases e234
       replace hx234_0:=(HB.out.cell (zb w _ hx234_0)).trans hx234_0
       replace p234:=eq_true p234
       replace q234:=eq_true q234
       refine start_ (n:=12) (S:=fun w' => w'.cell? ⟨gb233,0,none⟩=some (.int .u64 (IntKind.u64.wrap (a0_1)))∧w'.cell? ⟨gb233,1,none⟩=some (u234001)∧w'.cell? ⟨gb226,0,none⟩=some (.int .u64 a0_0)∧w'.cell? ⟨gb226,1,none⟩=some (.int .u32 a0_1)∧w'.cell? ⟨gb226,2,none⟩=some (.slice (some ad234) l0_2.length c0_2)∧w'.cell? (ad234.add (x4_1).toNat)=some (.int .u8 (rd l0_2 x4_1))) (ds := [11]) #[false,false,false,false,false,false,false,false,false,false,false,false] (by kernel_rfl) rfl rfl ⟨(zs BK233.out 0).trans rfl,(zs BK233.out 1).trans rfl,(zs BK226.out 0).trans rfl,(zs BK226.out 1).trans rfl,(zs BK226.out 2).trans rfl,((HB.out.cell (zb w _ hw234_0)).trans hw234_0)⟩ (fun hHeld => ?_);refine with_tabW psalterylaw05_AsEnc.tab7 psalterylaw05_AsEnc.bits7 (fun HT_ HW_ => ?_)
       generalize wr.drew=w20 at HO_234001 BK226 BK227 BK233 HB hx234_0 hHeld ⊢
       refine pure_ (i:=0) (N:=some 20) (v := ?_) (a' := ?_) #[true,false,false,false,false,false,false,false,false,false,false,false] rfl rfl (any_of HT_.out (by kernel_rfl)) (fun _ _ _ h=>h) (Or.inl ⟨by rfl, ?_⟩) ?_ ?_
       rotate_left
       ·
        intro w'
        go_simp
        with_reducible rfl
       rotate_left
       ·
        simp only [Act.put,List.setIfInBounds_toArray,List.set_cons_zero,List.set_cons_succ,i64_w,i32_w]
        rfl
       refine pure_ (i:=2) (N:=some 22) (v := ?_) (a' := ?_) #[true,false,true,false,false,false,false,false,false,false,false,false] rfl rfl (any_of HT_.out (by kernel_rfl)) (fun _ _ _ h=>h) (Or.inl ⟨by rfl, ?_⟩) ?_ ?_
       rotate_left
       ·
        intro w'
        go_simp
        with_reducible rfl
       rotate_left
       ·
        simp only [Act.put,List.setIfInBounds_toArray,List.set_cons_zero,List.set_cons_succ,i64_w,i32_w]
        rfl
       refine pure_ (i:=4) (N:=some 24) (v := ?_) (a' := ?_) #[true,false,true,false,true,false,false,false,false,false,false,false] rfl rfl (any_of HT_.out (by kernel_rfl)) (fun _ _ _ h=>h) (Or.inl ⟨by rfl, ?_⟩) ?_ ?_
       rotate_left
       ·
        intro w'
        go_simp
        with_reducible rfl
       rotate_left
       ·
        simp only [Act.put,List.setIfInBounds_toArray,List.set_cons_zero,List.set_cons_succ,i64_w,i32_w]
        rfl
       refine take_ (i:=1) (N:=some 21) (v := ?_) (a' := ?_) #[true,true,true,false,true,false,false,false,false,false,false,false] rfl rfl (take_ofW HT_.out HW_.out (by kernel_rfl)) (fun _ _ _ h=>h) (Or.inl ⟨by rfl, ?_⟩) hHeld ?_ ?_
       rotate_left
       ·
        rintro w' ⟨s0,s1,s2,s3,s4,s5⟩
        go_simp
        with_reducible rfl
       rotate_left
       ·
        simp only [Act.put,List.setIfInBounds_toArray,List.set_cons_zero,List.set_cons_succ,i64_w,i32_w]
        rfl
       refine take_ (i:=3) (N:=some 23) (v := ?_) (a' := ?_) #[true,true,true,true,true,false,false,false,false,false,false,false] rfl rfl (take_ofW HT_.out HW_.out (by kernel_rfl)) (fun _ _ _ h=>h) (Or.inl ⟨by rfl, ?_⟩) hHeld ?_ ?_
       rotate_left
       ·
        rintro w' ⟨s0,s1,s2,s3,s4,s5⟩
        go_simp
        with_reducible rfl
       rotate_left
       ·
        simp only [Act.put,List.setIfInBounds_toArray,List.set_cons_zero,List.set_cons_succ,i64_w,i32_w]
        rfl
       refine pure_ (i:=5) (N:=some 25) (v := ?_) (a' := ?_) #[true,true,true,true,true,true,false,false,false,false,false,false] rfl rfl (any_of HT_.out (by kernel_rfl)) (fun _ _ _ h=>h) (Or.inl ⟨by rfl, ?_⟩) ?_ ?_
       rotate_left
       ·
        intro w'
        go_simp
        with_reducible rfl
       rotate_left
       ·
        simp only [Act.put,List.setIfInBounds_toArray,List.set_cons_zero,List.set_cons_succ,i64_w,i32_w]
        rfl
       refine take_ (i:=6) (N:=some 26) (v := ?_) (a' := ?_) #[true,true,true,true,true,true,true,false,false,false,false,false] rfl rfl (take_ofW HT_.out HW_.out (by kernel_rfl)) (fun _ _ _ h=>h) (Or.inl ⟨by rfl, ?_⟩) hHeld ?_ ?_
       rotate_left
       ·
        rintro w' ⟨s0,s1,s2,s3,s4,s5⟩
        go_simp
        with_reducible rfl
       rotate_left
       ·
        simp only [Act.put,List.setIfInBounds_toArray,List.set_cons_zero,List.set_cons_succ,i64_w,i32_w]
        rfl
       refine pure_ (i:=7) (N:=some 27) (v := ?_) (a' := ?_) #[true,true,true,true,true,true,true,true,false,false,false,false] rfl rfl (any_of HT_.out (by kernel_rfl)) (fun _ _ _ h=>h) (Or.inl ⟨by rfl, ?_⟩) ?_ ?_
       rotate_left
       ·
        intro w'
        go_simp
        with_reducible rfl
       rotate_left
       ·
        simp only [Act.put,List.setIfInBounds_toArray,List.set_cons_zero,List.set_cons_succ,i64_w,i32_w]
        rfl
       refine one_ (i:=8) (N:=some 28) #[true,true,true,true,true,true,true,true,true,false,false,false] rfl rfl (one_of HT_.out (by kernel_rfl)) (by decide) (fun K hK => ?_)
       refine value_ (w1 := ?_) (v := ?_) (by rfl) rfl ?_ ?_
       rotate_left 2
       ·
        go_simp
        constructor
        ·
         rfl
        ·
         rfl
       refine hK.out _ _ ⟨(zs (zi BK233.out _) 0).trans rfl,(zs (zi BK233.out _) 1).trans rfl,(zs (zi BK226.out _) 0).trans rfl,(zs (zi BK226.out _) 1).trans rfl,(zs (zi BK226.out _) 2).trans rfl,(World.cell?_alloc_lt _ _ _ (zb _ _ (((HB.out.cell (zb w _ hw234_0)).trans hw234_0)))).trans (((HB.out.cell (zb w _ hw234_0)).trans hw234_0))⟩ (fun hHeld => ?_)
       clear hK K
       refine norm_ (a' := ?_) ?_ ?_
       rotate_left
       ·
        show Act.put _ (some 28) _=_
        simp only [Act.put,List.setIfInBounds_toArray,List.set_cons_zero,List.set_cons_succ,i64_w,i32_w]
        rfl
       refine one_ (i:=9) (N:=some 29) #[true,true,true,true,true,true,true,true,true,true,false,false] rfl rfl (one_of HT_.out (by kernel_rfl)) (by decide) (fun K hK => ?_)
       refine Kd.R_append_step (Kd.int .i64) (w0:=w) w.heap.size (by rfl) (.tmp 21) (.tmp 28) 31 3 (.int .i64 0) 8 rfl Try.underlying31 info3 rfl (by decide) (by omega) u234001 x234001_1 (wrap64 (rd l0_2 x4_1)) [.int .i64 (wrap64 (rd l0_2 x4_1))] (fun _=>True) (fun _=>False) rfl rfl ?aP (fun _ hk=>hk.elim) ?aF ?aO ?aB ?aS ?aL ?_
       (case aP=>exact rfl)
       (case aB=>exact (by repeat (first|(with_reducible first|exact HB.out|apply ze|apply zd|apply zf|refine zk ?_ GE226.out|refine zk ?_ GE227.out|refine zk ?_ GE233.out)|exact HB.out)))
       (case aF=>exact (fun _ _=>trivial))
       (case aO=>exact (by (with_reducible repeat (first|apply zo|apply zp|apply zq));exact HO_234001.out))
       (case aS=>exact (zE (by repeat (first|(with_reducible first|exact HB.out|apply ze|apply zd|apply zf|refine zk ?_ GE226.out|refine zk ?_ GE227.out|refine zk ?_ GE233.out)|exact HB.out))))
       (case aL=>have:=LMc16.out;omega)
       intro v236 w21 ho hb hg hat
       rw [← Ny235.out] at ho
       have n0_:=zm (blk_grown (g:=gb226) (o:=.cells #[.int .u64 a0_0, .int .u32 a0_1, .slice (some ad234) l0_2.length c0_2] 26 (0,0)) (by (with_reducible repeat (first|refine zh ?_ _|refine zj ?_|refine zi ?_ _));exact BK226.out) hg (zu HO_234001.out BK226.out (by decide)))
       have n1_:=zm (blk_grown (g:=gb227) (o:=.cells #[.int .u64 0, .slice none 0 0] 33 (0,0)) (by (with_reducible repeat (first|refine zh ?_ _|refine zj ?_|refine zi ?_ _));exact BK227.out) hg (zu HO_234001.out BK227.out (by decide)))
       have n2_:=zm (blk_grown (g:=gb233) (o:=.cells #[.int .u64 (IntKind.u64.wrap (a0_1)),u234001] 33 (0,0)) (by (with_reducible repeat (first|refine zh ?_ _|refine zj ?_|refine zi ?_ _));exact BK233.out) hg (zu HO_234001.out BK233.out (by decide)))
       have n3_:=zm (hb);have n4_:=zm (ho);clear BK226;clear BK227;clear BK233;clear HB;clear HO_234001;have BK226:=n0_;have BK227:=n1_;have BK233:=n2_;have HB:=n3_;have HO237:=n4_;clear n0_ n1_ n2_ n3_ n4_;clear ho hb hg hat
       obtain ⟨Ao22,co22,eo22⟩:=Kd.R_slice HO237.out
       (first|subst eo22|(injection eo22 with f1_ f2_ f3_;have f4_:=f1_.symm;have f5_:=f3_.symm;clear f1_ f2_ f3_;subst f4_;subst f5_))
       refine hK.out _ _ ⟨(zs BK233.out 0).trans rfl,(zs BK233.out 1).trans rfl,(zs BK226.out 0).trans rfl,(zs BK226.out 1).trans rfl,(zs BK226.out 2).trans rfl,((HB.out.cell (zb w _ hw234_0)).trans hw234_0)⟩ (fun hHeld => ?_)
       clear hK K
       refine norm_ (a' := ?_) ?_ ?_
       rotate_left
       ·
        show Act.put _ (some 29) _=_
        simp only [Act.put,List.setIfInBounds_toArray,List.set_cons_zero,List.set_cons_succ,i64_w,i32_w]
        rfl
       refine pure_ (i:=10) (N:=some 30) (v := ?_) (a' := ?_) #[true,true,true,true,true,true,true,true,true,true,true,false] rfl rfl (any_of HT_.out (by kernel_rfl)) (fun _ _ _ h=>h) (Or.inl ⟨by rfl, ?_⟩) ?_ ?_
       rotate_left
       ·
        intro w'
        go_simp
        with_reducible rfl
       rotate_left
       ·
        simp only [Act.put,List.setIfInBounds_toArray,List.set_cons_zero,List.set_cons_succ,i64_w,i32_w]
        rfl
       refine last_ (i:=11) (N:=none) #[true,true,true,true,true,true,true,true,true,true,true,true] rfl rfl (one_of HT_.out (by kernel_rfl)) (by decide) (fun K hK => ?_)
       have hs23 : w21.cell? ⟨gb233,1,none⟩=some (u234001):=(zs BK233.out 1).trans rfl
       have hfs23:=zx BK233.out 1
       have hns23_0:=NB226_233.out;have hns23_1:=NB227_233.out;have hms23_0:=NB233_226.out;have hms23_1:=NB233_227.out
       refine skip_ (w1 := ?_) (by rfl) rfl ?_ ?_
       rotate_left
       ·
        go_simp
        rfl
       refine hK.out _ _ ?_
       clear hK K
       refine done_ (done_of HT_.out (by kernel_rfl)) ?_
       try go_wp2
       go_roundg k1
       case measure=>have:=HK1.out;omega
       case rel=>exact ⟨(wrap64 (x4_1+1)),(y235),(.slice Ao22 y235.length co22),(by first|rfl|(simp;done)|(simp [*];done)),H',⟨by have:=HK1.out;omega⟩,⟨by (with_reducible repeat (first|apply zo|apply zp|apply zq));exact zG (zH (p:=⟨gb233,1,none⟩) (Kd.R_types HO237.out BK233.out (by decide)) (fun _ hk=>hk.2) (.slice Ao22 y235.length co22)) (fun _ hk=>trivial)⟩,⟨by (with_reducible repeat (first|refine zh ?_ _|refine zj ?_|refine zi ?_ _|refine zv ?_ NB226_233.out _));exact BK226.out⟩,⟨by (with_reducible repeat (first|refine zh ?_ _|refine zj ?_|refine zi ?_ _|refine zv ?_ NB227_233.out _));exact BK227.out⟩,⟨by (with_reducible repeat (first|refine zh ?_ _|refine zj ?_|refine zi ?_ _));refine zw (cs := #[.int .u64 (IntKind.u64.wrap (a0_1)),u234001]) ?_ 1 _ rfl;(with_reducible repeat (first|refine zh ?_ _|refine zj ?_|refine zi ?_ _));exact BK233.out⟩,⟨by repeat (first|(with_reducible first|exact HB.out|apply ze|apply zd|apply zf|refine zk ?_ GE226.out|refine zk ?_ GE227.out|refine zk ?_ GE233.out)|exact HB.out)⟩⟩
      ·
       rw [if_neg c16] at H
       exact absurd H (by simp)
     ·
      rw [if_neg c15] at H
      exact absurd H (by simp)
    ·
     rw [if_neg c14] at H
     have c14b0 : decide (x4_1 < (l0_2.length : Int))=false:=decide_eq_false c14
     clear c14
     obtain ⟨y238,hy238⟩ : ∃ y_ : List Int,y_=(([wrap64 (IntKind.u64.wrap (Int.tdiv a0_0 16777216)),wrap64 (Int.tmod (IntKind.u64.wrap (Int.tdiv a0_0 65536)) 256),wrap64 (Int.tmod (IntKind.u64.wrap (Int.tdiv a0_0 256)) 256),wrap64 (Int.tmod a0_0 256)] : List Int)):=⟨_,rfl⟩
     replace H : (if x234001_1.length+y238.length < 17592186044416 then (some ((IntKind.u64.wrap (a0_1)),(x234001_1 ++ y238))) else (none))=some (r1,r2):=by first|(rw [hy238];with_reducible exact H)|(have H2_:=(Option.bind_some _ _).symm.trans H;rw [hy238];with_reducible exact H2_)|(have H2_:=(Option.bind_some _ _).symm.trans H;with_reducible exact H2_)|with_reducible exact H|(rw [hy238];exact H)|exact H
     have Ny238:=zm hy238;clear hy238
     by_cases c24 : x234001_1.length+y238.length < 17592186044416
     ·
      rw [if_pos c24] at H
      have LMc24:=zm c24;clear c24
      obtain ⟨y241,hy241⟩ : ∃ y_ : List Int,y_=(x234001_1 ++ y238):=⟨_,rfl⟩
      replace H : (some ((IntKind.u64.wrap (a0_1)),y241))=some (r1,r2):=by first|(rw [hy241];with_reducible exact H)|(have H2_:=(Option.bind_some _ _).symm.trans H;rw [hy241];with_reducible exact H2_)|(have H2_:=(Option.bind_some _ _).symm.trans H;with_reducible exact H2_)|with_reducible exact H|(rw [hy241];exact H)|exact H
      have Ny241:=zm hy241;clear hy241
      simp only [Option.some.injEq,Prod.mk.injEq] at H
      obtain ⟨rfl,rfl⟩:=H
      have hnb25:=NB226_227.out;have hnc25:=NB227_226.out;have hnb26:=NB226_233.out;have hnc26:=NB233_226.out
      have hcz27_0 : wr.cell? ⟨gb226,0,none⟩=some (.int .u64 a0_0):=(zs BK226.out 0).trans rfl
      have hcz27_1 : wr.cell? ⟨gb226,1,none⟩=some (.int .u32 a0_1):=(zs BK226.out 1).trans rfl
      have hcz27_2 : wr.cell? ⟨gb226,2,none⟩=some (.slice A0_2 l0_2.length c0_2):=(zs BK226.out 2).trans rfl
      have hfz27_0:=zx BK226.out 0
      have hfz27_1:=zx BK226.out 1
      have hfz27_2:=zx BK226.out 2
      have hnb28:=NB233_227.out;have hnc28:=NB227_233.out
      have hcz29_0 : wr.cell? ⟨gb233,0,none⟩=some (.int .u64 (IntKind.u64.wrap (a0_1))):=(zs BK233.out 0).trans rfl
      have hcz29_1 : wr.cell? ⟨gb233,1,none⟩=some (u234001):=(zs BK233.out 1).trans rfl
      have hfz29_0:=zx BK233.out 0
      have hfz29_1:=zx BK233.out 1
      go_wp2_with (first|((with_reducible refine gate_dst (N:=51) rfl ?_);refine Kd.R_lit (Kd.int .i64) _ 3 ?hg (N:=51) ?hd (xs:=([wrap64 (IntKind.u64.wrap (Int.tdiv a0_0 16777216)),wrap64 (Int.tmod (IntKind.u64.wrap (Int.tdiv a0_0 65536)) 256),wrap64 (Int.tmod (IntKind.u64.wrap (Int.tdiv a0_0 256)) 256),wrap64 (Int.tmod a0_0 256)] : List Int)) (inner := [.int .i64 (wrap64 (IntKind.u64.wrap (Int.tdiv a0_0 16777216))), .int .i64 (wrap64 (Int.tmod (IntKind.u64.wrap (Int.tdiv a0_0 65536)) 256)), .int .i64 (wrap64 (Int.tmod (IntKind.u64.wrap (Int.tdiv a0_0 256)) 256)), .int .i64 (wrap64 (Int.tmod a0_0 256))]) (ok:=fun _=>True) (okp:=fun _=>True) ?hr ?hp (fun _ hk=>hk) trivial (Below.refl _ _) (Nat.le_refl _) (by simp) ?_;(case hd=>rfl);(case hg=>rfl);(case hr=>first|(go_simp;done)|(go_simp;rfl));(case hp=>exact (Reps.one (show Kd.M (Kd.int .i64) _ _ _ (wrap64 (IntKind.u64.wrap (Int.tdiv a0_0 16777216))) [.int .i64 (wrap64 (IntKind.u64.wrap (Int.tdiv a0_0 16777216)))] from rfl) (Reps.one (show Kd.M (Kd.int .i64) _ _ _ (wrap64 (Int.tmod (IntKind.u64.wrap (Int.tdiv a0_0 65536)) 256)) [.int .i64 (wrap64 (Int.tmod (IntKind.u64.wrap (Int.tdiv a0_0 65536)) 256))] from rfl) (Reps.one (show Kd.M (Kd.int .i64) _ _ _ (wrap64 (Int.tmod (IntKind.u64.wrap (Int.tdiv a0_0 256)) 256)) [.int .i64 (wrap64 (Int.tmod (IntKind.u64.wrap (Int.tdiv a0_0 256)) 256))] from rfl) (Reps.one (show Kd.M (Kd.int .i64) _ _ _ (wrap64 (Int.tmod a0_0 256)) [.int .i64 (wrap64 (Int.tmod a0_0 256))] from rfl) (Reps.none _ _))))));intro v239 w30 ho31 hb hg_ hnew_;clear hg_ hnew_;(first|rw [← Ny238.out] at ho31|(simp only [Int.reduceToNat] at ho31;rw [← Ny238.out] at ho31));have n0_:=zm (Kd.R_elder' (by (with_reducible repeat (first|apply zo|apply zp|apply zq));exact HO_234001.out) (Kd.R_base ho31) hb);have n1_:=zm (Kd.R_lower (Kd.R_new' ho31 (Kd.R_lt (by (with_reducible repeat (first|apply zo|apply zp|apply zq));exact HO_234001.out))) (zE (by repeat (first|(with_reducible first|exact HB.out|apply ze|apply zd|apply zf|refine zk ?_ GE226.out|refine zk ?_ GE227.out|refine zk ?_ GE233.out)|exact HB.out))));have n2_:=zm (zF (g:=gb226) (o:=.cells #[.int .u64 a0_0, .int .u32 a0_1, .slice A0_2 l0_2.length c0_2] 26 (0,0)) (by (with_reducible repeat (first|refine zh ?_ _|refine zj ?_|refine zi ?_ _));exact BK226.out) hb);have n3_:=zm (zF (g:=gb227) (o:=.cells #[.int .u64 0, .slice none 0 0] 33 (0,0)) (by (with_reducible repeat (first|refine zh ?_ _|refine zj ?_|refine zi ?_ _));exact BK227.out) hb);have n4_:=zm (zF (g:=gb233) (o:=.cells #[.int .u64 (IntKind.u64.wrap (a0_1)),u234001] 33 (0,0)) (by (with_reducible repeat (first|refine zh ?_ _|refine zj ?_|refine zi ?_ _));exact BK233.out) hb);have n5_:=zm (zJ (by repeat (first|(with_reducible first|exact HB.out|apply ze|apply zd|apply zf|refine zk ?_ GE226.out|refine zk ?_ GE227.out|refine zk ?_ GE233.out)|exact HB.out)) hb);clear HO_234001;clear BK226;clear BK227;clear BK233;clear HB;have HO_234001:=n0_;have HO240:=n1_;have BK226:=n2_;have BK227:=n3_;have BK233:=n4_;have HB:=n5_;clear n0_ n1_ n2_ n3_ n4_ n5_;clear hb ho31;obtain ⟨Ao33,co33,eo33⟩:=Kd.R_slice HO240.out;subst eo33)|((with_reducible refine gate_builtin (b:=.append) (xs := #[.tmp 32, .tmp 51]) rfl ?_);at_builtin;refine Kd.R_append_rows (Kd.int .i64) (w0:=w) w.heap.size rfl (.tmp 32) (.tmp 51) 31 3 (.int .i64 0) 8 rfl Try.underlying31 info3 rfl (by decide) (by omega) u234001 x234001_1 y238 _ _ _ (fun k_=>some k_≠(.slice Ao33 y238.length co33 : Value).ownBlock) (fun _=>False) rfl rfl ?aO ?aR (fun _ _ h=>h) (fun _ h=>h.elim) ?aF ?aB ?aS ?aL ?_;(case aR=>repeat (first|exact (Kd.R_reads' HO240.out).2.2|(with_reducible refine Kd.C_alloc ?_ _)|(with_reducible refine Kd.C_drewN ?_ _)|(with_reducible refine Kd.C_drew ?_)));(case aB=>exact (by repeat (first|(with_reducible first|exact HB.out|apply ze|apply zd|apply zf|refine zk ?_ GE226.out|refine zk ?_ GE227.out|refine zk ?_ GE233.out)|exact HB.out)));(case aF=>exact (fun k_ hk=>Kd.fresh' (Kd.R_lt (by (with_reducible repeat (first|apply zo|apply zp|apply zq));exact HO240.out)) k_ hk));(case aO=>exact (by (with_reducible repeat (first|apply zo|apply zp|apply zq));exact zG HO_234001.out (fun _ hk=>hk.2)));(case aS=>exact (zE (by repeat (first|(with_reducible first|exact HB.out|apply ze|apply zd|apply zf|refine zk ?_ GE226.out|refine zk ?_ GE227.out|refine zk ?_ GE233.out)|exact HB.out))));(case aL=>have:=LMc24.out;omega);intro v242 w32 ho hb hg hat;rw [← Ny241.out] at ho;have n0_:=zm (blk_grown (g:=gb226) (o:=.cells #[.int .u64 a0_0, .int .u32 a0_1, .slice A0_2 l0_2.length c0_2] 26 (0,0)) (by (with_reducible repeat (first|refine zh ?_ _|refine zj ?_|refine zi ?_ _));exact BK226.out) hg (zu HO_234001.out BK226.out (by decide)));have n1_:=zm (blk_grown (g:=gb227) (o:=.cells #[.int .u64 0, .slice none 0 0] 33 (0,0)) (by (with_reducible repeat (first|refine zh ?_ _|refine zj ?_|refine zi ?_ _));exact BK227.out) hg (zu HO_234001.out BK227.out (by decide)));have n2_:=zm (blk_grown (g:=gb233) (o:=.cells #[.int .u64 (IntKind.u64.wrap (a0_1)),u234001] 33 (0,0)) (by (with_reducible repeat (first|refine zh ?_ _|refine zj ?_|refine zi ?_ _));exact BK233.out) hg (zu HO_234001.out BK233.out (by decide)));have n3_:=zm (Kd.R_after (ok:=(fun _=>True)) (by (with_reducible repeat (first|apply zo|apply zp|apply zq));exact HO240.out) hg hat);have n4_:=zm (hb);have n5_:=zm (ho);clear BK226;clear BK227;clear BK233;clear HO240;clear HB;clear HO_234001;have BK226:=n0_;have BK227:=n1_;have BK233:=n2_;have HO240:=n3_;have HB:=n4_;have HO243:=n5_;clear n0_ n1_ n2_ n3_ n4_ n5_;clear ho hb hg hat;obtain ⟨Ao34,co34,eo34⟩:=Kd.R_slice HO243.out;subst eo34;have hcz35_0 : w32.cell? ⟨gb233,0,none⟩=some (.int .u64 (IntKind.u64.wrap (a0_1))):=(zs BK233.out 0).trans rfl;have hcz35_1 : w32.cell? ⟨gb233,1,none⟩=some (u234001):=(zs BK233.out 1).trans rfl;have hfz35_0:=zx BK233.out 0;have hfz35_1:=zx BK233.out 1;have hcz36_0 : w32.cell? ⟨gb227,0,none⟩=some (.int .u64 0):=(zs BK227.out 0).trans rfl;have hcz36_1 : w32.cell? ⟨gb227,1,none⟩=some (.slice none 0 0):=(zs BK227.out 1).trans rfl;have hfz36_0:=zx BK227.out 0;have hfz36_1:=zx BK227.out 1))
      refine bodyPost_ret (results_cell_row rfl _ _ gb227 33 #[.int .u64 (IntKind.u64.wrap (a0_1)), .slice Ao34 y241.length co34] (0,0) _ rfl (by (with_reducible repeat (first|refine zh ?_ _|refine zj ?_|refine zi ?_ _));refine zw (cs := #[.int .u64 (IntKind.u64.wrap (a0_1)), .slice none 0 0]) ?_ 1 _ rfl;(with_reducible repeat (first|refine zh ?_ _|refine zj ?_|refine zi ?_ _));refine zw (cs := #[.int .u64 0, .slice none 0 0]) ?_ 0 _ rfl;(with_reducible repeat (first|refine zh ?_ _|refine zj ?_|refine zi ?_ _|refine zv ?_ NB227_233.out _));exact BK227.out) Try.underlying33 rfl (by kernel_rfl)) rfl ?_
      exact ⟨_,by first|rfl|(simp [errW_none,errW_some] <;> rfl)|(simp [*,errW_none,errW_some] <;> rfl),by (with_reducible repeat (first|apply zo|apply zp|apply zq));exact zG (zH (p:=⟨gb227,1,none⟩) (zH (p:=⟨gb227,0,none⟩) (zH (p:=⟨gb233,1,none⟩) (Kd.R_types (Kd.R_types HO243.out BK233.out (by decide)) BK227.out (by decide)) (fun _ hk=>hk.1.2) (.slice Ao34 y241.length co34)) (fun _ hk=>hk.2) (.int .u64 (IntKind.u64.wrap (a0_1)))) (fun _ hk=>hk.2) (.slice Ao34 y241.length co34)) (fun _ hk=>trivial),by repeat (first|(with_reducible first|exact HB.out|apply ze|apply zd|apply zf|refine zk ?_ GE226.out|refine zk ?_ GE227.out|refine zk ?_ GE233.out)|exact HB.out)⟩
     ·
      rw [if_neg c24] at H
      exact absurd H (by simp)
 ·
  replace c3:=Bool.eq_false_iff.mpr c3
  subst c3
  have H1 : ((psalteryref05_New.f).bind fun bt229=>(some (bt229.1,bt229.2)))=some (r1,r2):=by rw [if_neg (show ¬ (false=true) by decide)] at H;exact H
  clear H;have H:=H1;clear H1
  replace H:=Option.bind_eq_some_iff.mp H
  obtain ⟨⟨t229,t230⟩,A370,H⟩:=H
  replace H : (some (t229,t230))=some (r1,r2):=H
  have A37:=zm A370;clear A370
  simp only [Option.some.injEq,Prod.mk.injEq] at H
  obtain ⟨rfl,rfl⟩:=H
  go_enter Try.func20,Try.ntmps20
  go_wp2_with (first|((with_reducible refine gate_dst (N:=1) rfl ?_);refine box_event ?hg (N:=1) ?hd (cs := #[.int .u64 a0_0, .int .u32 a0_1, .slice A0_2 l0_2.length c0_2]) (t:=26) ?hr ?_;(case hd=>rfl);(case hg=>rfl);(case hr=>first|(go_simp;done)|(go_simp;rfl));intro gb226 hg w38 hbox hb;have n0_:=zm (zJ (by repeat (first|(with_reducible first|exact HB.out|apply ze|apply zd|apply zf)|exact HB.out)) hb);have n1_:=zm (hbox);have n2_:=zm ((by rw [hg];exact (zE (by repeat (first|(with_reducible first|exact HB.out|apply ze|apply zd|apply zf)|exact HB.out))) : w.heap.size≤gb226));have n3_:=zm ((by rw [hg];exact (zE (by repeat (first|(with_reducible first|exact HB.out|apply ze|apply zd|apply zf)|exact HB.out))) : w.heap.size≤gb226));clear HB;have HB:=n0_;have BK226:=n1_;have GW226:=n2_;have GE226:=n3_;clear n0_ n1_ n2_ n3_;clear hb hbox hg)|((with_reducible refine gate_dst (N:=2) rfl ?_);refine box_event ?hg (N:=2) ?hd (cs := #[.int .u64 0, .slice none 0 0]) (t:=33) ?hr ?_;(case hd=>rfl);(case hg=>rfl);(case hr=>first|(go_simp;done)|(go_simp;rfl));intro gb227 hg w39 hbox hb;have n0_:=zm (zF (g:=gb226) (o:=.cells #[.int .u64 a0_0, .int .u32 a0_1, .slice A0_2 l0_2.length c0_2] 26 (0,0)) (by (with_reducible repeat (first|refine zh ?_ _|refine zj ?_|refine zi ?_ _));exact BK226.out) hb);have n1_:=zm (zJ (by repeat (first|(with_reducible first|exact HB.out|apply ze|apply zd|apply zf|refine zk ?_ GE226.out)|exact HB.out)) hb);have n2_:=zm (hbox);have n3_:=zm ((by rw [hg];exact (zE (by repeat (first|(with_reducible first|exact HB.out|apply ze|apply zd|apply zf|refine zk ?_ GE226.out)|exact HB.out))) : w.heap.size≤gb227));have n4_:=zm ((by rw [hg];exact (zE (by repeat (first|(with_reducible first|exact HB.out|apply ze|apply zd|apply zf|refine zk ?_ GE226.out)|exact HB.out))) : w.heap.size≤gb227));have n5_:=zm ((by rw [hg];exact zn (zD (g:=gb226) (o:=.cells #[.int .u64 a0_0, .int .u32 a0_1, .slice A0_2 l0_2.length c0_2] 26 (0,0)) (by (with_reducible repeat (first|refine zh ?_ _|refine zj ?_|refine zi ?_ _));exact BK226.out)) : gb226≠gb227));have n6_:=zm ((by rw [hg];exact zg (zD (g:=gb226) (o:=.cells #[.int .u64 a0_0, .int .u32 a0_1, .slice A0_2 l0_2.length c0_2] 26 (0,0)) (by (with_reducible repeat (first|refine zh ?_ _|refine zj ?_|refine zi ?_ _));exact BK226.out)) : gb227≠gb226));clear BK226;clear HB;have BK226:=n0_;have HB:=n1_;have BK227:=n2_;have GW227:=n3_;have GE227:=n4_;have NB226_227:=n5_;have NB227_226:=n6_;clear n0_ n1_ n2_ n3_ n4_ n5_ n6_;clear hb hbox hg;have hnb40:=NB226_227.out;have hnc40:=NB227_226.out;have hcz41_0 : w39.cell? ⟨gb226,0,none⟩=some (.int .u64 a0_0):=(zs BK226.out 0).trans rfl;have hcz41_1 : w39.cell? ⟨gb226,1,none⟩=some (.int .u32 a0_1):=(zs BK226.out 1).trans rfl;have hcz41_2 : w39.cell? ⟨gb226,2,none⟩=some (.slice A0_2 l0_2.length c0_2):=(zs BK226.out 2).trans rfl;have hfz41_0:=zx BK226.out 0;have hfz41_1:=zx BK226.out 1;have hfz41_2:=zx BK226.out 2)|((with_reducible refine gate_callee (f:=22) rfl ?_);refine goesL_ (some 6) rfl rfl Try.func22 (by kernel_rfl) rfl #[.agg #[.int .u64 a0_0, .int .u32 a0_1, .slice A0_2 l0_2.length c0_2]] rfl (by (try simp only [List.map_toArray,List.map_cons,List.map_nil]);first|done|rfl|(simp only [List.length_drop,List.length_take];rfl)) ?_;(with_reducible refine (psalterylaw05_right.calls a0_0 a0_1 _ _ l0_2 false _ ?side1 ?side2 A2.out).mono ?_);(case side1=>repeat (first|exact (Kd.C_below HR0_2.out HB.out)|(with_reducible refine Kd.C_alloc ?_ _)|(with_reducible refine Kd.C_drewN ?_ _)|(with_reducible refine Kd.C_drew ?_)));(case side2=>exact HC0_2.out);rintro e w42 ⟨rfl,hb⟩;refine ⟨_,rfl, ?_⟩;have n0_:=zm (zF (g:=gb226) (o:=.cells #[.int .u64 a0_0, .int .u32 a0_1, .slice A0_2 l0_2.length c0_2] 26 (0,0)) (by (with_reducible repeat (first|refine zh ?_ _|refine zj ?_|refine zi ?_ _));exact BK226.out) hb);have n1_:=zm (zF (g:=gb227) (o:=.cells #[.int .u64 0, .slice none 0 0] 33 (0,0)) (by (with_reducible repeat (first|refine zh ?_ _|refine zj ?_|refine zi ?_ _));exact BK227.out) hb);have n2_:=zm (zJ (by repeat (first|(with_reducible first|exact HB.out|apply ze|apply zd|apply zf|refine zk ?_ GE226.out|refine zk ?_ GE227.out)|exact HB.out)) hb);clear BK226;clear BK227;clear HB;have BK226:=n0_;have BK227:=n1_;have HB:=n2_;clear n0_ n1_ n2_;(try clear hb);(try clear hb2);(try clear hk);(try clear hi))|((with_reducible refine gate_callee (f:=57) rfl ?_);refine goesL_ (some 8) rfl rfl Try.func57 (by kernel_rfl) rfl #[] rfl (by (try simp only [List.map_toArray,List.map_cons,List.map_nil]);first|done|rfl|(simp only [List.length_drop,List.length_take];rfl)) ?_;(with_reducible refine (psalteryref05_New.calls  t229 t230 _ A37.out).mono ?_);rintro e w43 ⟨v231,rfl,ho0,hb⟩;refine ⟨_,rfl, ?_⟩;have n0_:=zm (Kd.R_lower ho0 (zE (by repeat (first|(with_reducible first|exact HB.out|apply ze|apply zd|apply zf|refine zk ?_ GE226.out|refine zk ?_ GE227.out)|exact HB.out))));have n1_:=zm (zF (g:=gb226) (o:=.cells #[.int .u64 a0_0, .int .u32 a0_1, .slice A0_2 l0_2.length c0_2] 26 (0,0)) (by (with_reducible repeat (first|refine zh ?_ _|refine zj ?_|refine zi ?_ _));exact BK226.out) hb);have n2_:=zm (zF (g:=gb227) (o:=.cells #[.int .u64 0, .slice none 0 0] 33 (0,0)) (by (with_reducible repeat (first|refine zh ?_ _|refine zj ?_|refine zi ?_ _));exact BK227.out) hb);have n3_:=zm (zJ (by repeat (first|(with_reducible first|exact HB.out|apply ze|apply zd|apply zf|refine zk ?_ GE226.out|refine zk ?_ GE227.out)|exact HB.out)) hb);clear BK226;clear BK227;clear HB;have HO232:=n0_;have BK226:=n1_;have BK227:=n2_;have HB:=n3_;clear n0_ n1_ n2_ n3_;(try clear hb);(try clear hb2);(try clear hk);(try clear hi);(try clear ho0);have hcz44_0 : w43.cell? ⟨gb227,0,none⟩=some (.int .u64 0):=(zs BK227.out 0).trans rfl;have hcz44_1 : w43.cell? ⟨gb227,1,none⟩=some (.slice none 0 0):=(zs BK227.out 1).trans rfl;have hfz44_0:=zx BK227.out 0;have hfz44_1:=zx BK227.out 1;obtain ⟨Ao45,co45,eo45⟩:=Kd.R_slice HO232.out;subst eo45))
  refine bodyPost_ret (results_cell_row rfl _ _ gb227 33 #[.int .u64 t229, .slice Ao45 t230.length co45] (0,0) _ rfl (by (with_reducible repeat (first|refine zh ?_ _|refine zj ?_|refine zi ?_ _));refine zw (cs := #[.int .u64 t229, .slice none 0 0]) ?_ 1 _ rfl;(with_reducible repeat (first|refine zh ?_ _|refine zj ?_|refine zi ?_ _));refine zw (cs := #[.int .u64 0, .slice none 0 0]) ?_ 0 _ rfl;(with_reducible repeat (first|refine zh ?_ _|refine zj ?_|refine zi ?_ _));exact BK227.out) Try.underlying33 rfl (by kernel_rfl)) rfl ?_
  exact ⟨_,by first|rfl|(simp [errW_none,errW_some] <;> rfl)|(simp [*,errW_none,errW_some] <;> rfl),by (with_reducible repeat (first|apply zo|apply zp|apply zq));exact zG (zH (p:=⟨gb227,1,none⟩) (zH (p:=⟨gb227,0,none⟩) (Kd.R_types HO232.out BK227.out (by decide)) (fun _ hk=>hk.2) (.int .u64 t229)) (fun _ hk=>hk.2) (.slice Ao45 t230.length co45)) (fun _ hk=>trivial),by repeat (first|(with_reducible first|exact HB.out|apply ze|apply zd|apply zf|refine zk ?_ GE226.out|refine zk ?_ GE227.out)|exact HB.out)⟩

end Go.Proofs.Ytkaoiblgfpphoaa.Prt

namespace Go.Proofs.Ytkaoiblgfpphoaa.Prt
open Go.RowKit Go.Proofs.YtkaoiblgfpphoaaW.PrintWords Go.Proofs.YtkaoiblgfpphoaaW.PrintLast Go.Proofs.YtkaoiblgfpphoaaW.PrintMore
attribute [local go_sem] max2_int min2_int max_two min_two max_three min_three max_four min_four   -- for this text's walks alone
set_option linter.unusedVariables false
set_option linter.unusedSimpArgs false

/-! ### psalterylaw05_SameEnc: function 23 -/
mutual
def psalterylaw05_SameEnc.j0 : Nat→Bool→Int→List Int→Int→List Int→Option (Bool)
 | 0,_,_,_,_,_=>none
 | k+1,x27,x246000,x246001,x251000,x251001=>if x27=true then (some false) else (psalterylaw05_SameEnc.l0 k 0 x246000 x246001 x251000 x251001)
def psalterylaw05_SameEnc.l0 : Nat→Int→Int→List Int→Int→List Int→Option (Bool)
 | 0,_,_,_,_,_=>none
 | k+1,x6,x246000,x246001,x251000,x251001=>if x6 < (x251001.length : Int) then (if 0≤x6 then (if x6 < (x246001.length : Int) then (if (rd x251001 x6)=(rd x246001 x6) then (psalterylaw05_SameEnc.l0 k (wrap64 (x6+1)) x246000 x246001 x251000 x251001) else (some false)) else (none)) else (none)) else (some true)
end
def psalterylaw05_SameEnc.f (k : Nat) (a0_0 : Int) (a0_1 : Int) (l0_2 : List Int) (a1_0 : Int) (l1_1 : List Int) : Option (Bool):=(psalterylaw05_AsEnc.f k a0_0 a0_1 l0_2).bind fun bt246=>((psalterylaw05_right.f a0_0 a0_1 l0_2).bind fun t251=>(if t251=true then (if bt246.1=a1_0 then (psalterylaw05_SameEnc.j0 k ((bt246.2.length : Int) != (l1_1.length : Int)) a1_0 l1_1 bt246.1 bt246.2) else (psalterylaw05_SameEnc.j0 k true a1_0 l1_1 bt246.1 bt246.2)) else (psalterylaw05_SameEnc.j0 k true a1_0 l1_1 bt246.1 bt246.2)))
theorem psalterylaw05_SameEnc.mono_l : ∀ k,(∀ y0 y1 y2 y3 y4,LeO (psalterylaw05_SameEnc.j0 k y0 y1 y2 y3 y4) (psalterylaw05_SameEnc.j0 (k+1) y0 y1 y2 y3 y4))∧(∀ y0 y1 y2 y3 y4,LeO (psalterylaw05_SameEnc.l0 k y0 y1 y2 y3 y4) (psalterylaw05_SameEnc.l0 (k+1) y0 y1 y2 y3 y4))
 | 0=>⟨fun _ _ _ _ _ r h=>by simp [psalterylaw05_SameEnc.j0] at h,fun _ _ _ _ _ r h=>by simp [psalterylaw05_SameEnc.l0] at h⟩
 | k+1=>by
  obtain ⟨ih0,ih1⟩:=psalterylaw05_SameEnc.mono_l k
  refine ⟨?_, ?_⟩
  ·
   intro y0 y1 y2 y3 y4
   unfold psalterylaw05_SameEnc.j0
   repeat' first
   | (with_reducible exact ih0 _ _ _ _ _)
   | (with_reducible exact ih1 _ _ _ _ _)
   | (with_reducible exact psalterylaw05_AsEnc.mono _ _ _ _)
   | (with_reducible exact LeO.refl _)
   | (with_reducible exact LeO.none _)
   | (with_reducible refine LeO.ite ?_ ?_)
   | (with_reducible refine LeO.bind ?_ (fun _ => ?_))
   | exact ih0 _ _ _ _ _
   | exact ih1 _ _ _ _ _
   | exact psalterylaw05_AsEnc.mono _ _ _ _
   | exact LeO.none _
   | refine LeO.ite ?_ ?_
   | refine LeO.bind ?_ (fun _ => ?_)
  ·
   intro y0 y1 y2 y3 y4
   unfold psalterylaw05_SameEnc.l0
   repeat' first
   | (with_reducible exact ih0 _ _ _ _ _)
   | (with_reducible exact ih1 _ _ _ _ _)
   | (with_reducible exact psalterylaw05_AsEnc.mono _ _ _ _)
   | (with_reducible exact LeO.refl _)
   | (with_reducible exact LeO.none _)
   | (with_reducible refine LeO.ite ?_ ?_)
   | (with_reducible refine LeO.bind ?_ (fun _ => ?_))
   | exact ih0 _ _ _ _ _
   | exact ih1 _ _ _ _ _
   | exact psalterylaw05_AsEnc.mono _ _ _ _
   | exact LeO.none _
   | refine LeO.ite ?_ ?_
   | refine LeO.bind ?_ (fun _ => ?_)
theorem psalterylaw05_SameEnc.mono : ∀ a0 a1 a2 a3 a4 k,LeO (psalterylaw05_SameEnc.f k a0 a1 a2 a3 a4) (psalterylaw05_SameEnc.f (k+1) a0 a1 a2 a3 a4):=by
 intro a0 a1 a2 a3 a4 k
 obtain ⟨ih0,ih1⟩:=psalterylaw05_SameEnc.mono_l k
 unfold psalterylaw05_SameEnc.f
 repeat' first
   | (with_reducible exact ih0 _ _ _ _ _)
   | (with_reducible exact ih1 _ _ _ _ _)
   | (with_reducible exact psalterylaw05_AsEnc.mono _ _ _ _)
   | (with_reducible exact LeO.refl _)
   | (with_reducible exact LeO.none _)
   | (with_reducible refine LeO.ite ?_ ?_)
   | (with_reducible refine LeO.bind ?_ (fun _ => ?_))
   | exact ih0 _ _ _ _ _
   | exact ih1 _ _ _ _ _
   | exact psalterylaw05_AsEnc.mono _ _ _ _
   | exact LeO.none _
   | refine LeO.ite ?_ ?_
   | refine LeO.bind ?_ (fun _ => ?_)
set_option maxHeartbeats 8000000 in
set_option maxRecDepth 100000 in
theorem psalterylaw05_SameEnc.calls (k : Nat) (a0_0 : Int) (a0_1 : Int) (A0_2 : Option Addr) (c0_2 : Nat) (l0_2 : List Int) (a1_0 : Int) (A1_1 : Option Addr) (c1_1 : Nat) (l1_1 : List Int) (r : Bool) (w : World) (hr0_2 : Kd.C (Kd.int .u8) w A0_2 l0_2.length l0_2) (hc0_2 : l0_2.length≤c0_2) (hr1_1 : Kd.C (Kd.int .i64) w A1_1 l1_1.length l1_1) (hc1_1 : l1_1.length≤c1_1) (h : psalterylaw05_SameEnc.f k a0_0 a0_1 l0_2 a1_0 l1_1=some r) :
  Calls Try.prog 23 #[.agg #[.int .u64 a0_0, .int .u32 a0_1, .slice A0_2 l0_2.length c0_2], .agg #[.int .u64 a1_0, .slice A1_1 l1_1.length c1_1]] w fun e w' => e=.returned (.bool r)∧Below w.heap.size w w' := by
 have hu26:=Try.underlying26;have hu33:=Try.underlying33;have HR0_2:=zm hr0_2;have HC0_2:=zm hc0_2;clear hr0_2 hc0_2;have HR1_1:=zm hr1_1;have HC1_1:=zm hc1_1;clear hr1_1 hc1_1;have HB:=zm (Below.refl w.heap.size w)
 have H : ((psalterylaw05_AsEnc.f k a0_0 a0_1 l0_2).bind fun bt246=>((psalterylaw05_right.f a0_0 a0_1 l0_2).bind fun t251=>(if t251=true then (if bt246.1=a1_0 then (psalterylaw05_SameEnc.j0 k ((bt246.2.length : Int) != (l1_1.length : Int)) a1_0 l1_1 bt246.1 bt246.2) else (psalterylaw05_SameEnc.j0 k true a1_0 l1_1 bt246.1 bt246.2)) else (psalterylaw05_SameEnc.j0 k true a1_0 l1_1 bt246.1 bt246.2))))=some r:=h
 clear h
 replace H:=Option.bind_eq_some_iff.mp H
 obtain ⟨⟨t246,t247⟩,A30,H⟩:=H
 replace H : ((psalterylaw05_right.f a0_0 a0_1 l0_2).bind fun t251=>(if t251=true then (if t246=a1_0 then (psalterylaw05_SameEnc.j0 k ((t247.length : Int) != (l1_1.length : Int)) a1_0 l1_1 t246 t247) else (psalterylaw05_SameEnc.j0 k true a1_0 l1_1 t246 t247)) else (psalterylaw05_SameEnc.j0 k true a1_0 l1_1 t246 t247)))=some r:=H
 have A3:=zm A30;clear A30;have HC4:=zm H;clear H
 go_enter Try.func23,Try.ntmps23
 go_upto_region 2 with (first|((with_reducible refine gate_dst (N:=2) rfl ?_);(try (refine gate_guard (by rfl) ?_;dsimp only));refine box_event ?hg (N:=2) ?hd (cs := #[.int .u64 a0_0, .int .u32 a0_1, .slice A0_2 l0_2.length c0_2]) (t:=26) ?hr ?_;(case hd=>rfl);(case hg=>rfl);(case hr=>first|(go_simp;done)|(go_simp;rfl));intro gb244 hg w5 hbox hb;have n0_:=zm (zJ (by repeat (first|(with_reducible first|exact HB.out|apply ze|apply zd|apply zf)|exact HB.out)) hb);have n1_:=zm (hbox);have n2_:=zm ((by rw [hg];exact (zE (by repeat (first|(with_reducible first|exact HB.out|apply ze|apply zd|apply zf)|exact HB.out))) : w.heap.size≤gb244));have n3_:=zm ((by rw [hg];exact (zE (by repeat (first|(with_reducible first|exact HB.out|apply ze|apply zd|apply zf)|exact HB.out))) : w.heap.size≤gb244));clear HB;have HB:=n0_;have BK244:=n1_;have GW244:=n2_;have GE244:=n3_;clear n0_ n1_ n2_ n3_;clear hb hbox hg)|((with_reducible refine gate_dst (N:=3) rfl ?_);(try (refine gate_guard (by rfl) ?_;dsimp only));refine box_event ?hg (N:=3) ?hd (cs := #[.int .u64 a1_0, .slice A1_1 l1_1.length c1_1]) (t:=33) ?hr ?_;(case hd=>rfl);(case hg=>rfl);(case hr=>first|(go_simp;done)|(go_simp;rfl));intro gb245 hg w6 hbox hb;have n0_:=zm (zF (g:=gb244) (o:=.cells #[.int .u64 a0_0, .int .u32 a0_1, .slice A0_2 l0_2.length c0_2] 26 (0,0)) (by (with_reducible repeat (first|refine zh ?_ _|refine zj ?_|refine zi ?_ _));exact BK244.out) hb);have n1_:=zm (zJ (by repeat (first|(with_reducible first|exact HB.out|apply ze|apply zd|apply zf|refine zk ?_ GE244.out)|exact HB.out)) hb);have n2_:=zm (hbox);have n3_:=zm ((by rw [hg];exact (zE (by repeat (first|(with_reducible first|exact HB.out|apply ze|apply zd|apply zf|refine zk ?_ GE244.out)|exact HB.out))) : w.heap.size≤gb245));have n4_:=zm ((by rw [hg];exact (zE (by repeat (first|(with_reducible first|exact HB.out|apply ze|apply zd|apply zf|refine zk ?_ GE244.out)|exact HB.out))) : w.heap.size≤gb245));have n5_:=zm ((by rw [hg];exact zn (zD (g:=gb244) (o:=.cells #[.int .u64 a0_0, .int .u32 a0_1, .slice A0_2 l0_2.length c0_2] 26 (0,0)) (by (with_reducible repeat (first|refine zh ?_ _|refine zj ?_|refine zi ?_ _));exact BK244.out)) : gb244≠gb245));have n6_:=zm ((by rw [hg];exact zg (zD (g:=gb244) (o:=.cells #[.int .u64 a0_0, .int .u32 a0_1, .slice A0_2 l0_2.length c0_2] 26 (0,0)) (by (with_reducible repeat (first|refine zh ?_ _|refine zj ?_|refine zi ?_ _));exact BK244.out)) : gb245≠gb244));clear BK244;clear HB;have BK244:=n0_;have HB:=n1_;have BK245:=n2_;have GW245:=n3_;have GE245:=n4_;have NB244_245:=n5_;have NB245_244:=n6_;clear n0_ n1_ n2_ n3_ n4_ n5_ n6_;clear hb hbox hg;have hnb7:=NB244_245.out;have hnc7:=NB245_244.out;have hcz8_0 : w6.cell? ⟨gb244,0,none⟩=some (.int .u64 a0_0):=(zs BK244.out 0).trans rfl;have hcz8_1 : w6.cell? ⟨gb244,1,none⟩=some (.int .u32 a0_1):=(zs BK244.out 1).trans rfl;have hcz8_2 : w6.cell? ⟨gb244,2,none⟩=some (.slice A0_2 l0_2.length c0_2):=(zs BK244.out 2).trans rfl;have hfz8_0:=zx BK244.out 0;have hfz8_1:=zx BK244.out 1;have hfz8_2:=zx BK244.out 2)|(go_at_call 20;(with_reducible refine (psalterylaw05_AsEnc.calls k a0_0 a0_1 _ _ l0_2 t246 t247 _ ?side1 ?side2 A3.out).mono ?_);(case side1=>repeat (first|exact (Kd.C_below HR0_2.out HB.out)|(with_reducible refine Kd.C_alloc ?_ _)|(with_reducible refine Kd.C_drewN ?_ _)|(with_reducible refine Kd.C_drew ?_)));(case side2=>exact HC0_2.out);rintro e w9 ⟨v248,rfl,ho0,hb⟩;have n0_:=zm (Kd.R_lower ho0 (zE (by repeat (first|(with_reducible first|exact HB.out|apply ze|apply zd|apply zf|refine zk ?_ GE244.out|refine zk ?_ GE245.out)|exact HB.out))));have n1_:=zm (zF (g:=gb244) (o:=.cells #[.int .u64 a0_0, .int .u32 a0_1, .slice A0_2 l0_2.length c0_2] 26 (0,0)) (by (with_reducible repeat (first|refine zh ?_ _|refine zj ?_|refine zi ?_ _));exact BK244.out) hb);have n2_:=zm (zF (g:=gb245) (o:=.cells #[.int .u64 a1_0, .slice A1_1 l1_1.length c1_1] 33 (0,0)) (by (with_reducible repeat (first|refine zh ?_ _|refine zj ?_|refine zi ?_ _));exact BK245.out) hb);have n3_:=zm (zJ (by repeat (first|(with_reducible first|exact HB.out|apply ze|apply zd|apply zf|refine zk ?_ GE244.out|refine zk ?_ GE245.out)|exact HB.out)) hb);clear BK244;clear BK245;clear HB;have HO249:=n0_;have BK244:=n1_;have BK245:=n2_;have HB:=n3_;clear n0_ n1_ n2_ n3_;(try clear hb);(try clear hb2);(try clear hk);(try clear hi);(try clear ho0))|((with_reducible refine gate_dst (N:=5) rfl ?_);(try (refine gate_guard (by rfl) ?_;dsimp only));refine box_event ?hg (N:=5) ?hd (cs := #[.int .u64 0, .slice none 0 0]) (t:=33) ?hr ?_;(case hd=>rfl);(case hg=>rfl);(case hr=>first|(go_simp;done)|(go_simp;rfl));intro gb250 hg w10 hbox hb;have n0_:=zm (Kd.R_below (by (with_reducible repeat (first|apply zo|apply zp|apply zq));exact HO249.out) hb);have n1_:=zm (zF (g:=gb244) (o:=.cells #[.int .u64 a0_0, .int .u32 a0_1, .slice A0_2 l0_2.length c0_2] 26 (0,0)) (by (with_reducible repeat (first|refine zh ?_ _|refine zj ?_|refine zi ?_ _));exact BK244.out) hb);have n2_:=zm (zF (g:=gb245) (o:=.cells #[.int .u64 a1_0, .slice A1_1 l1_1.length c1_1] 33 (0,0)) (by (with_reducible repeat (first|refine zh ?_ _|refine zj ?_|refine zi ?_ _));exact BK245.out) hb);have n3_:=zm (zJ (by repeat (first|(with_reducible first|exact HB.out|apply ze|apply zd|apply zf|refine zk ?_ GE244.out|refine zk ?_ GE245.out)|exact HB.out)) hb);have n4_:=zm (hbox);have n5_:=zm ((by rw [hg];exact (zE (by repeat (first|(with_reducible first|exact HB.out|apply ze|apply zd|apply zf|refine zk ?_ GE244.out|refine zk ?_ GE245.out)|exact HB.out))) : w.heap.size≤gb250));have n6_:=zm ((by rw [hg];exact (zE (by repeat (first|(with_reducible first|exact HB.out|apply ze|apply zd|apply zf|refine zk ?_ GE244.out|refine zk ?_ GE245.out)|exact HB.out))) : w.heap.size≤gb250));have n7_:=zm ((by rw [hg];exact zn (zD (g:=gb244) (o:=.cells #[.int .u64 a0_0, .int .u32 a0_1, .slice A0_2 l0_2.length c0_2] 26 (0,0)) (by (with_reducible repeat (first|refine zh ?_ _|refine zj ?_|refine zi ?_ _));exact BK244.out)) : gb244≠gb250));have n8_:=zm ((by rw [hg];exact zg (zD (g:=gb244) (o:=.cells #[.int .u64 a0_0, .int .u32 a0_1, .slice A0_2 l0_2.length c0_2] 26 (0,0)) (by (with_reducible repeat (first|refine zh ?_ _|refine zj ?_|refine zi ?_ _));exact BK244.out)) : gb250≠gb244));have n9_:=zm ((by rw [hg];exact zn (zD (g:=gb245) (o:=.cells #[.int .u64 a1_0, .slice A1_1 l1_1.length c1_1] 33 (0,0)) (by (with_reducible repeat (first|refine zh ?_ _|refine zj ?_|refine zi ?_ _));exact BK245.out)) : gb245≠gb250));have n10_:=zm ((by rw [hg];exact zg (zD (g:=gb245) (o:=.cells #[.int .u64 a1_0, .slice A1_1 l1_1.length c1_1] 33 (0,0)) (by (with_reducible repeat (first|refine zh ?_ _|refine zj ?_|refine zi ?_ _));exact BK245.out)) : gb250≠gb245));clear HO249;clear BK244;clear BK245;clear HB;have HO249:=n0_;have BK244:=n1_;have BK245:=n2_;have HB:=n3_;have BK250:=n4_;have GW250:=n5_;have GE250:=n6_;have NB244_250:=n7_;have NB250_244:=n8_;have NB245_250:=n9_;have NB250_245:=n10_;clear n0_ n1_ n2_ n3_ n4_ n5_ n6_ n7_ n8_ n9_ n10_;clear hb hbox hg;have hnb11:=NB250_244.out;have hnc11:=NB244_250.out;have hnb12:=NB250_245.out;have hnc12:=NB245_250.out;have hcz13_0 : w10.cell? ⟨gb250,0,none⟩=some (.int .u64 0):=(zs BK250.out 0).trans rfl;have hcz13_1 : w10.cell? ⟨gb250,1,none⟩=some (.slice none 0 0):=(zs BK250.out 1).trans rfl;have hfz13_0:=zx BK250.out 0;have hfz13_1:=zx BK250.out 1;obtain ⟨Ao14,co14,eo14⟩:=Kd.R_slice HO249.out;subst eo14))
 repeat (go_quiet (first|((with_reducible refine gate_dst (N:=2) rfl ?_);(try (refine gate_guard (by rfl) ?_;dsimp only));refine box_event ?hg (N:=2) ?hd (cs := #[.int .u64 a0_0, .int .u32 a0_1, .slice A0_2 l0_2.length c0_2]) (t:=26) ?hr ?_;(case hd=>rfl);(case hg=>rfl);(case hr=>first|(go_simp;done)|(go_simp;rfl));intro gb244 hg w5 hbox hb;have n0_:=zm (zJ (by repeat (first|(with_reducible first|exact HB.out|apply ze|apply zd|apply zf)|exact HB.out)) hb);have n1_:=zm (hbox);have n2_:=zm ((by rw [hg];exact (zE (by repeat (first|(with_reducible first|exact HB.out|apply ze|apply zd|apply zf)|exact HB.out))) : w.heap.size≤gb244));have n3_:=zm ((by rw [hg];exact (zE (by repeat (first|(with_reducible first|exact HB.out|apply ze|apply zd|apply zf)|exact HB.out))) : w.heap.size≤gb244));clear HB;have HB:=n0_;have BK244:=n1_;have GW244:=n2_;have GE244:=n3_;clear n0_ n1_ n2_ n3_;clear hb hbox hg)|((with_reducible refine gate_dst (N:=3) rfl ?_);(try (refine gate_guard (by rfl) ?_;dsimp only));refine box_event ?hg (N:=3) ?hd (cs := #[.int .u64 a1_0, .slice A1_1 l1_1.length c1_1]) (t:=33) ?hr ?_;(case hd=>rfl);(case hg=>rfl);(case hr=>first|(go_simp;done)|(go_simp;rfl));intro gb245 hg w6 hbox hb;have n0_:=zm (zF (g:=gb244) (o:=.cells #[.int .u64 a0_0, .int .u32 a0_1, .slice A0_2 l0_2.length c0_2] 26 (0,0)) (by (with_reducible repeat (first|refine zh ?_ _|refine zj ?_|refine zi ?_ _));exact BK244.out) hb);have n1_:=zm (zJ (by repeat (first|(with_reducible first|exact HB.out|apply ze|apply zd|apply zf|refine zk ?_ GE244.out)|exact HB.out)) hb);have n2_:=zm (hbox);have n3_:=zm ((by rw [hg];exact (zE (by repeat (first|(with_reducible first|exact HB.out|apply ze|apply zd|apply zf|refine zk ?_ GE244.out)|exact HB.out))) : w.heap.size≤gb245));have n4_:=zm ((by rw [hg];exact (zE (by repeat (first|(with_reducible first|exact HB.out|apply ze|apply zd|apply zf|refine zk ?_ GE244.out)|exact HB.out))) : w.heap.size≤gb245));have n5_:=zm ((by rw [hg];exact zn (zD (g:=gb244) (o:=.cells #[.int .u64 a0_0, .int .u32 a0_1, .slice A0_2 l0_2.length c0_2] 26 (0,0)) (by (with_reducible repeat (first|refine zh ?_ _|refine zj ?_|refine zi ?_ _));exact BK244.out)) : gb244≠gb245));have n6_:=zm ((by rw [hg];exact zg (zD (g:=gb244) (o:=.cells #[.int .u64 a0_0, .int .u32 a0_1, .slice A0_2 l0_2.length c0_2] 26 (0,0)) (by (with_reducible repeat (first|refine zh ?_ _|refine zj ?_|refine zi ?_ _));exact BK244.out)) : gb245≠gb244));clear BK244;clear HB;have BK244:=n0_;have HB:=n1_;have BK245:=n2_;have GW245:=n3_;have GE245:=n4_;have NB244_245:=n5_;have NB245_244:=n6_;clear n0_ n1_ n2_ n3_ n4_ n5_ n6_;clear hb hbox hg;have hnb7:=NB244_245.out;have hnc7:=NB245_244.out;have hcz8_0 : w6.cell? ⟨gb244,0,none⟩=some (.int .u64 a0_0):=(zs BK244.out 0).trans rfl;have hcz8_1 : w6.cell? ⟨gb244,1,none⟩=some (.int .u32 a0_1):=(zs BK244.out 1).trans rfl;have hcz8_2 : w6.cell? ⟨gb244,2,none⟩=some (.slice A0_2 l0_2.length c0_2):=(zs BK244.out 2).trans rfl;have hfz8_0:=zx BK244.out 0;have hfz8_1:=zx BK244.out 1;have hfz8_2:=zx BK244.out 2)|(go_at_call 20;(with_reducible refine (psalterylaw05_AsEnc.calls k a0_0 a0_1 _ _ l0_2 t246 t247 _ ?side1 ?side2 A3.out).mono ?_);(case side1=>repeat (first|exact (Kd.C_below HR0_2.out HB.out)|(with_reducible refine Kd.C_alloc ?_ _)|(with_reducible refine Kd.C_drewN ?_ _)|(with_reducible refine Kd.C_drew ?_)));(case side2=>exact HC0_2.out);rintro e w9 ⟨v248,rfl,ho0,hb⟩;have n0_:=zm (Kd.R_lower ho0 (zE (by repeat (first|(with_reducible first|exact HB.out|apply ze|apply zd|apply zf|refine zk ?_ GE244.out|refine zk ?_ GE245.out)|exact HB.out))));have n1_:=zm (zF (g:=gb244) (o:=.cells #[.int .u64 a0_0, .int .u32 a0_1, .slice A0_2 l0_2.length c0_2] 26 (0,0)) (by (with_reducible repeat (first|refine zh ?_ _|refine zj ?_|refine zi ?_ _));exact BK244.out) hb);have n2_:=zm (zF (g:=gb245) (o:=.cells #[.int .u64 a1_0, .slice A1_1 l1_1.length c1_1] 33 (0,0)) (by (with_reducible repeat (first|refine zh ?_ _|refine zj ?_|refine zi ?_ _));exact BK245.out) hb);have n3_:=zm (zJ (by repeat (first|(with_reducible first|exact HB.out|apply ze|apply zd|apply zf|refine zk ?_ GE244.out|refine zk ?_ GE245.out)|exact HB.out)) hb);clear BK244;clear BK245;clear HB;have HO249:=n0_;have BK244:=n1_;have BK245:=n2_;have HB:=n3_;clear n0_ n1_ n2_ n3_;(try clear hb);(try clear hb2);(try clear hk);(try clear hi);(try clear ho0))|((with_reducible refine gate_dst (N:=5) rfl ?_);(try (refine gate_guard (by rfl) ?_;dsimp only));refine box_event ?hg (N:=5) ?hd (cs := #[.int .u64 0, .slice none 0 0]) (t:=33) ?hr ?_;(case hd=>rfl);(case hg=>rfl);(case hr=>first|(go_simp;done)|(go_simp;rfl));intro gb250 hg w10 hbox hb;have n0_:=zm (Kd.R_below (by (with_reducible repeat (first|apply zo|apply zp|apply zq));exact HO249.out) hb);have n1_:=zm (zF (g:=gb244) (o:=.cells #[.int .u64 a0_0, .int .u32 a0_1, .slice A0_2 l0_2.length c0_2] 26 (0,0)) (by (with_reducible repeat (first|refine zh ?_ _|refine zj ?_|refine zi ?_ _));exact BK244.out) hb);have n2_:=zm (zF (g:=gb245) (o:=.cells #[.int .u64 a1_0, .slice A1_1 l1_1.length c1_1] 33 (0,0)) (by (with_reducible repeat (first|refine zh ?_ _|refine zj ?_|refine zi ?_ _));exact BK245.out) hb);have n3_:=zm (zJ (by repeat (first|(with_reducible first|exact HB.out|apply ze|apply zd|apply zf|refine zk ?_ GE244.out|refine zk ?_ GE245.out)|exact HB.out)) hb);have n4_:=zm (hbox);have n5_:=zm ((by rw [hg];exact (zE (by repeat (first|(with_reducible first|exact HB.out|apply ze|apply zd|apply zf|refine zk ?_ GE244.out|refine zk ?_ GE245.out)|exact HB.out))) : w.heap.size≤gb250));have n6_:=zm ((by rw [hg];exact (zE (by repeat (first|(with_reducible first|exact HB.out|apply ze|apply zd|apply zf|refine zk ?_ GE244.out|refine zk ?_ GE245.out)|exact HB.out))) : w.heap.size≤gb250));have n7_:=zm ((by rw [hg];exact zn (zD (g:=gb244) (o:=.cells #[.int .u64 a0_0, .int .u32 a0_1, .slice A0_2 l0_2.length c0_2] 26 (0,0)) (by (with_reducible repeat (first|refine zh ?_ _|refine zj ?_|refine zi ?_ _));exact BK244.out)) : gb244≠gb250));have n8_:=zm ((by rw [hg];exact zg (zD (g:=gb244) (o:=.cells #[.int .u64 a0_0, .int .u32 a0_1, .slice A0_2 l0_2.length c0_2] 26 (0,0)) (by (with_reducible repeat (first|refine zh ?_ _|refine zj ?_|refine zi ?_ _));exact BK244.out)) : gb250≠gb244));have n9_:=zm ((by rw [hg];exact zn (zD (g:=gb245) (o:=.cells #[.int .u64 a1_0, .slice A1_1 l1_1.length c1_1] 33 (0,0)) (by (with_reducible repeat (first|refine zh ?_ _|refine zj ?_|refine zi ?_ _));exact BK245.out)) : gb245≠gb250));have n10_:=zm ((by rw [hg];exact zg (zD (g:=gb245) (o:=.cells #[.int .u64 a1_0, .slice A1_1 l1_1.length c1_1] 33 (0,0)) (by (with_reducible repeat (first|refine zh ?_ _|refine zj ?_|refine zi ?_ _));exact BK245.out)) : gb250≠gb245));clear HO249;clear BK244;clear BK245;clear HB;have HO249:=n0_;have BK244:=n1_;have BK245:=n2_;have HB:=n3_;have BK250:=n4_;have GW250:=n5_;have GE250:=n6_;have NB244_250:=n7_;have NB250_244:=n8_;have NB245_250:=n9_;have NB250_245:=n10_;clear n0_ n1_ n2_ n3_ n4_ n5_ n6_ n7_ n8_ n9_ n10_;clear hb hbox hg;have hnb11:=NB250_244.out;have hnc11:=NB244_250.out;have hnb12:=NB250_245.out;have hnc12:=NB245_250.out;have hcz13_0 : w10.cell? ⟨gb250,0,none⟩=some (.int .u64 0):=(zs BK250.out 0).trans rfl;have hcz13_1 : w10.cell? ⟨gb250,1,none⟩=some (.slice none 0 0):=(zs BK250.out 1).trans rfl;have hfz13_0:=zx BK250.out 0;have hfz13_1:=zx BK250.out 1;obtain ⟨Ao14,co14,eo14⟩:=Kd.R_slice HO249.out;subst eo14));go_upto_region 2 with (first|((with_reducible refine gate_dst (N:=2) rfl ?_);(try (refine gate_guard (by rfl) ?_;dsimp only));refine box_event ?hg (N:=2) ?hd (cs := #[.int .u64 a0_0, .int .u32 a0_1, .slice A0_2 l0_2.length c0_2]) (t:=26) ?hr ?_;(case hd=>rfl);(case hg=>rfl);(case hr=>first|(go_simp;done)|(go_simp;rfl));intro gb244 hg w5 hbox hb;have n0_:=zm (zJ (by repeat (first|(with_reducible first|exact HB.out|apply ze|apply zd|apply zf)|exact HB.out)) hb);have n1_:=zm (hbox);have n2_:=zm ((by rw [hg];exact (zE (by repeat (first|(with_reducible first|exact HB.out|apply ze|apply zd|apply zf)|exact HB.out))) : w.heap.size≤gb244));have n3_:=zm ((by rw [hg];exact (zE (by repeat (first|(with_reducible first|exact HB.out|apply ze|apply zd|apply zf)|exact HB.out))) : w.heap.size≤gb244));clear HB;have HB:=n0_;have BK244:=n1_;have GW244:=n2_;have GE244:=n3_;clear n0_ n1_ n2_ n3_;clear hb hbox hg)|((with_reducible refine gate_dst (N:=3) rfl ?_);(try (refine gate_guard (by rfl) ?_;dsimp only));refine box_event ?hg (N:=3) ?hd (cs := #[.int .u64 a1_0, .slice A1_1 l1_1.length c1_1]) (t:=33) ?hr ?_;(case hd=>rfl);(case hg=>rfl);(case hr=>first|(go_simp;done)|(go_simp;rfl));intro gb245 hg w6 hbox hb;have n0_:=zm (zF (g:=gb244) (o:=.cells #[.int .u64 a0_0, .int .u32 a0_1, .slice A0_2 l0_2.length c0_2] 26 (0,0)) (by (with_reducible repeat (first|refine zh ?_ _|refine zj ?_|refine zi ?_ _));exact BK244.out) hb);have n1_:=zm (zJ (by repeat (first|(with_reducible first|exact HB.out|apply ze|apply zd|apply zf|refine zk ?_ GE244.out)|exact HB.out)) hb);have n2_:=zm (hbox);have n3_:=zm ((by rw [hg];exact (zE (by repeat (first|(with_reducible first|exact HB.out|apply ze|apply zd|apply zf|refine zk ?_ GE244.out)|exact HB.out))) : w.heap.size≤gb245));have n4_:=zm ((by rw [hg];exact (zE (by repeat (first|(with_reducible first|exact HB.out|apply ze|apply zd|apply zf|refine zk ?_ GE244.out)|exact HB.out))) : w.heap.size≤gb245));have n5_:=zm ((by rw [hg];exact zn (zD (g:=gb244) (o:=.cells #[.int .u64 a0_0, .int .u32 a0_1, .slice A0_2 l0_2.length c0_2] 26 (0,0)) (by (with_reducible repeat (first|refine zh ?_ _|refine zj ?_|refine zi ?_ _));exact BK244.out)) : gb244≠gb245));have n6_:=zm ((by rw [hg];exact zg (zD (g:=gb244) (o:=.cells #[.int .u64 a0_0, .int .u32 a0_1, .slice A0_2 l0_2.length c0_2] 26 (0,0)) (by (with_reducible repeat (first|refine zh ?_ _|refine zj ?_|refine zi ?_ _));exact BK244.out)) : gb245≠gb244));clear BK244;clear HB;have BK244:=n0_;have HB:=n1_;have BK245:=n2_;have GW245:=n3_;have GE245:=n4_;have NB244_245:=n5_;have NB245_244:=n6_;clear n0_ n1_ n2_ n3_ n4_ n5_ n6_;clear hb hbox hg;have hnb7:=NB244_245.out;have hnc7:=NB245_244.out;have hcz8_0 : w6.cell? ⟨gb244,0,none⟩=some (.int .u64 a0_0):=(zs BK244.out 0).trans rfl;have hcz8_1 : w6.cell? ⟨gb244,1,none⟩=some (.int .u32 a0_1):=(zs BK244.out 1).trans rfl;have hcz8_2 : w6.cell? ⟨gb244,2,none⟩=some (.slice A0_2 l0_2.length c0_2):=(zs BK244.out 2).trans rfl;have hfz8_0:=zx BK244.out 0;have hfz8_1:=zx BK244.out 1;have hfz8_2:=zx BK244.out 2)|(go_at_call 20;(with_reducible refine (psalterylaw05_AsEnc.calls k a0_0 a0_1 _ _ l0_2 t246 t247 _ ?side1 ?side2 A3.out).mono ?_);(case side1=>repeat (first|exact (Kd.C_below HR0_2.out HB.out)|(with_reducible refine Kd.C_alloc ?_ _)|(with_reducible refine Kd.C_drewN ?_ _)|(with_reducible refine Kd.C_drew ?_)));(case side2=>exact HC0_2.out);rintro e w9 ⟨v248,rfl,ho0,hb⟩;have n0_:=zm (Kd.R_lower ho0 (zE (by repeat (first|(with_reducible first|exact HB.out|apply ze|apply zd|apply zf|refine zk ?_ GE244.out|refine zk ?_ GE245.out)|exact HB.out))));have n1_:=zm (zF (g:=gb244) (o:=.cells #[.int .u64 a0_0, .int .u32 a0_1, .slice A0_2 l0_2.length c0_2] 26 (0,0)) (by (with_reducible repeat (first|refine zh ?_ _|refine zj ?_|refine zi ?_ _));exact BK244.out) hb);have n2_:=zm (zF (g:=gb245) (o:=.cells #[.int .u64 a1_0, .slice A1_1 l1_1.length c1_1] 33 (0,0)) (by (with_reducible repeat (first|refine zh ?_ _|refine zj ?_|refine zi ?_ _));exact BK245.out) hb);have n3_:=zm (zJ (by repeat (first|(with_reducible first|exact HB.out|apply ze|apply zd|apply zf|refine zk ?_ GE244.out|refine zk ?_ GE245.out)|exact HB.out)) hb);clear BK244;clear BK245;clear HB;have HO249:=n0_;have BK244:=n1_;have BK245:=n2_;have HB:=n3_;clear n0_ n1_ n2_ n3_;(try clear hb);(try clear hb2);(try clear hk);(try clear hi);(try clear ho0))|((with_reducible refine gate_dst (N:=5) rfl ?_);(try (refine gate_guard (by rfl) ?_;dsimp only));refine box_event ?hg (N:=5) ?hd (cs := #[.int .u64 0, .slice none 0 0]) (t:=33) ?hr ?_;(case hd=>rfl);(case hg=>rfl);(case hr=>first|(go_simp;done)|(go_simp;rfl));intro gb250 hg w10 hbox hb;have n0_:=zm (Kd.R_below (by (with_reducible repeat (first|apply zo|apply zp|apply zq));exact HO249.out) hb);have n1_:=zm (zF (g:=gb244) (o:=.cells #[.int .u64 a0_0, .int .u32 a0_1, .slice A0_2 l0_2.length c0_2] 26 (0,0)) (by (with_reducible repeat (first|refine zh ?_ _|refine zj ?_|refine zi ?_ _));exact BK244.out) hb);have n2_:=zm (zF (g:=gb245) (o:=.cells #[.int .u64 a1_0, .slice A1_1 l1_1.length c1_1] 33 (0,0)) (by (with_reducible repeat (first|refine zh ?_ _|refine zj ?_|refine zi ?_ _));exact BK245.out) hb);have n3_:=zm (zJ (by repeat (first|(with_reducible first|exact HB.out|apply ze|apply zd|apply zf|refine zk ?_ GE244.out|refine zk ?_ GE245.out)|exact HB.out)) hb);have n4_:=zm (hbox);have n5_:=zm ((by rw [hg];exact (zE (by repeat (first|(with_reducible first|exact HB.out|apply ze|apply zd|apply zf|refine zk ?_ GE244.out|refine zk ?_ GE245.out)|exact HB.out))) : w.heap.size≤gb250));have n6_:=zm ((by rw [hg];exact (zE (by repeat (first|(with_reducible first|exact HB.out|apply ze|apply zd|apply zf|refine zk ?_ GE244.out|refine zk ?_ GE245.out)|exact HB.out))) : w.heap.size≤gb250));have n7_:=zm ((by rw [hg];exact zn (zD (g:=gb244) (o:=.cells #[.int .u64 a0_0, .int .u32 a0_1, .slice A0_2 l0_2.length c0_2] 26 (0,0)) (by (with_reducible repeat (first|refine zh ?_ _|refine zj ?_|refine zi ?_ _));exact BK244.out)) : gb244≠gb250));have n8_:=zm ((by rw [hg];exact zg (zD (g:=gb244) (o:=.cells #[.int .u64 a0_0, .int .u32 a0_1, .slice A0_2 l0_2.length c0_2] 26 (0,0)) (by (with_reducible repeat (first|refine zh ?_ _|refine zj ?_|refine zi ?_ _));exact BK244.out)) : gb250≠gb244));have n9_:=zm ((by rw [hg];exact zn (zD (g:=gb245) (o:=.cells #[.int .u64 a1_0, .slice A1_1 l1_1.length c1_1] 33 (0,0)) (by (with_reducible repeat (first|refine zh ?_ _|refine zj ?_|refine zi ?_ _));exact BK245.out)) : gb245≠gb250));have n10_:=zm ((by rw [hg];exact zg (zD (g:=gb245) (o:=.cells #[.int .u64 a1_0, .slice A1_1 l1_1.length c1_1] 33 (0,0)) (by (with_reducible repeat (first|refine zh ?_ _|refine zj ?_|refine zi ?_ _));exact BK245.out)) : gb250≠gb245));clear HO249;clear BK244;clear BK245;clear HB;have HO249:=n0_;have BK244:=n1_;have BK245:=n2_;have HB:=n3_;have BK250:=n4_;have GW250:=n5_;have GE250:=n6_;have NB244_250:=n7_;have NB250_244:=n8_;have NB245_250:=n9_;have NB250_245:=n10_;clear n0_ n1_ n2_ n3_ n4_ n5_ n6_ n7_ n8_ n9_ n10_;clear hb hbox hg;have hnb11:=NB250_244.out;have hnc11:=NB244_250.out;have hnb12:=NB250_245.out;have hnc12:=NB245_250.out;have hcz13_0 : w10.cell? ⟨gb250,0,none⟩=some (.int .u64 0):=(zs BK250.out 0).trans rfl;have hcz13_1 : w10.cell? ⟨gb250,1,none⟩=some (.slice none 0 0):=(zs BK250.out 1).trans rfl;have hfz13_0:=zx BK250.out 0;have hfz13_1:=zx BK250.out 1;obtain ⟨Ao14,co14,eo14⟩:=Kd.R_slice HO249.out;subst eo14)))
 (try simp only [Act.put,List.setIfInBounds_toArray,List.set_cons_zero,List.set_cons_succ])
 go_cut [27] (fun v27 wc => ∃ (kq : Nat) (x27_3 : Bool),v27=.bool x27_3∧Aside0 (psalterylaw05_SameEnc.j0 kq x27_3 a1_0 l1_1 t246 t247=some r)∧Aside0 (kq≤k)∧Aside0 (Kd.R (Kd.int .i64) 3 wc w.heap.size (fun _=>True) (.slice Ao14 t247.length co14) t247)∧Aside0 (wc.heap[gb244]? = some (.cells #[.int .u64 a0_0, .int .u32 a0_1,(.slice A0_2 l0_2.length c0_2)] 26 (0,0)))∧Aside0 (wc.heap[gb245]? = some (.cells #[.int .u64 a1_0,(.slice A1_1 l1_1.length c1_1)] 33 (0,0)))∧Aside0 (wc.heap[gb250]? = some (.cells #[.int .u64 t246,(.slice Ao14 t247.length co14)] 33 (0,0)))∧Aside0 (Below w.heap.size w wc))
 case first =>
  have H:=HC4.out;clear HC4
  replace H:=Option.bind_eq_some_iff.mp H
  obtain ⟨t251,A150,H⟩:=H
  replace H : (if t251=true then (if t246=a1_0 then (psalterylaw05_SameEnc.j0 k ((t247.length : Int) != (l1_1.length : Int)) a1_0 l1_1 t246 t247) else (psalterylaw05_SameEnc.j0 k true a1_0 l1_1 t246 t247)) else (psalterylaw05_SameEnc.j0 k true a1_0 l1_1 t246 t247))=some r:=H
  have A15:=zm A150;clear A150
  by_cases c16 : t251=true
  ·
   subst c16
   have H1 : (if t246=a1_0 then (psalterylaw05_SameEnc.j0 k ((t247.length : Int) != (l1_1.length : Int)) a1_0 l1_1 t246 t247) else (psalterylaw05_SameEnc.j0 k true a1_0 l1_1 t246 t247))=some r:=by rw [if_pos rfl] at H;exact H
   clear H;have H:=H1;clear H1
   by_cases c17 : t246=a1_0
   ·
    rw [if_pos c17] at H
    have c17b0 : (t246 == a1_0)=true:=beq_iff_eq.mpr c17
    have c17b1 : (t246 != a1_0)=false:=bne_eq_false_iff_eq.mpr c17
    clear c17
    (first|rw [c17b0]|(simp only [i64_w,i32_w];rw [c17b0])|skip)
    have H' := zm H
    clear H;have hnb18:=NB244_245.out;have hnc18:=NB245_244.out;have hnb19:=NB244_250.out;have hnc19:=NB250_244.out
    have hcz20_0 : w10.cell? ⟨gb244,0,none⟩=some (.int .u64 a0_0):=(zs BK244.out 0).trans rfl
    have hcz20_1 : w10.cell? ⟨gb244,1,none⟩=some (.int .u32 a0_1):=(zs BK244.out 1).trans rfl
    have hcz20_2 : w10.cell? ⟨gb244,2,none⟩=some (.slice A0_2 l0_2.length c0_2):=(zs BK244.out 2).trans rfl
    have hfz20_0:=zx BK244.out 0
    have hfz20_1:=zx BK244.out 1
    have hfz20_2:=zx BK244.out 2
    go_wp2_with (first|(go_at_call 22;(with_reducible refine (psalterylaw05_right.calls a0_0 a0_1 _ _ l0_2 true _ ?side1 ?side2 A15.out).mono ?_);(case side1=>exact Kd.C_below HR0_2.out (by repeat (first|(with_reducible first|exact HB.out|apply ze|apply zd|apply zf|refine zk ?_ GE244.out|refine zk ?_ GE245.out|refine zk ?_ GE250.out)|exact HB.out)));(case side2=>exact HC0_2.out);rintro e w21 ⟨rfl,hb⟩;have n0_:=zm (Kd.R_below (by (with_reducible repeat (first|apply zo|apply zp|apply zq));exact (zG (zH (p:=⟨gb250,1,none⟩) (zH (p:=⟨gb250,0,none⟩) (Kd.R_types HO249.out BK250.out (by decide)) (fun _ hk=>hk.2) (.int .u64 t246)) (fun _ hk=>hk.2) (.slice Ao14 t247.length co14)) (fun _ h_=>h_.1))) hb);have n1_:=zm (zF (g:=gb244) (o:=.cells #[.int .u64 a0_0, .int .u32 a0_1, .slice A0_2 l0_2.length c0_2] 26 (0,0)) (by (with_reducible repeat (first|refine zh ?_ _|refine zj ?_|refine zi ?_ _|refine zv ?_ NB244_250.out _));exact BK244.out) hb);have n2_:=zm (zF (g:=gb245) (o:=.cells #[.int .u64 a1_0, .slice A1_1 l1_1.length c1_1] 33 (0,0)) (by (with_reducible repeat (first|refine zh ?_ _|refine zj ?_|refine zi ?_ _|refine zv ?_ NB245_250.out _));exact BK245.out) hb);have n3_:=zm (zF (g:=gb250) (o:=.cells #[.int .u64 t246, .slice Ao14 t247.length co14] 33 (0,0)) (by (with_reducible repeat (first|refine zh ?_ _|refine zj ?_|refine zi ?_ _));refine zw (cs := #[.int .u64 t246, .slice none 0 0]) ?_ 1 _ rfl;(with_reducible repeat (first|refine zh ?_ _|refine zj ?_|refine zi ?_ _));refine zw (cs := #[.int .u64 0, .slice none 0 0]) ?_ 0 _ rfl;(with_reducible repeat (first|refine zh ?_ _|refine zj ?_|refine zi ?_ _));exact BK250.out) hb);have n4_:=zm (zJ (by repeat (first|(with_reducible first|exact HB.out|apply ze|apply zd|apply zf|refine zk ?_ GE244.out|refine zk ?_ GE245.out|refine zk ?_ GE250.out)|exact HB.out)) hb);clear HO249;clear BK244;clear BK245;clear BK250;clear HB;have HO249:=n0_;have BK244:=n1_;have BK245:=n2_;have BK250:=n3_;have HB:=n4_;clear n0_ n1_ n2_ n3_ n4_;(try clear hb);(try clear hb2);(try clear hk);(try clear hi);have hnb22:=NB250_245.out;have hnc22:=NB245_250.out;have hcz23_0 : w21.cell? ⟨gb250,0,none⟩=some (.int .u64 t246):=(zs BK250.out 0).trans rfl;have hcz23_1 : w21.cell? ⟨gb250,1,none⟩=some (.slice Ao14 t247.length co14):=(zs BK250.out 1).trans rfl;have hfz23_0:=zx BK250.out 0;have hfz23_1:=zx BK250.out 1;have hcz24_0 : w21.cell? ⟨gb245,0,none⟩=some (.int .u64 a1_0):=(zs BK245.out 0).trans rfl;have hcz24_1 : w21.cell? ⟨gb245,1,none⟩=some (.slice A1_1 l1_1.length c1_1):=(zs BK245.out 1).trans rfl;have hfz24_0:=zx BK245.out 0;have hfz24_1:=zx BK245.out 1))
    repeat (go_quiet (first|(go_at_call 22;(with_reducible refine (psalterylaw05_right.calls a0_0 a0_1 _ _ l0_2 true _ ?side1 ?side2 A15.out).mono ?_);(case side1=>exact Kd.C_below HR0_2.out (by repeat (first|(with_reducible first|exact HB.out|apply ze|apply zd|apply zf|refine zk ?_ GE244.out|refine zk ?_ GE245.out|refine zk ?_ GE250.out)|exact HB.out)));(case side2=>exact HC0_2.out);rintro e w21 ⟨rfl,hb⟩;have n0_:=zm (Kd.R_below (by (with_reducible repeat (first|apply zo|apply zp|apply zq));exact (zG (zH (p:=⟨gb250,1,none⟩) (zH (p:=⟨gb250,0,none⟩) (Kd.R_types HO249.out BK250.out (by decide)) (fun _ hk=>hk.2) (.int .u64 t246)) (fun _ hk=>hk.2) (.slice Ao14 t247.length co14)) (fun _ h_=>h_.1))) hb);have n1_:=zm (zF (g:=gb244) (o:=.cells #[.int .u64 a0_0, .int .u32 a0_1, .slice A0_2 l0_2.length c0_2] 26 (0,0)) (by (with_reducible repeat (first|refine zh ?_ _|refine zj ?_|refine zi ?_ _|refine zv ?_ NB244_250.out _));exact BK244.out) hb);have n2_:=zm (zF (g:=gb245) (o:=.cells #[.int .u64 a1_0, .slice A1_1 l1_1.length c1_1] 33 (0,0)) (by (with_reducible repeat (first|refine zh ?_ _|refine zj ?_|refine zi ?_ _|refine zv ?_ NB245_250.out _));exact BK245.out) hb);have n3_:=zm (zF (g:=gb250) (o:=.cells #[.int .u64 t246, .slice Ao14 t247.length co14] 33 (0,0)) (by (with_reducible repeat (first|refine zh ?_ _|refine zj ?_|refine zi ?_ _));refine zw (cs := #[.int .u64 t246, .slice none 0 0]) ?_ 1 _ rfl;(with_reducible repeat (first|refine zh ?_ _|refine zj ?_|refine zi ?_ _));refine zw (cs := #[.int .u64 0, .slice none 0 0]) ?_ 0 _ rfl;(with_reducible repeat (first|refine zh ?_ _|refine zj ?_|refine zi ?_ _));exact BK250.out) hb);have n4_:=zm (zJ (by repeat (first|(with_reducible first|exact HB.out|apply ze|apply zd|apply zf|refine zk ?_ GE244.out|refine zk ?_ GE245.out|refine zk ?_ GE250.out)|exact HB.out)) hb);clear HO249;clear BK244;clear BK245;clear BK250;clear HB;have HO249:=n0_;have BK244:=n1_;have BK245:=n2_;have BK250:=n3_;have HB:=n4_;clear n0_ n1_ n2_ n3_ n4_;(try clear hb);(try clear hb2);(try clear hk);(try clear hi);have hnb22:=NB250_245.out;have hnc22:=NB245_250.out;have hcz23_0 : w21.cell? ⟨gb250,0,none⟩=some (.int .u64 t246):=(zs BK250.out 0).trans rfl;have hcz23_1 : w21.cell? ⟨gb250,1,none⟩=some (.slice Ao14 t247.length co14):=(zs BK250.out 1).trans rfl;have hfz23_0:=zx BK250.out 0;have hfz23_1:=zx BK250.out 1;have hcz24_0 : w21.cell? ⟨gb245,0,none⟩=some (.int .u64 a1_0):=(zs BK245.out 0).trans rfl;have hcz24_1 : w21.cell? ⟨gb245,1,none⟩=some (.slice A1_1 l1_1.length c1_1):=(zs BK245.out 1).trans rfl;have hfz24_0:=zx BK245.out 0;have hfz24_1:=zx BK245.out 1));try go_wp2_with (first|(go_at_call 22;(with_reducible refine (psalterylaw05_right.calls a0_0 a0_1 _ _ l0_2 true _ ?side1 ?side2 A15.out).mono ?_);(case side1=>exact Kd.C_below HR0_2.out (by repeat (first|(with_reducible first|exact HB.out|apply ze|apply zd|apply zf|refine zk ?_ GE244.out|refine zk ?_ GE245.out|refine zk ?_ GE250.out)|exact HB.out)));(case side2=>exact HC0_2.out);rintro e w21 ⟨rfl,hb⟩;have n0_:=zm (Kd.R_below (by (with_reducible repeat (first|apply zo|apply zp|apply zq));exact (zG (zH (p:=⟨gb250,1,none⟩) (zH (p:=⟨gb250,0,none⟩) (Kd.R_types HO249.out BK250.out (by decide)) (fun _ hk=>hk.2) (.int .u64 t246)) (fun _ hk=>hk.2) (.slice Ao14 t247.length co14)) (fun _ h_=>h_.1))) hb);have n1_:=zm (zF (g:=gb244) (o:=.cells #[.int .u64 a0_0, .int .u32 a0_1, .slice A0_2 l0_2.length c0_2] 26 (0,0)) (by (with_reducible repeat (first|refine zh ?_ _|refine zj ?_|refine zi ?_ _|refine zv ?_ NB244_250.out _));exact BK244.out) hb);have n2_:=zm (zF (g:=gb245) (o:=.cells #[.int .u64 a1_0, .slice A1_1 l1_1.length c1_1] 33 (0,0)) (by (with_reducible repeat (first|refine zh ?_ _|refine zj ?_|refine zi ?_ _|refine zv ?_ NB245_250.out _));exact BK245.out) hb);have n3_:=zm (zF (g:=gb250) (o:=.cells #[.int .u64 t246, .slice Ao14 t247.length co14] 33 (0,0)) (by (with_reducible repeat (first|refine zh ?_ _|refine zj ?_|refine zi ?_ _));refine zw (cs := #[.int .u64 t246, .slice none 0 0]) ?_ 1 _ rfl;(with_reducible repeat (first|refine zh ?_ _|refine zj ?_|refine zi ?_ _));refine zw (cs := #[.int .u64 0, .slice none 0 0]) ?_ 0 _ rfl;(with_reducible repeat (first|refine zh ?_ _|refine zj ?_|refine zi ?_ _));exact BK250.out) hb);have n4_:=zm (zJ (by repeat (first|(with_reducible first|exact HB.out|apply ze|apply zd|apply zf|refine zk ?_ GE244.out|refine zk ?_ GE245.out|refine zk ?_ GE250.out)|exact HB.out)) hb);clear HO249;clear BK244;clear BK245;clear BK250;clear HB;have HO249:=n0_;have BK244:=n1_;have BK245:=n2_;have BK250:=n3_;have HB:=n4_;clear n0_ n1_ n2_ n3_ n4_;(try clear hb);(try clear hb2);(try clear hk);(try clear hi);have hnb22:=NB250_245.out;have hnc22:=NB245_250.out;have hcz23_0 : w21.cell? ⟨gb250,0,none⟩=some (.int .u64 t246):=(zs BK250.out 0).trans rfl;have hcz23_1 : w21.cell? ⟨gb250,1,none⟩=some (.slice Ao14 t247.length co14):=(zs BK250.out 1).trans rfl;have hfz23_0:=zx BK250.out 0;have hfz23_1:=zx BK250.out 1;have hcz24_0 : w21.cell? ⟨gb245,0,none⟩=some (.int .u64 a1_0):=(zs BK245.out 0).trans rfl;have hcz24_1 : w21.cell? ⟨gb245,1,none⟩=some (.slice A1_1 l1_1.length c1_1):=(zs BK245.out 1).trans rfl;have hfz24_0:=zx BK245.out 0;have hfz24_1:=zx BK245.out 1)))
    go_meet
    case rel=>exact ⟨_,(((t247.length : Int) != (l1_1.length : Int))),(by first|rfl|(simp;done)|(simp [*];done)),H',⟨by first|omega|exact Nat.le_refl _⟩,⟨by (with_reducible repeat (first|apply zo|apply zp|apply zq));exact HO249.out⟩,⟨by (with_reducible repeat (first|refine zh ?_ _|refine zj ?_|refine zi ?_ _));exact BK244.out⟩,⟨by (with_reducible repeat (first|refine zh ?_ _|refine zj ?_|refine zi ?_ _));exact BK245.out⟩,⟨by (with_reducible repeat (first|refine zh ?_ _|refine zj ?_|refine zi ?_ _));exact BK250.out⟩,⟨by repeat (first|(with_reducible first|exact HB.out|apply ze|apply zd|apply zf|refine zk ?_ GE244.out|refine zk ?_ GE245.out|refine zk ?_ GE250.out)|exact HB.out)⟩⟩
   ·
    rw [if_neg c17] at H
    have c17b0 : (t246 == a1_0)=false:=beq_eq_false_iff_ne.mpr c17
    have c17b1 : (t246 != a1_0)=true:=bne_iff_ne.mpr c17
    (first|rw [c17b0]|(simp only [i64_w,i32_w];rw [c17b0])|skip)
    have H' := zm H
    clear H;have hnb25:=NB244_245.out;have hnc25:=NB245_244.out;have hnb26:=NB244_250.out;have hnc26:=NB250_244.out
    have hcz27_0 : w10.cell? ⟨gb244,0,none⟩=some (.int .u64 a0_0):=(zs BK244.out 0).trans rfl
    have hcz27_1 : w10.cell? ⟨gb244,1,none⟩=some (.int .u32 a0_1):=(zs BK244.out 1).trans rfl
    have hcz27_2 : w10.cell? ⟨gb244,2,none⟩=some (.slice A0_2 l0_2.length c0_2):=(zs BK244.out 2).trans rfl
    have hfz27_0:=zx BK244.out 0
    have hfz27_1:=zx BK244.out 1
    have hfz27_2:=zx BK244.out 2
    go_wp2_with (first|(go_at_call 22;(with_reducible refine (psalterylaw05_right.calls a0_0 a0_1 _ _ l0_2 true _ ?side1 ?side2 A15.out).mono ?_);(case side1=>exact Kd.C_below HR0_2.out (by repeat (first|(with_reducible first|exact HB.out|apply ze|apply zd|apply zf|refine zk ?_ GE244.out|refine zk ?_ GE245.out|refine zk ?_ GE250.out)|exact HB.out)));(case side2=>exact HC0_2.out);rintro e w28 ⟨rfl,hb⟩;have n0_:=zm (Kd.R_below (by (with_reducible repeat (first|apply zo|apply zp|apply zq));exact (zG (zH (p:=⟨gb250,1,none⟩) (zH (p:=⟨gb250,0,none⟩) (Kd.R_types HO249.out BK250.out (by decide)) (fun _ hk=>hk.2) (.int .u64 t246)) (fun _ hk=>hk.2) (.slice Ao14 t247.length co14)) (fun _ h_=>h_.1))) hb);have n1_:=zm (zF (g:=gb244) (o:=.cells #[.int .u64 a0_0, .int .u32 a0_1, .slice A0_2 l0_2.length c0_2] 26 (0,0)) (by (with_reducible repeat (first|refine zh ?_ _|refine zj ?_|refine zi ?_ _|refine zv ?_ NB244_250.out _));exact BK244.out) hb);have n2_:=zm (zF (g:=gb245) (o:=.cells #[.int .u64 a1_0, .slice A1_1 l1_1.length c1_1] 33 (0,0)) (by (with_reducible repeat (first|refine zh ?_ _|refine zj ?_|refine zi ?_ _|refine zv ?_ NB245_250.out _));exact BK245.out) hb);have n3_:=zm (zF (g:=gb250) (o:=.cells #[.int .u64 t246, .slice Ao14 t247.length co14] 33 (0,0)) (by (with_reducible repeat (first|refine zh ?_ _|refine zj ?_|refine zi ?_ _));refine zw (cs := #[.int .u64 t246, .slice none 0 0]) ?_ 1 _ rfl;(with_reducible repeat (first|refine zh ?_ _|refine zj ?_|refine zi ?_ _));refine zw (cs := #[.int .u64 0, .slice none 0 0]) ?_ 0 _ rfl;(with_reducible repeat (first|refine zh ?_ _|refine zj ?_|refine zi ?_ _));exact BK250.out) hb);have n4_:=zm (zJ (by repeat (first|(with_reducible first|exact HB.out|apply ze|apply zd|apply zf|refine zk ?_ GE244.out|refine zk ?_ GE245.out|refine zk ?_ GE250.out)|exact HB.out)) hb);clear HO249;clear BK244;clear BK245;clear BK250;clear HB;have HO249:=n0_;have BK244:=n1_;have BK245:=n2_;have BK250:=n3_;have HB:=n4_;clear n0_ n1_ n2_ n3_ n4_;(try clear hb);(try clear hb2);(try clear hk);(try clear hi);have hnb29:=NB250_245.out;have hnc29:=NB245_250.out;have hcz30_0 : w28.cell? ⟨gb250,0,none⟩=some (.int .u64 t246):=(zs BK250.out 0).trans rfl;have hcz30_1 : w28.cell? ⟨gb250,1,none⟩=some (.slice Ao14 t247.length co14):=(zs BK250.out 1).trans rfl;have hfz30_0:=zx BK250.out 0;have hfz30_1:=zx BK250.out 1;have hcz31_0 : w28.cell? ⟨gb245,0,none⟩=some (.int .u64 a1_0):=(zs BK245.out 0).trans rfl;have hcz31_1 : w28.cell? ⟨gb245,1,none⟩=some (.slice A1_1 l1_1.length c1_1):=(zs BK245.out 1).trans rfl;have hfz31_0:=zx BK245.out 0;have hfz31_1:=zx BK245.out 1))
    repeat (go_quiet (first|(go_at_call 22;(with_reducible refine (psalterylaw05_right.calls a0_0 a0_1 _ _ l0_2 true _ ?side1 ?side2 A15.out).mono ?_);(case side1=>exact Kd.C_below HR0_2.out (by repeat (first|(with_reducible first|exact HB.out|apply ze|apply zd|apply zf|refine zk ?_ GE244.out|refine zk ?_ GE245.out|refine zk ?_ GE250.out)|exact HB.out)));(case side2=>exact HC0_2.out);rintro e w28 ⟨rfl,hb⟩;have n0_:=zm (Kd.R_below (by (with_reducible repeat (first|apply zo|apply zp|apply zq));exact (zG (zH (p:=⟨gb250,1,none⟩) (zH (p:=⟨gb250,0,none⟩) (Kd.R_types HO249.out BK250.out (by decide)) (fun _ hk=>hk.2) (.int .u64 t246)) (fun _ hk=>hk.2) (.slice Ao14 t247.length co14)) (fun _ h_=>h_.1))) hb);have n1_:=zm (zF (g:=gb244) (o:=.cells #[.int .u64 a0_0, .int .u32 a0_1, .slice A0_2 l0_2.length c0_2] 26 (0,0)) (by (with_reducible repeat (first|refine zh ?_ _|refine zj ?_|refine zi ?_ _|refine zv ?_ NB244_250.out _));exact BK244.out) hb);have n2_:=zm (zF (g:=gb245) (o:=.cells #[.int .u64 a1_0, .slice A1_1 l1_1.length c1_1] 33 (0,0)) (by (with_reducible repeat (first|refine zh ?_ _|refine zj ?_|refine zi ?_ _|refine zv ?_ NB245_250.out _));exact BK245.out) hb);have n3_:=zm (zF (g:=gb250) (o:=.cells #[.int .u64 t246, .slice Ao14 t247.length co14] 33 (0,0)) (by (with_reducible repeat (first|refine zh ?_ _|refine zj ?_|refine zi ?_ _));refine zw (cs := #[.int .u64 t246, .slice none 0 0]) ?_ 1 _ rfl;(with_reducible repeat (first|refine zh ?_ _|refine zj ?_|refine zi ?_ _));refine zw (cs := #[.int .u64 0, .slice none 0 0]) ?_ 0 _ rfl;(with_reducible repeat (first|refine zh ?_ _|refine zj ?_|refine zi ?_ _));exact BK250.out) hb);have n4_:=zm (zJ (by repeat (first|(with_reducible first|exact HB.out|apply ze|apply zd|apply zf|refine zk ?_ GE244.out|refine zk ?_ GE245.out|refine zk ?_ GE250.out)|exact HB.out)) hb);clear HO249;clear BK244;clear BK245;clear BK250;clear HB;have HO249:=n0_;have BK244:=n1_;have BK245:=n2_;have BK250:=n3_;have HB:=n4_;clear n0_ n1_ n2_ n3_ n4_;(try clear hb);(try clear hb2);(try clear hk);(try clear hi);have hnb29:=NB250_245.out;have hnc29:=NB245_250.out;have hcz30_0 : w28.cell? ⟨gb250,0,none⟩=some (.int .u64 t246):=(zs BK250.out 0).trans rfl;have hcz30_1 : w28.cell? ⟨gb250,1,none⟩=some (.slice Ao14 t247.length co14):=(zs BK250.out 1).trans rfl;have hfz30_0:=zx BK250.out 0;have hfz30_1:=zx BK250.out 1;have hcz31_0 : w28.cell? ⟨gb245,0,none⟩=some (.int .u64 a1_0):=(zs BK245.out 0).trans rfl;have hcz31_1 : w28.cell? ⟨gb245,1,none⟩=some (.slice A1_1 l1_1.length c1_1):=(zs BK245.out 1).trans rfl;have hfz31_0:=zx BK245.out 0;have hfz31_1:=zx BK245.out 1));try go_wp2_with (first|(go_at_call 22;(with_reducible refine (psalterylaw05_right.calls a0_0 a0_1 _ _ l0_2 true _ ?side1 ?side2 A15.out).mono ?_);(case side1=>exact Kd.C_below HR0_2.out (by repeat (first|(with_reducible first|exact HB.out|apply ze|apply zd|apply zf|refine zk ?_ GE244.out|refine zk ?_ GE245.out|refine zk ?_ GE250.out)|exact HB.out)));(case side2=>exact HC0_2.out);rintro e w28 ⟨rfl,hb⟩;have n0_:=zm (Kd.R_below (by (with_reducible repeat (first|apply zo|apply zp|apply zq));exact (zG (zH (p:=⟨gb250,1,none⟩) (zH (p:=⟨gb250,0,none⟩) (Kd.R_types HO249.out BK250.out (by decide)) (fun _ hk=>hk.2) (.int .u64 t246)) (fun _ hk=>hk.2) (.slice Ao14 t247.length co14)) (fun _ h_=>h_.1))) hb);have n1_:=zm (zF (g:=gb244) (o:=.cells #[.int .u64 a0_0, .int .u32 a0_1, .slice A0_2 l0_2.length c0_2] 26 (0,0)) (by (with_reducible repeat (first|refine zh ?_ _|refine zj ?_|refine zi ?_ _|refine zv ?_ NB244_250.out _));exact BK244.out) hb);have n2_:=zm (zF (g:=gb245) (o:=.cells #[.int .u64 a1_0, .slice A1_1 l1_1.length c1_1] 33 (0,0)) (by (with_reducible repeat (first|refine zh ?_ _|refine zj ?_|refine zi ?_ _|refine zv ?_ NB245_250.out _));exact BK245.out) hb);have n3_:=zm (zF (g:=gb250) (o:=.cells #[.int .u64 t246, .slice Ao14 t247.length co14] 33 (0,0)) (by (with_reducible repeat (first|refine zh ?_ _|refine zj ?_|refine zi ?_ _));refine zw (cs := #[.int .u64 t246, .slice none 0 0]) ?_ 1 _ rfl;(with_reducible repeat (first|refine zh ?_ _|refine zj ?_|refine zi ?_ _));refine zw (cs := #[.int .u64 0, .slice none 0 0]) ?_ 0 _ rfl;(with_reducible repeat (first|refine zh ?_ _|refine zj ?_|refine zi ?_ _));exact BK250.out) hb);have n4_:=zm (zJ (by repeat (first|(with_reducible first|exact HB.out|apply ze|apply zd|apply zf|refine zk ?_ GE244.out|refine zk ?_ GE245.out|refine zk ?_ GE250.out)|exact HB.out)) hb);clear HO249;clear BK244;clear BK245;clear BK250;clear HB;have HO249:=n0_;have BK244:=n1_;have BK245:=n2_;have BK250:=n3_;have HB:=n4_;clear n0_ n1_ n2_ n3_ n4_;(try clear hb);(try clear hb2);(try clear hk);(try clear hi);have hnb29:=NB250_245.out;have hnc29:=NB245_250.out;have hcz30_0 : w28.cell? ⟨gb250,0,none⟩=some (.int .u64 t246):=(zs BK250.out 0).trans rfl;have hcz30_1 : w28.cell? ⟨gb250,1,none⟩=some (.slice Ao14 t247.length co14):=(zs BK250.out 1).trans rfl;have hfz30_0:=zx BK250.out 0;have hfz30_1:=zx BK250.out 1;have hcz31_0 : w28.cell? ⟨gb245,0,none⟩=some (.int .u64 a1_0):=(zs BK245.out 0).trans rfl;have hcz31_1 : w28.cell? ⟨gb245,1,none⟩=some (.slice A1_1 l1_1.length c1_1):=(zs BK245.out 1).trans rfl;have hfz31_0:=zx BK245.out 0;have hfz31_1:=zx BK245.out 1)))
    go_meet
    case rel=>exact ⟨_,(true),(by first|rfl|(simp;done)|(simp [*];done)),H',⟨by first|omega|exact Nat.le_refl _⟩,⟨by (with_reducible repeat (first|apply zo|apply zp|apply zq));exact HO249.out⟩,⟨by (with_reducible repeat (first|refine zh ?_ _|refine zj ?_|refine zi ?_ _));exact BK244.out⟩,⟨by (with_reducible repeat (first|refine zh ?_ _|refine zj ?_|refine zi ?_ _));exact BK245.out⟩,⟨by (with_reducible repeat (first|refine zh ?_ _|refine zj ?_|refine zi ?_ _));exact BK250.out⟩,⟨by repeat (first|(with_reducible first|exact HB.out|apply ze|apply zd|apply zf|refine zk ?_ GE244.out|refine zk ?_ GE245.out|refine zk ?_ GE250.out)|exact HB.out)⟩⟩
  ·
   replace c16:=Bool.eq_false_iff.mpr c16
   subst c16
   have H1 : (psalterylaw05_SameEnc.j0 k true a1_0 l1_1 t246 t247)=some r:=by rw [if_neg (show ¬ (false=true) by decide)] at H;exact H
   clear H;have H:=H1;clear H1
   have H' := zm H
   clear H;have hnb32:=NB244_245.out;have hnc32:=NB245_244.out;have hnb33:=NB244_250.out;have hnc33:=NB250_244.out
   have hcz34_0 : w10.cell? ⟨gb244,0,none⟩=some (.int .u64 a0_0):=(zs BK244.out 0).trans rfl
   have hcz34_1 : w10.cell? ⟨gb244,1,none⟩=some (.int .u32 a0_1):=(zs BK244.out 1).trans rfl
   have hcz34_2 : w10.cell? ⟨gb244,2,none⟩=some (.slice A0_2 l0_2.length c0_2):=(zs BK244.out 2).trans rfl
   have hfz34_0:=zx BK244.out 0
   have hfz34_1:=zx BK244.out 1
   have hfz34_2:=zx BK244.out 2
   go_wp2_with (first|(go_at_call 22;(with_reducible refine (psalterylaw05_right.calls a0_0 a0_1 _ _ l0_2 false _ ?side1 ?side2 A15.out).mono ?_);(case side1=>exact Kd.C_below HR0_2.out (by repeat (first|(with_reducible first|exact HB.out|apply ze|apply zd|apply zf|refine zk ?_ GE244.out|refine zk ?_ GE245.out|refine zk ?_ GE250.out)|exact HB.out)));(case side2=>exact HC0_2.out);rintro e w35 ⟨rfl,hb⟩;have n0_:=zm (Kd.R_below (by (with_reducible repeat (first|apply zo|apply zp|apply zq));exact (zG (zH (p:=⟨gb250,1,none⟩) (zH (p:=⟨gb250,0,none⟩) (Kd.R_types HO249.out BK250.out (by decide)) (fun _ hk=>hk.2) (.int .u64 t246)) (fun _ hk=>hk.2) (.slice Ao14 t247.length co14)) (fun _ h_=>h_.1))) hb);have n1_:=zm (zF (g:=gb244) (o:=.cells #[.int .u64 a0_0, .int .u32 a0_1, .slice A0_2 l0_2.length c0_2] 26 (0,0)) (by (with_reducible repeat (first|refine zh ?_ _|refine zj ?_|refine zi ?_ _|refine zv ?_ NB244_250.out _));exact BK244.out) hb);have n2_:=zm (zF (g:=gb245) (o:=.cells #[.int .u64 a1_0, .slice A1_1 l1_1.length c1_1] 33 (0,0)) (by (with_reducible repeat (first|refine zh ?_ _|refine zj ?_|refine zi ?_ _|refine zv ?_ NB245_250.out _));exact BK245.out) hb);have n3_:=zm (zF (g:=gb250) (o:=.cells #[.int .u64 t246, .slice Ao14 t247.length co14] 33 (0,0)) (by (with_reducible repeat (first|refine zh ?_ _|refine zj ?_|refine zi ?_ _));refine zw (cs := #[.int .u64 t246, .slice none 0 0]) ?_ 1 _ rfl;(with_reducible repeat (first|refine zh ?_ _|refine zj ?_|refine zi ?_ _));refine zw (cs := #[.int .u64 0, .slice none 0 0]) ?_ 0 _ rfl;(with_reducible repeat (first|refine zh ?_ _|refine zj ?_|refine zi ?_ _));exact BK250.out) hb);have n4_:=zm (zJ (by repeat (first|(with_reducible first|exact HB.out|apply ze|apply zd|apply zf|refine zk ?_ GE244.out|refine zk ?_ GE245.out|refine zk ?_ GE250.out)|exact HB.out)) hb);clear HO249;clear BK244;clear BK245;clear BK250;clear HB;have HO249:=n0_;have BK244:=n1_;have BK245:=n2_;have BK250:=n3_;have HB:=n4_;clear n0_ n1_ n2_ n3_ n4_;(try clear hb);(try clear hb2);(try clear hk);(try clear hi)))
   repeat (go_quiet (first|(go_at_call 22;(with_reducible refine (psalterylaw05_right.calls a0_0 a0_1 _ _ l0_2 false _ ?side1 ?side2 A15.out).mono ?_);(case side1=>exact Kd.C_below HR0_2.out (by repeat (first|(with_reducible first|exact HB.out|apply ze|apply zd|apply zf|refine zk ?_ GE244.out|refine zk ?_ GE245.out|refine zk ?_ GE250.out)|exact HB.out)));(case side2=>exact HC0_2.out);rintro e w35 ⟨rfl,hb⟩;have n0_:=zm (Kd.R_below (by (with_reducible repeat (first|apply zo|apply zp|apply zq));exact (zG (zH (p:=⟨gb250,1,none⟩) (zH (p:=⟨gb250,0,none⟩) (Kd.R_types HO249.out BK250.out (by decide)) (fun _ hk=>hk.2) (.int .u64 t246)) (fun _ hk=>hk.2) (.slice Ao14 t247.length co14)) (fun _ h_=>h_.1))) hb);have n1_:=zm (zF (g:=gb244) (o:=.cells #[.int .u64 a0_0, .int .u32 a0_1, .slice A0_2 l0_2.length c0_2] 26 (0,0)) (by (with_reducible repeat (first|refine zh ?_ _|refine zj ?_|refine zi ?_ _|refine zv ?_ NB244_250.out _));exact BK244.out) hb);have n2_:=zm (zF (g:=gb245) (o:=.cells #[.int .u64 a1_0, .slice A1_1 l1_1.length c1_1] 33 (0,0)) (by (with_reducible repeat (first|refine zh ?_ _|refine zj ?_|refine zi ?_ _|refine zv ?_ NB245_250.out _));exact BK245.out) hb);have n3_:=zm (zF (g:=gb250) (o:=.cells #[.int .u64 t246, .slice Ao14 t247.length co14] 33 (0,0)) (by (with_reducible repeat (first|refine zh ?_ _|refine zj ?_|refine zi ?_ _));refine zw (cs := #[.int .u64 t246, .slice none 0 0]) ?_ 1 _ rfl;(with_reducible repeat (first|refine zh ?_ _|refine zj ?_|refine zi ?_ _));refine zw (cs := #[.int .u64 0, .slice none 0 0]) ?_ 0 _ rfl;(with_reducible repeat (first|refine zh ?_ _|refine zj ?_|refine zi ?_ _));exact BK250.out) hb);have n4_:=zm (zJ (by repeat (first|(with_reducible first|exact HB.out|apply ze|apply zd|apply zf|refine zk ?_ GE244.out|refine zk ?_ GE245.out|refine zk ?_ GE250.out)|exact HB.out)) hb);clear HO249;clear BK244;clear BK245;clear BK250;clear HB;have HO249:=n0_;have BK244:=n1_;have BK245:=n2_;have BK250:=n3_;have HB:=n4_;clear n0_ n1_ n2_ n3_ n4_;(try clear hb);(try clear hb2);(try clear hk);(try clear hi)));try go_wp2_with (first|(go_at_call 22;(with_reducible refine (psalterylaw05_right.calls a0_0 a0_1 _ _ l0_2 false _ ?side1 ?side2 A15.out).mono ?_);(case side1=>exact Kd.C_below HR0_2.out (by repeat (first|(with_reducible first|exact HB.out|apply ze|apply zd|apply zf|refine zk ?_ GE244.out|refine zk ?_ GE245.out|refine zk ?_ GE250.out)|exact HB.out)));(case side2=>exact HC0_2.out);rintro e w35 ⟨rfl,hb⟩;have n0_:=zm (Kd.R_below (by (with_reducible repeat (first|apply zo|apply zp|apply zq));exact (zG (zH (p:=⟨gb250,1,none⟩) (zH (p:=⟨gb250,0,none⟩) (Kd.R_types HO249.out BK250.out (by decide)) (fun _ hk=>hk.2) (.int .u64 t246)) (fun _ hk=>hk.2) (.slice Ao14 t247.length co14)) (fun _ h_=>h_.1))) hb);have n1_:=zm (zF (g:=gb244) (o:=.cells #[.int .u64 a0_0, .int .u32 a0_1, .slice A0_2 l0_2.length c0_2] 26 (0,0)) (by (with_reducible repeat (first|refine zh ?_ _|refine zj ?_|refine zi ?_ _|refine zv ?_ NB244_250.out _));exact BK244.out) hb);have n2_:=zm (zF (g:=gb245) (o:=.cells #[.int .u64 a1_0, .slice A1_1 l1_1.length c1_1] 33 (0,0)) (by (with_reducible repeat (first|refine zh ?_ _|refine zj ?_|refine zi ?_ _|refine zv ?_ NB245_250.out _));exact BK245.out) hb);have n3_:=zm (zF (g:=gb250) (o:=.cells #[.int .u64 t246, .slice Ao14 t247.length co14] 33 (0,0)) (by (with_reducible repeat (first|refine zh ?_ _|refine zj ?_|refine zi ?_ _));refine zw (cs := #[.int .u64 t246, .slice none 0 0]) ?_ 1 _ rfl;(with_reducible repeat (first|refine zh ?_ _|refine zj ?_|refine zi ?_ _));refine zw (cs := #[.int .u64 0, .slice none 0 0]) ?_ 0 _ rfl;(with_reducible repeat (first|refine zh ?_ _|refine zj ?_|refine zi ?_ _));exact BK250.out) hb);have n4_:=zm (zJ (by repeat (first|(with_reducible first|exact HB.out|apply ze|apply zd|apply zf|refine zk ?_ GE244.out|refine zk ?_ GE245.out|refine zk ?_ GE250.out)|exact HB.out)) hb);clear HO249;clear BK244;clear BK245;clear BK250;clear HB;have HO249:=n0_;have BK244:=n1_;have BK245:=n2_;have BK250:=n3_;have HB:=n4_;clear n0_ n1_ n2_ n3_ n4_;(try clear hb);(try clear hb2);(try clear hk);(try clear hi))))
   go_meet
   case rel=>exact ⟨_,(true),(by first|rfl|(simp;done)|(simp [*];done)),H',⟨by first|omega|exact Nat.le_refl _⟩,⟨by (with_reducible repeat (first|apply zo|apply zp|apply zq));exact HO249.out⟩,⟨by (with_reducible repeat (first|refine zh ?_ _|refine zj ?_|refine zi ?_ _));exact BK244.out⟩,⟨by (with_reducible repeat (first|refine zh ?_ _|refine zj ?_|refine zi ?_ _));exact BK245.out⟩,⟨by (with_reducible repeat (first|refine zh ?_ _|refine zj ?_|refine zi ?_ _));exact BK250.out⟩,⟨by repeat (first|(with_reducible first|exact HB.out|apply ze|apply zd|apply zf|refine zk ?_ GE244.out|refine zk ?_ GE245.out|refine zk ?_ GE250.out)|exact HB.out)⟩⟩
 case rest =>
  clear HC4
  try clear c1
  try clear c2
  try clear p2
  try clear c3
  try clear c7
  try clear c11
  try clear c12
  try clear c16
  try clear c17
  try clear c17b0
  try clear c17b1
  try clear c18
  try clear c19
  try clear c22
  try clear c23
  try clear c25
  try clear c26
  try clear c29
  try clear c32
  try clear c33
  try clear hcz13_0
  try clear hcz13_1
  try clear hcz20_0
  try clear hcz20_1
  try clear hcz20_2
  try clear hcz23_0
  try clear hcz23_1
  try clear hcz24_0
  try clear hcz24_1
  try clear hcz27_0
  try clear hcz27_1
  try clear hcz27_2
  try clear hcz30_0
  try clear hcz30_1
  try clear hcz31_0
  try clear hcz31_1
  try clear hcz34_0
  try clear hcz34_1
  try clear hcz34_2
  try clear hcz8_0
  try clear hcz8_1
  try clear hcz8_2
  try clear hfz13_0
  try clear hfz13_1
  try clear hfz20_0
  try clear hfz20_1
  try clear hfz20_2
  try clear hfz23_0
  try clear hfz23_1
  try clear hfz24_0
  try clear hfz24_1
  try clear hfz27_0
  try clear hfz27_1
  try clear hfz27_2
  try clear hfz30_0
  try clear hfz30_1
  try clear hfz31_0
  try clear hfz31_1
  try clear hfz34_0
  try clear hfz34_1
  try clear hfz34_2
  try clear hfz8_0
  try clear hfz8_1
  try clear hfz8_2
  obtain ⟨kq,x27_3,rfl,HA,HJ3,HO_251001,BK244,BK245,BK250,HB⟩:=hcut
  cases kq with
  | zero=>exact absurd HA.out (by simp [psalterylaw05_SameEnc.j0])
  | succ kj3 =>
   have H:=HA.out;clear HA
   simp only [psalterylaw05_SameEnc.j0] at H
   by_cases c36 : x27_3=true
   ·
    subst c36
    have H1 : (some false)=some r:=by rw [if_pos rfl] at H;exact H
    clear H;have H:=H1;clear H1
    obtain rfl:=Option.some.inj H
    go_wp2
    repeat (go_quiet (fail);try go_wp2)
    go_ret
    exact ⟨by first|rfl|(simp [errW_none,errW_some] <;> rfl)|(simp [*,errW_none,errW_some] <;> rfl),by repeat (first|(with_reducible first|exact HB.out|apply ze|apply zd|apply zf|refine zk ?_ GE244.out|refine zk ?_ GE245.out|refine zk ?_ GE250.out)|exact HB.out)⟩
   ·
    replace c36:=Bool.eq_false_iff.mpr c36
    subst c36
    have H1 : (psalterylaw05_SameEnc.l0 kj3 0 a1_0 l1_1 t246 t247)=some r:=by rw [if_neg (show ¬ (false=true) by decide)] at H;exact H
    clear H;have H:=H1;clear H1
    have H' := zm H
    clear H
    go_wp2
    repeat (go_quiet (fail);try go_wp2)
    go_loopg [6] kj3 (fun kq v6 w' => ∃ (x6_2 : Int),v6=.int .i64 x6_2∧Aside0 (psalterylaw05_SameEnc.l0 kq x6_2 a1_0 l1_1 t246 t247=some r)∧Aside0 (kq≤kj3)∧Aside0 (Kd.R (Kd.int .i64) 3 w' w.heap.size (fun _=>True) (.slice Ao14 t247.length co14) t247)∧Aside0 (w'.heap[gb244]? = some (.cells #[.int .u64 a0_0, .int .u32 a0_1,(.slice A0_2 l0_2.length c0_2)] 26 (0,0)))∧Aside0 (w'.heap[gb245]? = some (.cells #[.int .u64 a1_0,(.slice A1_1 l1_1.length c1_1)] 33 (0,0)))∧Aside0 (w'.heap[gb250]? = some (.cells #[.int .u64 t246,(.slice Ao14 t247.length co14)] 33 (0,0)))∧Aside0 (Below w.heap.size w w'))
    case atStart=>exact ⟨(0),(by first|rfl|(simp;done)|(simp [*];done)),H',⟨Nat.le_refl _⟩,⟨by (with_reducible repeat (first|apply zo|apply zp|apply zq));exact HO_251001.out⟩,⟨by (with_reducible repeat (first|refine zh ?_ _|refine zj ?_|refine zi ?_ _));exact BK244.out⟩,⟨by (with_reducible repeat (first|refine zh ?_ _|refine zj ?_|refine zi ?_ _));exact BK245.out⟩,⟨by (with_reducible repeat (first|refine zh ?_ _|refine zj ?_|refine zi ?_ _));exact BK250.out⟩,⟨by repeat (first|(with_reducible first|exact HB.out|apply ze|apply zd|apply zf|refine zk ?_ GE244.out|refine zk ?_ GE245.out|refine zk ?_ GE250.out)|exact HB.out)⟩⟩
    case round =>
     clear H'
     try clear c1
     try clear c2
     try clear p2
     try clear c3
     try clear c7
     try clear c11
     try clear c12
     try clear c16
     try clear c17
     try clear c17b0
     try clear c17b1
     try clear c18
     try clear c19
     try clear c22
     try clear c23
     try clear c25
     try clear c26
     try clear c29
     try clear c32
     try clear c33
     try clear c36
     try clear hcz13_0
     try clear hcz13_1
     try clear hcz20_0
     try clear hcz20_1
     try clear hcz20_2
     try clear hcz23_0
     try clear hcz23_1
     try clear hcz24_0
     try clear hcz24_1
     try clear hcz27_0
     try clear hcz27_1
     try clear hcz27_2
     try clear hcz30_0
     try clear hcz30_1
     try clear hcz31_0
     try clear hcz31_1
     try clear hcz34_0
     try clear hcz34_1
     try clear hcz34_2
     try clear hcz8_0
     try clear hcz8_1
     try clear hcz8_2
     try clear hfz13_0
     try clear hfz13_1
     try clear hfz20_0
     try clear hfz20_1
     try clear hfz20_2
     try clear hfz23_0
     try clear hfz23_1
     try clear hfz24_0
     try clear hfz24_1
     try clear hfz27_0
     try clear hfz27_1
     try clear hfz27_2
     try clear hfz30_0
     try clear hfz30_1
     try clear hfz31_0
     try clear hfz31_1
     try clear hfz34_0
     try clear hfz34_1
     try clear hfz34_2
     try clear hfz8_0
     try clear hfz8_1
     try clear hfz8_2
     try clear p2
     obtain ⟨x6_2,rfl,HA,HK2,HO_251001,BK244,BK245,BK250,HB⟩:=hrel
     cases gk with
     | zero=>exact absurd HA.out (by simp [psalterylaw05_SameEnc.l0])
     | succ k2 =>
      have H:=HA.out;clear HA
      simp only [psalterylaw05_SameEnc.l0] at H
      by_cases c37 : x6_2 < (t247.length : Int)
      ·
       rw [if_pos c37] at H
       have c37b0 : decide (x6_2 < (t247.length : Int))=true:=decide_eq_true c37
       clear c37
       by_cases c38 : 0≤x6_2
       ·
        rw [if_pos c38] at H
        have c38b0 : decide (0≤x6_2)=true:=decide_eq_true c38
        clear c38
        by_cases c39 : x6_2 < (l1_1.length : Int)
        ·
         rw [if_pos c39] at H
         have c39b0 : decide (x6_2 < (l1_1.length : Int))=true:=decide_eq_true c39
         clear c39
         by_cases c40 : (rd t247 x6_2)=(rd l1_1 x6_2)
         ·
          rw [if_pos c40] at H
          have c40b0 : ((rd t247 x6_2) == (rd l1_1 x6_2))=true:=beq_iff_eq.mpr c40
          have c40b1 : ((rd t247 x6_2) != (rd l1_1 x6_2))=false:=bne_eq_false_iff_eq.mpr c40
          clear c40
          have H' := zm H
          clear H;have hnb41:=NB250_244.out;have hnc41:=NB244_250.out;have hnb42:=NB250_245.out;have hnc42:=NB245_250.out
          have hcz43_0 : wr.cell? ⟨gb250,0,none⟩=some (.int .u64 t246):=(zs BK250.out 0).trans rfl
          have hcz43_1 : wr.cell? ⟨gb250,1,none⟩=some (.slice Ao14 t247.length co14):=(zs BK250.out 1).trans rfl
          have hfz43_0:=zx BK250.out 0
          have hfz43_1:=zx BK250.out 1
          have p252 : 0≤(x6_2 : Int):=of_decide_eq_true (by first|(with_reducible assumption)|assumption)
          have q252 : x6_2 < (t247.length : Int):=of_decide_eq_true (by first|(with_reducible assumption)|assumption)
          obtain ⟨ad252,e252,hx252_0⟩:=Kd.at_int (Kd.R_reads' HO_251001.out).2.2 x6_2 p252 q252
          cases e252
          replace p252:=eq_true p252
          replace q252:=eq_true q252
          have hnb44:=NB245_244.out;have hnc44:=NB244_245.out
          have hcz45_0 : wr.cell? ⟨gb245,0,none⟩=some (.int .u64 a1_0):=(zs BK245.out 0).trans rfl
          have hcz45_1 : wr.cell? ⟨gb245,1,none⟩=some (.slice A1_1 l1_1.length c1_1):=(zs BK245.out 1).trans rfl
          have hfz45_0:=zx BK245.out 0
          have hfz45_1:=zx BK245.out 1
          have p253 : 0≤(x6_2 : Int):=of_decide_eq_true (by first|(with_reducible assumption)|assumption)
          have q253 : x6_2 < (l1_1.length : Int):=of_decide_eq_true (by first|(with_reducible assumption)|assumption)
          obtain ⟨ad253,e253,hx253_0⟩:=Kd.at_int HR1_1.out x6_2 p253 q253
          cases e253
          replace hx253_0:=(HB.out.cell (zb w _ hx253_0)).trans hx253_0
          replace p253:=eq_true p253
          replace q253:=eq_true q253
          go_wp2
          repeat (go_quiet (fail);try go_wp2)
          go_roundg k2
          case measure=>have:=HJ3.out;have:=HK2.out;omega
          case rel=>exact ⟨(wrap64 (x6_2+1)),(by first|rfl|(simp;done)|(simp [*];done)),H',⟨by have:=HJ3.out;have:=HK2.out;omega⟩,⟨by (with_reducible repeat (first|apply zo|apply zp|apply zq));exact HO_251001.out⟩,⟨by (with_reducible repeat (first|refine zh ?_ _|refine zj ?_|refine zi ?_ _));exact BK244.out⟩,⟨by (with_reducible repeat (first|refine zh ?_ _|refine zj ?_|refine zi ?_ _));exact BK245.out⟩,⟨by (with_reducible repeat (first|refine zh ?_ _|refine zj ?_|refine zi ?_ _));exact BK250.out⟩,⟨by repeat (first|(with_reducible first|exact HB.out|apply ze|apply zd|apply zf|refine zk ?_ GE244.out|refine zk ?_ GE245.out|refine zk ?_ GE250.out)|exact HB.out)⟩⟩
         ·
          rw [if_neg c40] at H
          have c40b0 : ((rd t247 x6_2) == (rd l1_1 x6_2))=false:=beq_eq_false_iff_ne.mpr c40
          have c40b1 : ((rd t247 x6_2) != (rd l1_1 x6_2))=true:=bne_iff_ne.mpr c40
          obtain rfl:=Option.some.inj H
          have hnb46:=NB250_244.out;have hnc46:=NB244_250.out;have hnb47:=NB250_245.out;have hnc47:=NB245_250.out
          have hcz48_0 : wr.cell? ⟨gb250,0,none⟩=some (.int .u64 t246):=(zs BK250.out 0).trans rfl
          have hcz48_1 : wr.cell? ⟨gb250,1,none⟩=some (.slice Ao14 t247.length co14):=(zs BK250.out 1).trans rfl
          have hfz48_0:=zx BK250.out 0
          have hfz48_1:=zx BK250.out 1
          have p252 : 0≤(x6_2 : Int):=of_decide_eq_true (by first|(with_reducible assumption)|assumption)
          have q252 : x6_2 < (t247.length : Int):=of_decide_eq_true (by first|(with_reducible assumption)|assumption)
          obtain ⟨ad252,e252,hx252_0⟩:=Kd.at_int (Kd.R_reads' HO_251001.out).2.2 x6_2 p252 q252
          cases e252
          replace p252:=eq_true p252
          replace q252:=eq_true q252
          have hnb49:=NB245_244.out;have hnc49:=NB244_245.out
          have hcz50_0 : wr.cell? ⟨gb245,0,none⟩=some (.int .u64 a1_0):=(zs BK245.out 0).trans rfl
          have hcz50_1 : wr.cell? ⟨gb245,1,none⟩=some (.slice A1_1 l1_1.length c1_1):=(zs BK245.out 1).trans rfl
          have hfz50_0:=zx BK245.out 0
          have hfz50_1:=zx BK245.out 1
          have p253 : 0≤(x6_2 : Int):=of_decide_eq_true (by first|(with_reducible assumption)|assumption)
          have q253 : x6_2 < (l1_1.length : Int):=of_decide_eq_true (by first|(with_reducible assumption)|assumption)
          obtain ⟨ad253,e253,hx253_0⟩:=Kd.at_int HR1_1.out x6_2 p253 q253
          cases e253
          replace hx253_0:=(HB.out.cell (zb w _ hx253_0)).trans hx253_0
          replace p253:=eq_true p253
          replace q253:=eq_true q253
          go_wp2
          repeat (go_quiet (fail);try go_wp2)
          go_ret
          exact ⟨by first|rfl|(simp [errW_none,errW_some] <;> rfl)|(simp [*,errW_none,errW_some] <;> rfl),by repeat (first|(with_reducible first|exact HB.out|apply ze|apply zd|apply zf|refine zk ?_ GE244.out|refine zk ?_ GE245.out|refine zk ?_ GE250.out)|exact HB.out)⟩
        ·
         rw [if_neg c39] at H
         exact absurd H (by simp)
       ·
        rw [if_neg c38] at H
        exact absurd H (by simp)
      ·
       rw [if_neg c37] at H
       have c37b0 : decide (x6_2 < (t247.length : Int))=false:=decide_eq_false c37
       clear c37
       obtain rfl:=Option.some.inj H
       have hnb51:=NB250_244.out;have hnc51:=NB244_250.out;have hnb52:=NB250_245.out;have hnc52:=NB245_250.out
       have hcz53_0 : wr.cell? ⟨gb250,0,none⟩=some (.int .u64 t246):=(zs BK250.out 0).trans rfl
       have hcz53_1 : wr.cell? ⟨gb250,1,none⟩=some (.slice Ao14 t247.length co14):=(zs BK250.out 1).trans rfl
       have hfz53_0:=zx BK250.out 0
       have hfz53_1:=zx BK250.out 1
       go_wp2
       repeat (go_quiet (fail);try go_wp2)
       go_ret
       exact ⟨by first|rfl|(simp [errW_none,errW_some] <;> rfl)|(simp [*,errW_none,errW_some] <;> rfl),by repeat (first|(with_reducible first|exact HB.out|apply ze|apply zd|apply zf|refine zk ?_ GE244.out|refine zk ?_ GE245.out|refine zk ?_ GE250.out)|exact HB.out)⟩

end Go.Proofs.Ytkaoiblgfpphoaa.Prt
