-- Functions of the program and of the document as plain Lean, each with the proof that the code comes to it. Written by a program of this session (wip/tools/myprint.py, pack.py) over the kit's printer; Lean checks it.
import Derived.Test.YtkaoiblgfpphoaaZGainAlonePrt0
import Derived.Test.YtkaoiblgfpphoaaZGainAloneM1
namespace Go.Proofs.Ytkaoiblgfpphoaa.Prt
open Go.RowKit Go.Proofs.YtkaoiblgfpphoaaW.PrintWords Go.Proofs.YtkaoiblgfpphoaaW.PrintLast Go.Proofs.YtkaoiblgfpphoaaW.PrintMore
attribute [local go_sem] max2_int min2_int max_two min_two max_three min_three max_four min_four   -- for this text's walks alone
set_option linter.unusedVariables false
set_option linter.unusedSimpArgs false

/-! ### gain_Put: function 43 -/
mutual
def gain_Put.j0 : Nat→List Int→List Int→Bool→Bool→Int→Int→List Int→Int→Int→List Int→Option (Int × Int × List Int × Int)
 | 0,_,_,_,_,_,_,_,_,_,_=>none
 | k+1,x1,x2,x3,x33,x690000,x690001,x690002,x698000,x698001,x698002=>if x33=true then (some (x698000,x698001,x698002,1)) else (gain_Put.l0 k x1 x2 x3 0 x698000 x698001 x698002 x690000 x690001 x690002)
def gain_Put.l0 : Nat→List Int→List Int→Bool→Int→Int→Int→List Int→Int→Int→List Int→Option (Int × Int × List Int × Int)
 | 0,_,_,_,_,_,_,_,_,_,_=>none
 | k+1,x1,x2,x3,x36,x698000,x698001,x698002,x701000,x701001,x701002=>if x36 < 5 then (if x3=true then (gain_Put.j2 k x1 x2 x3 x36 0 x36 x698000 x698001 x698002 x701000 x701001 x701002) else (if 0≤x36 then (if x36 < (x2.length : Int) then (gain_Put.j2 k x1 x2 x3 x36 (rd x2 x36) x36 x698000 x698001 x698002 x701000 x701001 x701002) else (none)) else (none))) else (some (x701000,x701001,x701002,0))
def gain_Put.j2 : Nat→List Int→List Int→Bool→Int→Int→Int→Int→Int→List Int→Int→Int→List Int→Option (Int × Int × List Int × Int)
 | 0,_,_,_,_,_,_,_,_,_,_,_,_=>none
 | k+1,x1,x2,x3,x13,x14,x36,x698000,x698001,x698002,x701000,x701001,x701002=>if 0≤x13 then (if x13 < (x1.length : Int) then ((gain_put.f k x701000 x701001 x701002 (rd x1 x13) x14 x3).bind fun bt703=>(if bt703.2.2.2=0 then (gain_Put.l0 k x1 x2 x3 (wrap64 (x36+1)) x698000 x698001 x698002 bt703.1 bt703.2.1 bt703.2.2.1) else (some (x698000,x698001,x698002,bt703.2.2.2)))) else (none)) else (none)
end
def gain_Put.f (k : Nat) (a0_0 : Int) (a0_1 : Int) (l0_2 : List Int) (l1 : List Int) (l2 : List Int) (a3 : Bool) : Option (Int × Int × List Int × Int):=(coder_Put.f k a0_0 a0_1 l0_2 0 1 0).bind fun bt691=>((gain_Right.f k l1).bind fun t698=>(if t698=true then (if a3=true then (gain_Put.j0 k l1 l2 a3 false a0_0 a0_1 l0_2 bt691.1 bt691.2.1 bt691.2.2.1) else ((gain_Right.f k l2).bind fun t699=>(gain_Put.j0 k l1 l2 a3 (!t699) a0_0 a0_1 l0_2 bt691.1 bt691.2.1 bt691.2.2.1))) else (gain_Put.j0 k l1 l2 a3 true a0_0 a0_1 l0_2 bt691.1 bt691.2.1 bt691.2.2.1)))
theorem gain_Put.mono_l : ∀ k,(∀ y0 y1 y2 y3 y4 y5 y6 y7 y8 y9,LeO (gain_Put.j0 k y0 y1 y2 y3 y4 y5 y6 y7 y8 y9) (gain_Put.j0 (k+1) y0 y1 y2 y3 y4 y5 y6 y7 y8 y9))∧(∀ y0 y1 y2 y3 y4 y5 y6 y7 y8 y9,LeO (gain_Put.l0 k y0 y1 y2 y3 y4 y5 y6 y7 y8 y9) (gain_Put.l0 (k+1) y0 y1 y2 y3 y4 y5 y6 y7 y8 y9))∧(∀ y0 y1 y2 y3 y4 y5 y6 y7 y8 y9 y10 y11,LeO (gain_Put.j2 k y0 y1 y2 y3 y4 y5 y6 y7 y8 y9 y10 y11) (gain_Put.j2 (k+1) y0 y1 y2 y3 y4 y5 y6 y7 y8 y9 y10 y11))
 | 0=>⟨fun _ _ _ _ _ _ _ _ _ _ r h=>by simp [gain_Put.j0] at h,fun _ _ _ _ _ _ _ _ _ _ r h=>by simp [gain_Put.l0] at h,fun _ _ _ _ _ _ _ _ _ _ _ _ r h=>by simp [gain_Put.j2] at h⟩
 | k+1=>by
  obtain ⟨ih0,ih1,ih2⟩:=gain_Put.mono_l k
  refine ⟨?_, ?_, ?_⟩
  ·
   intro y0 y1 y2 y3 y4 y5 y6 y7 y8 y9
   unfold gain_Put.j0
   repeat' first
   | (with_reducible exact ih0 _ _ _ _ _ _ _ _ _ _)
   | (with_reducible exact ih1 _ _ _ _ _ _ _ _ _ _)
   | (with_reducible exact ih2 _ _ _ _ _ _ _ _ _ _ _ _)
   | (with_reducible exact coder_Put.mono _ _ _ _ _ _ _)
   | (with_reducible exact gain_Right.mono _ _)
   | (with_reducible exact gain_put.mono _ _ _ _ _ _ _)
   | (with_reducible exact LeO.refl _)
   | (with_reducible exact LeO.none _)
   | (with_reducible refine LeO.ite ?_ ?_)
   | (with_reducible refine LeO.bind ?_ (fun _ => ?_))
   | exact ih0 _ _ _ _ _ _ _ _ _ _
   | exact ih1 _ _ _ _ _ _ _ _ _ _
   | exact ih2 _ _ _ _ _ _ _ _ _ _ _ _
   | exact coder_Put.mono _ _ _ _ _ _ _
   | exact gain_Right.mono _ _
   | exact gain_put.mono _ _ _ _ _ _ _
   | exact LeO.none _
   | refine LeO.ite ?_ ?_
   | refine LeO.bind ?_ (fun _ => ?_)
  ·
   intro y0 y1 y2 y3 y4 y5 y6 y7 y8 y9
   unfold gain_Put.l0
   repeat' first
   | (with_reducible exact ih0 _ _ _ _ _ _ _ _ _ _)
   | (with_reducible exact ih1 _ _ _ _ _ _ _ _ _ _)
   | (with_reducible exact ih2 _ _ _ _ _ _ _ _ _ _ _ _)
   | (with_reducible exact coder_Put.mono _ _ _ _ _ _ _)
   | (with_reducible exact gain_Right.mono _ _)
   | (with_reducible exact gain_put.mono _ _ _ _ _ _ _)
   | (with_reducible exact LeO.refl _)
   | (with_reducible exact LeO.none _)
   | (with_reducible refine LeO.ite ?_ ?_)
   | (with_reducible refine LeO.bind ?_ (fun _ => ?_))
   | exact ih0 _ _ _ _ _ _ _ _ _ _
   | exact ih1 _ _ _ _ _ _ _ _ _ _
   | exact ih2 _ _ _ _ _ _ _ _ _ _ _ _
   | exact coder_Put.mono _ _ _ _ _ _ _
   | exact gain_Right.mono _ _
   | exact gain_put.mono _ _ _ _ _ _ _
   | exact LeO.none _
   | refine LeO.ite ?_ ?_
   | refine LeO.bind ?_ (fun _ => ?_)
  ·
   intro y0 y1 y2 y3 y4 y5 y6 y7 y8 y9 y10 y11
   unfold gain_Put.j2
   repeat' first
   | (with_reducible exact ih0 _ _ _ _ _ _ _ _ _ _)
   | (with_reducible exact ih1 _ _ _ _ _ _ _ _ _ _)
   | (with_reducible exact ih2 _ _ _ _ _ _ _ _ _ _ _ _)
   | (with_reducible exact coder_Put.mono _ _ _ _ _ _ _)
   | (with_reducible exact gain_Right.mono _ _)
   | (with_reducible exact gain_put.mono _ _ _ _ _ _ _)
   | (with_reducible exact LeO.refl _)
   | (with_reducible exact LeO.none _)
   | (with_reducible refine LeO.ite ?_ ?_)
   | (with_reducible refine LeO.bind ?_ (fun _ => ?_))
   | exact ih0 _ _ _ _ _ _ _ _ _ _
   | exact ih1 _ _ _ _ _ _ _ _ _ _
   | exact ih2 _ _ _ _ _ _ _ _ _ _ _ _
   | exact coder_Put.mono _ _ _ _ _ _ _
   | exact gain_Right.mono _ _
   | exact gain_put.mono _ _ _ _ _ _ _
   | exact LeO.none _
   | refine LeO.ite ?_ ?_
   | refine LeO.bind ?_ (fun _ => ?_)
theorem gain_Put.mono : ∀ a0 a1 a2 a3 a4 a5 k,LeO (gain_Put.f k a0 a1 a2 a3 a4 a5) (gain_Put.f (k+1) a0 a1 a2 a3 a4 a5):=by
 intro a0 a1 a2 a3 a4 a5 k
 obtain ⟨ih0,ih1,ih2⟩:=gain_Put.mono_l k
 unfold gain_Put.f
 repeat' first
   | (with_reducible exact ih0 _ _ _ _ _ _ _ _ _ _)
   | (with_reducible exact ih1 _ _ _ _ _ _ _ _ _ _)
   | (with_reducible exact ih2 _ _ _ _ _ _ _ _ _ _ _ _)
   | (with_reducible exact coder_Put.mono _ _ _ _ _ _ _)
   | (with_reducible exact gain_Right.mono _ _)
   | (with_reducible exact gain_put.mono _ _ _ _ _ _ _)
   | (with_reducible exact LeO.refl _)
   | (with_reducible exact LeO.none _)
   | (with_reducible refine LeO.ite ?_ ?_)
   | (with_reducible refine LeO.bind ?_ (fun _ => ?_))
   | exact ih0 _ _ _ _ _ _ _ _ _ _
   | exact ih1 _ _ _ _ _ _ _ _ _ _
   | exact ih2 _ _ _ _ _ _ _ _ _ _ _ _
   | exact coder_Put.mono _ _ _ _ _ _ _
   | exact gain_Right.mono _ _
   | exact gain_put.mono _ _ _ _ _ _ _
   | exact LeO.none _
   | refine LeO.ite ?_ ?_
   | refine LeO.bind ?_ (fun _ => ?_)
def gain_Put.T11 : Bool × List (List Nat × List Nat):=(true, [([], []),([], []),([], []),([1,2], [1,2]),([3], [3]),([], []),([], []),([0,4,5,6], [0,4,5,6]),([7], [7]),([8], [8]),([8], [8]),([], []),([11,9,7,0,1,2,3,4,5,6,7,8,9,11], [9,11]),([10,12,0,1,2,3,4,5,6,7,8,9,10,11,12], [10])])
def gain_Put.B11 : List Nat := [0,0,0,6,14,0,0,127,255,511,511,0,3071,8191]
theorem gain_Put.tab11 : rtab .any (opsOf Try.f43 11)=gain_Put.T11:=by kernel_rfl
theorem gain_Put.bits11 : waitsOk gain_Put.T11.2 gain_Put.B11=true:=by kernel_rfl
set_option maxHeartbeats 8000000 in
set_option maxRecDepth 100000 in
theorem gain_Put.calls (k : Nat) (a0_0 : Int) (a0_1 : Int) (P0_2_ : Nat→Prop) (A0_2 : Option Addr) (c0_2 : Nat) (l0_2 : List Int) (A1 : Option Addr) (c1 : Nat) (l1 : List Int) (A2 : Option Addr) (c2 : Nat) (l2 : List Int) (a3 : Bool) (r1 : Int) (r2 : Int) (r3 : List Int) (r4 : Int) (w : World) (hs0_2 : Kd.V (Kd.int .u8) 5 w w.heap.size (fun k_=>P0_2_ k_) (.slice A0_2 l0_2.length c0_2) l0_2) (hr1 : Kd.C (Kd.int .i64) w A1 l1.length l1) (hc1 : l1.length≤c1) (hr2 : Kd.C (Kd.int .i64) w A2 l2.length l2) (hc2 : l2.length≤c2) (h : gain_Put.f k a0_0 a0_1 l0_2 l1 l2 a3=some (r1,r2,r3,r4)) :
  Calls Try.prog 43 #[.agg #[.int .u64 a0_0, .int .u32 a0_1, .slice A0_2 l0_2.length c0_2], .slice A1 l1.length c1, .slice A2 l2.length c2, .bool a3] w fun e w' => ∃ v2_ : Value,e=.returned (.tuple #[.agg #[.int .u64 r1, .int .u32 r2,v2_], .int .i64 r4])∧Kd.V (Kd.int .u8) 5 w' w.heap.size (fun k_=>(P0_2_ k_∨w.heap.size≤k_)) v2_ r3∧Below w.heap.size w w' := by
 have hu26:=Try.underlying26
 have HO0_2:=zm (show Kd.V (Kd.int .u8) 5 w w.heap.size (fun k_=>(P0_2_ k_∨w.heap.size≤k_)) (.slice A0_2 l0_2.length c0_2) l0_2 from zy hs0_2 (fun k_ hk => .inl hk))
 have HR1:=zm hr1;have HC1:=zm hc1;clear hr1 hc1;have HR2:=zm hr2;have HC2:=zm hc2;clear hr2 hc2;have HB:=zm (Below.refl w.heap.size w)
 have H : ((coder_Put.f k a0_0 a0_1 l0_2 0 1 0).bind fun bt691=>((gain_Right.f k l1).bind fun t698=>(if t698=true then (if a3=true then (gain_Put.j0 k l1 l2 a3 false a0_0 a0_1 l0_2 bt691.1 bt691.2.1 bt691.2.2.1) else ((gain_Right.f k l2).bind fun t699=>(gain_Put.j0 k l1 l2 a3 (!t699) a0_0 a0_1 l0_2 bt691.1 bt691.2.1 bt691.2.2.1))) else (gain_Put.j0 k l1 l2 a3 true a0_0 a0_1 l0_2 bt691.1 bt691.2.1 bt691.2.2.1))))=some (r1,r2,r3,r4):=h
 clear h
 replace H:=Option.bind_eq_some_iff.mp H
 obtain ⟨⟨t691,t692,t693,t696⟩,A50,H⟩:=H
 replace H : ((gain_Right.f k l1).bind fun t698=>(if t698=true then (if a3=true then (gain_Put.j0 k l1 l2 a3 false a0_0 a0_1 l0_2 t691 t692 t693) else ((gain_Right.f k l2).bind fun t699=>(gain_Put.j0 k l1 l2 a3 (!t699) a0_0 a0_1 l0_2 t691 t692 t693))) else (gain_Put.j0 k l1 l2 a3 true a0_0 a0_1 l0_2 t691 t692 t693)))=some (r1,r2,r3,r4):=H
 have A5:=zm A50;clear A50;have HC6:=zm H;clear H
 go_enter Try.func43,Try.ntmps43
 go_upto_region 2 with (first|((with_reducible refine gate_dst (N:=4) rfl ?_);refine box_event ?hg (N:=4) ?hd (cs := #[.int .u64 a0_0, .int .u32 a0_1, .slice A0_2 l0_2.length c0_2]) (t:=26) ?hr ?_;(case hd=>rfl);(case hg=>rfl);(case hr=>first|(go_simp;done)|(go_simp;rfl));intro gb689 hg w7 hbox hb;have n0_:=zm (Kd.V_below (Kd.V_elderB (by (with_reducible repeat (first|apply zA|apply zB|apply zC));exact HO0_2.out) gb689 (Nat.le_of_eq hg.symm)) hb);have n1_:=zm (zJ (by repeat (first|(with_reducible first|exact HB.out|apply ze|apply zd|apply zf)|exact HB.out)) hb);have n2_:=zm (hbox);have n3_:=zm ((by rw [hg];exact (zE (by repeat (first|(with_reducible first|exact HB.out|apply ze|apply zd|apply zf)|exact HB.out))) : w.heap.size≤gb689));have n4_:=zm ((by rw [hg];exact (zE (by repeat (first|(with_reducible first|exact HB.out|apply ze|apply zd|apply zf)|exact HB.out))) : w.heap.size≤gb689));clear HO0_2;clear HB;have HO0_2:=n0_;have HB:=n1_;have BK689:=n2_;have GW689:=n3_;have GE689:=n4_;clear n0_ n1_ n2_ n3_ n4_;clear hb hbox hg)|((with_reducible refine gate_dst (N:=8) rfl ?_);refine box_event ?hg (N:=8) ?hd (cs := #[.int .u64 0, .int .u32 0, .slice none 0 0]) (t:=26) ?hr ?_;(case hd=>rfl);(case hg=>rfl);(case hr=>first|(go_simp;done)|(go_simp;rfl));intro gb690 hg w8 hbox hb;have n0_:=zm (Kd.V_below (Kd.V_elderB (by (with_reducible repeat (first|apply zA|apply zB|apply zC));exact HO0_2.out) gb690 (Nat.le_of_eq hg.symm)) hb);have n1_:=zm (zF (g:=gb689) (o:=.cells #[.int .u64 a0_0, .int .u32 a0_1, .slice A0_2 l0_2.length c0_2] 26 (0,0)) (by (with_reducible repeat (first|refine zh ?_ _|refine zj ?_|refine zi ?_ _));exact BK689.out) hb);have n2_:=zm (zJ (by repeat (first|(with_reducible first|exact HB.out|apply ze|apply zd|apply zf|refine zk ?_ GE689.out)|exact HB.out)) hb);have n3_:=zm (hbox);have n4_:=zm ((by rw [hg];exact (zE (by repeat (first|(with_reducible first|exact HB.out|apply ze|apply zd|apply zf|refine zk ?_ GE689.out)|exact HB.out))) : w.heap.size≤gb690));have n5_:=zm ((by rw [hg];exact (zE (by repeat (first|(with_reducible first|exact HB.out|apply ze|apply zd|apply zf|refine zk ?_ GE689.out)|exact HB.out))) : w.heap.size≤gb690));have n6_:=zm ((by rw [hg];exact zn (zD (g:=gb689) (o:=.cells #[.int .u64 a0_0, .int .u32 a0_1, .slice A0_2 l0_2.length c0_2] 26 (0,0)) (by (with_reducible repeat (first|refine zh ?_ _|refine zj ?_|refine zi ?_ _));exact BK689.out)) : gb689≠gb690));have n7_:=zm ((by rw [hg];exact zg (zD (g:=gb689) (o:=.cells #[.int .u64 a0_0, .int .u32 a0_1, .slice A0_2 l0_2.length c0_2] 26 (0,0)) (by (with_reducible repeat (first|refine zh ?_ _|refine zj ?_|refine zi ?_ _));exact BK689.out)) : gb690≠gb689));clear HO0_2;clear BK689;clear HB;have HO0_2:=n0_;have BK689:=n1_;have HB:=n2_;have BK690:=n3_;have GW690:=n4_;have GE690:=n5_;have NB689_690:=n6_;have NB690_689:=n7_;clear n0_ n1_ n2_ n3_ n4_ n5_ n6_ n7_;clear hb hbox hg;have hnb9:=NB689_690.out;have hnc9:=NB690_689.out;have hcz10_0 : w8.cell? ⟨gb689,0,none⟩=some (.int .u64 a0_0):=(zs BK689.out 0).trans rfl;have hcz10_1 : w8.cell? ⟨gb689,1,none⟩=some (.int .u32 a0_1):=(zs BK689.out 1).trans rfl;have hcz10_2 : w8.cell? ⟨gb689,2,none⟩=some (.slice A0_2 l0_2.length c0_2):=(zs BK689.out 2).trans rfl;have hfz10_0:=zx BK689.out 0;have hfz10_1:=zx BK689.out 1;have hfz10_2:=zx BK689.out 2)|((with_reducible refine gate_callee (f:=18) rfl ?_);refine goesL_ (some 19) rfl rfl Try.func18 (by kernel_rfl) rfl #[.agg #[.int .u64 a0_0, .int .u32 a0_1, .slice A0_2 l0_2.length c0_2], .int .i64 0, .int .i64 1, .int .i64 0] rfl (by (try simp only [List.map_toArray,List.map_cons,List.map_nil]);first|done|rfl|(simp only [List.length_drop,List.length_take];rfl)) ?_;(with_reducible refine (coder_Put.calls k a0_0 a0_1 _ _ l0_2 0 1 0 t691 t692 t693 t696 _ ?side1 ?side2 A5.out).mono ?_);(case side1=>repeat (first|exact (Kd.V_reads' HO0_2.out).2.2|(with_reducible refine Kd.C_alloc ?_ _)|(with_reducible refine Kd.C_drewN ?_ _)|(with_reducible refine Kd.C_drew ?_)));(case side2=>exact (Kd.V_reads' HO0_2.out).2.1);rintro e w11 ⟨v694,rfl,ho0,hb⟩;refine ⟨_,rfl, ?_⟩;have n0_:=zm (Kd.V_elder' (by (with_reducible repeat (first|apply zA|apply zB|apply zC));exact HO0_2.out) (Kd.R_base ho0) hb);have n1_:=zm (Kd.R_lower (Kd.R_newM (M:=fun k_=>(w.heap.size≤k_)) ho0 (zE (by repeat (first|(with_reducible first|exact HB.out|apply ze|apply zd|apply zf|refine zk ?_ GE689.out|refine zk ?_ GE690.out)|exact HB.out))) (fun k_ h_=>h_)) (zE (by repeat (first|(with_reducible first|exact HB.out|apply ze|apply zd|apply zf|refine zk ?_ GE689.out|refine zk ?_ GE690.out)|exact HB.out))));have n2_:=zm (zF (g:=gb689) (o:=.cells #[.int .u64 a0_0, .int .u32 a0_1, .slice A0_2 l0_2.length c0_2] 26 (0,0)) (by (with_reducible repeat (first|refine zh ?_ _|refine zj ?_|refine zi ?_ _));exact BK689.out) hb);have n3_:=zm (zF (g:=gb690) (o:=.cells #[.int .u64 0, .int .u32 0, .slice none 0 0] 26 (0,0)) (by (with_reducible repeat (first|refine zh ?_ _|refine zj ?_|refine zi ?_ _));exact BK690.out) hb);have n4_:=zm (zJ (by repeat (first|(with_reducible first|exact HB.out|apply ze|apply zd|apply zf|refine zk ?_ GE689.out|refine zk ?_ GE690.out)|exact HB.out)) hb);clear HO0_2;clear BK689;clear BK690;clear HB;have HO0_2:=n0_;have HO695:=n1_;have BK689:=n2_;have BK690:=n3_;have HB:=n4_;clear n0_ n1_ n2_ n3_ n4_;(try clear hb);(try clear hb2);(try clear hk);(try clear hi);(try clear ho0))|((with_reducible refine gate_dst (N:=10) rfl ?_);refine box_event ?hg (N:=10) ?hd (cs := #[.int .u64 0, .int .u32 0, .slice none 0 0]) (t:=26) ?hr ?_;(case hd=>rfl);(case hg=>rfl);(case hr=>first|(go_simp;done)|(go_simp;rfl));intro gb697 hg w12 hbox hb;have n0_:=zm (Kd.V_below (Kd.V_elderB (by (with_reducible repeat (first|apply zA|apply zB|apply zC));exact HO0_2.out) gb697 (Nat.le_of_eq hg.symm)) hb);have n1_:=zm (Kd.R_below (by (with_reducible repeat (first|apply zo|apply zp|apply zq));exact HO695.out) hb);have n2_:=zm (zF (g:=gb689) (o:=.cells #[.int .u64 a0_0, .int .u32 a0_1, .slice A0_2 l0_2.length c0_2] 26 (0,0)) (by (with_reducible repeat (first|refine zh ?_ _|refine zj ?_|refine zi ?_ _));exact BK689.out) hb);have n3_:=zm (zF (g:=gb690) (o:=.cells #[.int .u64 0, .int .u32 0, .slice none 0 0] 26 (0,0)) (by (with_reducible repeat (first|refine zh ?_ _|refine zj ?_|refine zi ?_ _));exact BK690.out) hb);have n4_:=zm (zJ (by repeat (first|(with_reducible first|exact HB.out|apply ze|apply zd|apply zf|refine zk ?_ GE689.out|refine zk ?_ GE690.out)|exact HB.out)) hb);have n5_:=zm (hbox);have n6_:=zm ((by rw [hg];exact (zE (by repeat (first|(with_reducible first|exact HB.out|apply ze|apply zd|apply zf|refine zk ?_ GE689.out|refine zk ?_ GE690.out)|exact HB.out))) : w.heap.size≤gb697));have n7_:=zm ((by rw [hg];exact (zE (by repeat (first|(with_reducible first|exact HB.out|apply ze|apply zd|apply zf|refine zk ?_ GE689.out|refine zk ?_ GE690.out)|exact HB.out))) : w.heap.size≤gb697));have n8_:=zm ((by rw [hg];exact zn (zD (g:=gb689) (o:=.cells #[.int .u64 a0_0, .int .u32 a0_1, .slice A0_2 l0_2.length c0_2] 26 (0,0)) (by (with_reducible repeat (first|refine zh ?_ _|refine zj ?_|refine zi ?_ _));exact BK689.out)) : gb689≠gb697));have n9_:=zm ((by rw [hg];exact zg (zD (g:=gb689) (o:=.cells #[.int .u64 a0_0, .int .u32 a0_1, .slice A0_2 l0_2.length c0_2] 26 (0,0)) (by (with_reducible repeat (first|refine zh ?_ _|refine zj ?_|refine zi ?_ _));exact BK689.out)) : gb697≠gb689));have n10_:=zm ((by rw [hg];exact zn (zD (g:=gb690) (o:=.cells #[.int .u64 0, .int .u32 0, .slice none 0 0] 26 (0,0)) (by (with_reducible repeat (first|refine zh ?_ _|refine zj ?_|refine zi ?_ _));exact BK690.out)) : gb690≠gb697));have n11_:=zm ((by rw [hg];exact zg (zD (g:=gb690) (o:=.cells #[.int .u64 0, .int .u32 0, .slice none 0 0] 26 (0,0)) (by (with_reducible repeat (first|refine zh ?_ _|refine zj ?_|refine zi ?_ _));exact BK690.out)) : gb697≠gb690));clear HO0_2;clear HO695;clear BK689;clear BK690;clear HB;have HO0_2:=n0_;have HO695:=n1_;have BK689:=n2_;have BK690:=n3_;have HB:=n4_;have BK697:=n5_;have GW697:=n6_;have GE697:=n7_;have NB689_697:=n8_;have NB697_689:=n9_;have NB690_697:=n10_;have NB697_690:=n11_;clear n0_ n1_ n2_ n3_ n4_ n5_ n6_ n7_ n8_ n9_ n10_ n11_;clear hb hbox hg;have hnb13:=NB697_689.out;have hnc13:=NB689_697.out;have hnb14:=NB697_690.out;have hnc14:=NB690_697.out;have hcz15_0 : w12.cell? ⟨gb697,0,none⟩=some (.int .u64 0):=(zs BK697.out 0).trans rfl;have hcz15_1 : w12.cell? ⟨gb697,1,none⟩=some (.int .u32 0):=(zs BK697.out 1).trans rfl;have hcz15_2 : w12.cell? ⟨gb697,2,none⟩=some (.slice none 0 0):=(zs BK697.out 2).trans rfl;have hfz15_0:=zx BK697.out 0;have hfz15_1:=zx BK697.out 1;have hfz15_2:=zx BK697.out 2;obtain ⟨Ao16,co16,eo16⟩:=Kd.R_slice HO695.out;subst eo16))
 (try simp only [Act.put,List.setIfInBounds_toArray,List.set_cons_zero,List.set_cons_succ])
 go_cut [33] (fun v33 wc => ∃ (kq : Nat) (x33_5 : Bool),v33=.bool x33_5∧Aside0 (gain_Put.j0 kq l1 l2 a3 x33_5 a0_0 a0_1 l0_2 t691 t692 t693=some (r1,r2,r3,r4))∧Aside0 (kq≤k)∧Aside0 (Kd.V (Kd.int .u8) 5 wc w.heap.size (fun k_=>(P0_2_ k_∨w.heap.size≤k_)∧some k_≠((.slice Ao16 t693.length co16) : Value).ownBlock∧k_≠gb689∧k_≠gb690∧k_≠gb697) (.slice A0_2 l0_2.length c0_2) l0_2)∧Aside0 (Kd.R (Kd.int .u8) 5 wc w.heap.size (fun k_=>(w.heap.size≤k_)) (.slice Ao16 t693.length co16) t693)∧Aside0 (wc.heap[gb689]? = some (.cells #[.int .u64 a0_0, .int .u32 a0_1,(.slice A0_2 l0_2.length c0_2)] 26 (0,0)))∧Aside0 (wc.heap[gb690]? = some (.cells #[.int .u64 0, .int .u32 0,(.slice none 0 0)] 26 (0,0)))∧Aside0 (wc.heap[gb697]? = some (.cells #[.int .u64 t691, .int .u32 t692,(.slice Ao16 t693.length co16)] 26 (0,0)))∧Aside0 (Below w.heap.size w wc))
 case first =>
  have H:=HC6.out;clear HC6
  replace H:=Option.bind_eq_some_iff.mp H
  obtain ⟨t698,A170,H⟩:=H
  replace H : (if t698=true then (if a3=true then (gain_Put.j0 k l1 l2 a3 false a0_0 a0_1 l0_2 t691 t692 t693) else ((gain_Right.f k l2).bind fun t699=>(gain_Put.j0 k l1 l2 a3 (!t699) a0_0 a0_1 l0_2 t691 t692 t693))) else (gain_Put.j0 k l1 l2 a3 true a0_0 a0_1 l0_2 t691 t692 t693))=some (r1,r2,r3,r4):=H
  have A17:=zm A170;clear A170
  by_cases c18 : t698=true
  ·
   subst c18
   have H1 : (if a3=true then (gain_Put.j0 k l1 l2 a3 false a0_0 a0_1 l0_2 t691 t692 t693) else ((gain_Right.f k l2).bind fun t699=>(gain_Put.j0 k l1 l2 a3 (!t699) a0_0 a0_1 l0_2 t691 t692 t693)))=some (r1,r2,r3,r4):=by rw [if_pos rfl] at H;exact H
   clear H;have H:=H1;clear H1
   by_cases c19 : a3=true
   ·
    subst c19
    have H1 : (gain_Put.j0 k l1 l2 true false a0_0 a0_1 l0_2 t691 t692 t693)=some (r1,r2,r3,r4):=by rw [if_pos rfl] at H;exact H
    clear H;have H:=H1;clear H1
    have H' := zm H
    clear H
    go_wp2_with (first|((with_reducible refine gate_callee (f:=45) rfl ?_);refine goesL_ (some 23) rfl rfl Try.func45 (by kernel_rfl) rfl #[.slice A1 l1.length c1] rfl (by (try simp only [List.map_toArray,List.map_cons,List.map_nil]);first|done|rfl|(simp only [List.length_drop,List.length_take];rfl)) ?_;(with_reducible refine (gain_Right.calls k _ _ l1 true _ ?side1 ?side2 A17.out).mono ?_);(case side1=>exact Kd.C_below HR1.out (by repeat (first|(with_reducible first|exact HB.out|apply ze|apply zd|apply zf|refine zk ?_ GE689.out|refine zk ?_ GE690.out|refine zk ?_ GE697.out)|exact HB.out)));(case side2=>exact HC1.out);rintro e w' ⟨rfl,⟨nd,rfl⟩⟩;refine ⟨_,rfl, ?_⟩))
    go_meet
    case rel=>exact ⟨_,(false),(by first|rfl|(simp;done)|(simp [*];done)),H',⟨by first|omega|exact Nat.le_refl _⟩,⟨by (with_reducible repeat (first|apply zA|apply zB|apply zC));exact zy (zI (p:=⟨gb697,2,none⟩) (zI (p:=⟨gb697,1,none⟩) (zI (p:=⟨gb697,0,none⟩) (zy HO0_2.out (fun k_ hk=>(⟨hk,hk.2⟩ : _∧k_≠gb697))) (fun _ hk=>hk.2) (.int .u64 t691)) (fun _ hk=>hk.2) (.int .u32 t692)) (fun _ hk=>hk.2) (.slice Ao16 t693.length co16)) (fun _ hk=>⟨hk.1.1.1.1.1,⟨hk.1.1.2,⟨hk.1.1.1.1.2,⟨hk.1.1.1.2,hk.1.2⟩⟩⟩⟩)⟩,⟨by (with_reducible repeat (first|apply zo|apply zp|apply zq));exact zG (zH (p:=⟨gb697,2,none⟩) (zH (p:=⟨gb697,1,none⟩) (zH (p:=⟨gb697,0,none⟩) (Kd.R_types HO695.out BK697.out (by decide)) (fun _ hk=>hk.2) (.int .u64 t691)) (fun _ hk=>hk.2) (.int .u32 t692)) (fun _ hk=>hk.2) (.slice Ao16 t693.length co16)) (fun _ hk=>hk.1.1)⟩,⟨by (with_reducible repeat (first|refine zh ?_ _|refine zj ?_|refine zi ?_ _|refine zv ?_ NB689_697.out _));exact BK689.out⟩,⟨by (with_reducible repeat (first|refine zh ?_ _|refine zj ?_|refine zi ?_ _|refine zv ?_ NB690_697.out _));exact BK690.out⟩,⟨by (with_reducible repeat (first|refine zh ?_ _|refine zj ?_|refine zi ?_ _));refine zw (cs := #[.int .u64 t691, .int .u32 t692, .slice none 0 0]) ?_ 2 _ rfl;(with_reducible repeat (first|refine zh ?_ _|refine zj ?_|refine zi ?_ _));refine zw (cs := #[.int .u64 t691, .int .u32 0, .slice none 0 0]) ?_ 1 _ rfl;(with_reducible repeat (first|refine zh ?_ _|refine zj ?_|refine zi ?_ _));refine zw (cs := #[.int .u64 0, .int .u32 0, .slice none 0 0]) ?_ 0 _ rfl;(with_reducible repeat (first|refine zh ?_ _|refine zj ?_|refine zi ?_ _));exact BK697.out⟩,⟨by repeat (first|(with_reducible first|exact HB.out|apply ze|apply zd|apply zf|refine zk ?_ GE689.out|refine zk ?_ GE690.out|refine zk ?_ GE697.out)|exact HB.out)⟩⟩
   ·
    replace c19:=Bool.eq_false_iff.mpr c19
    subst c19
    have H1 : ((gain_Right.f k l2).bind fun t699=>(gain_Put.j0 k l1 l2 false (!t699) a0_0 a0_1 l0_2 t691 t692 t693))=some (r1,r2,r3,r4):=by rw [if_neg (show ¬ (false=true) by decide)] at H;exact H
    clear H;have H:=H1;clear H1
    replace H:=Option.bind_eq_some_iff.mp H
    obtain ⟨t699,A200,H⟩:=H
    replace H : (gain_Put.j0 k l1 l2 false (!t699) a0_0 a0_1 l0_2 t691 t692 t693)=some (r1,r2,r3,r4):=H
    have A20:=zm A200;clear A200
    have H' := zm H
    clear H
    go_wp2_with (first|((with_reducible refine gate_callee (f:=45) rfl ?_);refine goesL_ (some 23) rfl rfl Try.func45 (by kernel_rfl) rfl #[.slice A1 l1.length c1] rfl (by (try simp only [List.map_toArray,List.map_cons,List.map_nil]);first|done|rfl|(simp only [List.length_drop,List.length_take];rfl)) ?_;(with_reducible refine (gain_Right.calls k _ _ l1 true _ ?side1 ?side2 A17.out).mono ?_);(case side1=>exact Kd.C_below HR1.out (by repeat (first|(with_reducible first|exact HB.out|apply ze|apply zd|apply zf|refine zk ?_ GE689.out|refine zk ?_ GE690.out|refine zk ?_ GE697.out)|exact HB.out)));(case side2=>exact HC1.out);rintro e w' ⟨rfl,⟨nd,rfl⟩⟩;refine ⟨_,rfl, ?_⟩)|(go_at_call 45;(with_reducible refine (gain_Right.calls k _ _ l2 t699 _ ?side1 ?side2 A20.out).mono ?_);(case side1=>exact Kd.C_below HR2.out (by repeat (first|(with_reducible first|exact HB.out|apply ze|apply zd|apply zf|refine zk ?_ GE689.out|refine zk ?_ GE690.out|refine zk ?_ GE697.out)|exact HB.out)));(case side2=>exact HC2.out);rintro e w' ⟨rfl,⟨nd,rfl⟩⟩))
    go_meet
    case rel=>exact ⟨_,(!t699),(by first|rfl|(simp;done)|(simp [*];done)),H',⟨by first|omega|exact Nat.le_refl _⟩,⟨by (with_reducible repeat (first|apply zA|apply zB|apply zC));exact zy (zI (p:=⟨gb697,2,none⟩) (zI (p:=⟨gb697,1,none⟩) (zI (p:=⟨gb697,0,none⟩) (zy HO0_2.out (fun k_ hk=>(⟨hk,hk.2⟩ : _∧k_≠gb697))) (fun _ hk=>hk.2) (.int .u64 t691)) (fun _ hk=>hk.2) (.int .u32 t692)) (fun _ hk=>hk.2) (.slice Ao16 t693.length co16)) (fun _ hk=>⟨hk.1.1.1.1.1,⟨hk.1.1.2,⟨hk.1.1.1.1.2,⟨hk.1.1.1.2,hk.1.2⟩⟩⟩⟩)⟩,⟨by (with_reducible repeat (first|apply zo|apply zp|apply zq));exact zG (zH (p:=⟨gb697,2,none⟩) (zH (p:=⟨gb697,1,none⟩) (zH (p:=⟨gb697,0,none⟩) (Kd.R_types HO695.out BK697.out (by decide)) (fun _ hk=>hk.2) (.int .u64 t691)) (fun _ hk=>hk.2) (.int .u32 t692)) (fun _ hk=>hk.2) (.slice Ao16 t693.length co16)) (fun _ hk=>hk.1.1)⟩,⟨by (with_reducible repeat (first|refine zh ?_ _|refine zj ?_|refine zi ?_ _|refine zv ?_ NB689_697.out _));exact BK689.out⟩,⟨by (with_reducible repeat (first|refine zh ?_ _|refine zj ?_|refine zi ?_ _|refine zv ?_ NB690_697.out _));exact BK690.out⟩,⟨by (with_reducible repeat (first|refine zh ?_ _|refine zj ?_|refine zi ?_ _));refine zw (cs := #[.int .u64 t691, .int .u32 t692, .slice none 0 0]) ?_ 2 _ rfl;(with_reducible repeat (first|refine zh ?_ _|refine zj ?_|refine zi ?_ _));refine zw (cs := #[.int .u64 t691, .int .u32 0, .slice none 0 0]) ?_ 1 _ rfl;(with_reducible repeat (first|refine zh ?_ _|refine zj ?_|refine zi ?_ _));refine zw (cs := #[.int .u64 0, .int .u32 0, .slice none 0 0]) ?_ 0 _ rfl;(with_reducible repeat (first|refine zh ?_ _|refine zj ?_|refine zi ?_ _));exact BK697.out⟩,⟨by repeat (first|(with_reducible first|exact HB.out|apply ze|apply zd|apply zf|refine zk ?_ GE689.out|refine zk ?_ GE690.out|refine zk ?_ GE697.out)|exact HB.out)⟩⟩
  ·
   replace c18:=Bool.eq_false_iff.mpr c18
   subst c18
   have H1 : (gain_Put.j0 k l1 l2 a3 true a0_0 a0_1 l0_2 t691 t692 t693)=some (r1,r2,r3,r4):=by rw [if_neg (show ¬ (false=true) by decide)] at H;exact H
   clear H;have H:=H1;clear H1
   have H' := zm H
   clear H
   go_wp2_with (first|((with_reducible refine gate_callee (f:=45) rfl ?_);refine goesL_ (some 23) rfl rfl Try.func45 (by kernel_rfl) rfl #[.slice A1 l1.length c1] rfl (by (try simp only [List.map_toArray,List.map_cons,List.map_nil]);first|done|rfl|(simp only [List.length_drop,List.length_take];rfl)) ?_;(with_reducible refine (gain_Right.calls k _ _ l1 false _ ?side1 ?side2 A17.out).mono ?_);(case side1=>exact Kd.C_below HR1.out (by repeat (first|(with_reducible first|exact HB.out|apply ze|apply zd|apply zf|refine zk ?_ GE689.out|refine zk ?_ GE690.out|refine zk ?_ GE697.out)|exact HB.out)));(case side2=>exact HC1.out);rintro e w' ⟨rfl,⟨nd,rfl⟩⟩;refine ⟨_,rfl, ?_⟩))
   go_meet
   case rel=>exact ⟨_,(true),(by first|rfl|(simp;done)|(simp [*];done)),H',⟨by first|omega|exact Nat.le_refl _⟩,⟨by (with_reducible repeat (first|apply zA|apply zB|apply zC));exact zy (zI (p:=⟨gb697,2,none⟩) (zI (p:=⟨gb697,1,none⟩) (zI (p:=⟨gb697,0,none⟩) (zy HO0_2.out (fun k_ hk=>(⟨hk,hk.2⟩ : _∧k_≠gb697))) (fun _ hk=>hk.2) (.int .u64 t691)) (fun _ hk=>hk.2) (.int .u32 t692)) (fun _ hk=>hk.2) (.slice Ao16 t693.length co16)) (fun _ hk=>⟨hk.1.1.1.1.1,⟨hk.1.1.2,⟨hk.1.1.1.1.2,⟨hk.1.1.1.2,hk.1.2⟩⟩⟩⟩)⟩,⟨by (with_reducible repeat (first|apply zo|apply zp|apply zq));exact zG (zH (p:=⟨gb697,2,none⟩) (zH (p:=⟨gb697,1,none⟩) (zH (p:=⟨gb697,0,none⟩) (Kd.R_types HO695.out BK697.out (by decide)) (fun _ hk=>hk.2) (.int .u64 t691)) (fun _ hk=>hk.2) (.int .u32 t692)) (fun _ hk=>hk.2) (.slice Ao16 t693.length co16)) (fun _ hk=>hk.1.1)⟩,⟨by (with_reducible repeat (first|refine zh ?_ _|refine zj ?_|refine zi ?_ _|refine zv ?_ NB689_697.out _));exact BK689.out⟩,⟨by (with_reducible repeat (first|refine zh ?_ _|refine zj ?_|refine zi ?_ _|refine zv ?_ NB690_697.out _));exact BK690.out⟩,⟨by (with_reducible repeat (first|refine zh ?_ _|refine zj ?_|refine zi ?_ _));refine zw (cs := #[.int .u64 t691, .int .u32 t692, .slice none 0 0]) ?_ 2 _ rfl;(with_reducible repeat (first|refine zh ?_ _|refine zj ?_|refine zi ?_ _));refine zw (cs := #[.int .u64 t691, .int .u32 0, .slice none 0 0]) ?_ 1 _ rfl;(with_reducible repeat (first|refine zh ?_ _|refine zj ?_|refine zi ?_ _));refine zw (cs := #[.int .u64 0, .int .u32 0, .slice none 0 0]) ?_ 0 _ rfl;(with_reducible repeat (first|refine zh ?_ _|refine zj ?_|refine zi ?_ _));exact BK697.out⟩,⟨by repeat (first|(with_reducible first|exact HB.out|apply ze|apply zd|apply zf|refine zk ?_ GE689.out|refine zk ?_ GE690.out|refine zk ?_ GE697.out)|exact HB.out)⟩⟩
 case rest =>
  clear HC6
  try clear c1
  try clear c2
  try clear p2
  try clear c4
  try clear c9
  try clear c13
  try clear c14
  try clear c18
  try clear c19
  try clear hcz10_0
  try clear hcz10_1
  try clear hcz10_2
  try clear hcz15_0
  try clear hcz15_1
  try clear hcz15_2
  try clear hfz10_0
  try clear hfz10_1
  try clear hfz10_2
  try clear hfz15_0
  try clear hfz15_1
  try clear hfz15_2
  obtain ⟨kq,x33_5,rfl,HA,HJ5,HO_690002,HO_698002,BK689,BK690,BK697,HB⟩:=hcut
  cases kq with
  | zero=>exact absurd HA.out (by simp [gain_Put.j0])
  | succ kj5 =>
   have H:=HA.out;clear HA
   simp only [gain_Put.j0] at H
   by_cases c21 : x33_5=true
   ·
    subst c21
    have H1 : (some (t691,t692,t693,1))=some (r1,r2,r3,r4):=by rw [if_pos rfl] at H;exact H
    clear H;have H:=H1;clear H1
    simp only [Option.some.injEq,Prod.mk.injEq] at H
    obtain ⟨rfl,rfl,rfl,rfl⟩:=H
    have hnb22:=NB697_689.out;have hnc22:=NB689_697.out;have hnb23:=NB697_690.out;have hnc23:=NB690_697.out
    have hcz24_0 : wc.cell? ⟨gb697,0,none⟩=some (.int .u64 t691):=(zs BK697.out 0).trans rfl
    have hcz24_1 : wc.cell? ⟨gb697,1,none⟩=some (.int .u32 t692):=(zs BK697.out 1).trans rfl
    have hcz24_2 : wc.cell? ⟨gb697,2,none⟩=some (.slice Ao16 t693.length co16):=(zs BK697.out 2).trans rfl
    have hfz24_0:=zx BK697.out 0
    have hfz24_1:=zx BK697.out 1
    have hfz24_2:=zx BK697.out 2
    have hnb25:=NB690_689.out;have hnc25:=NB689_690.out
    have hcz26_0 : wc.cell? ⟨gb690,0,none⟩=some (.int .u64 0):=(zs BK690.out 0).trans rfl
    have hcz26_1 : wc.cell? ⟨gb690,1,none⟩=some (.int .u32 0):=(zs BK690.out 1).trans rfl
    have hcz26_2 : wc.cell? ⟨gb690,2,none⟩=some (.slice none 0 0):=(zs BK690.out 2).trans rfl
    have hfz26_0:=zx BK690.out 0
    have hfz26_1:=zx BK690.out 1
    have hfz26_2:=zx BK690.out 2
    go_wp2
    refine bodyPost_ret (results_ct rfl _ _ gb690 26 #[.int .u64 t691, .int .u32 t692, .slice Ao16 t693.length co16] (0,0) _ rfl (by (with_reducible repeat (first|refine zh ?_ _|refine zj ?_|refine zi ?_ _));refine zw (cs := #[.int .u64 t691, .int .u32 t692, .slice none 0 0]) ?_ 2 _ rfl;(with_reducible repeat (first|refine zh ?_ _|refine zj ?_|refine zi ?_ _));refine zw (cs := #[.int .u64 t691, .int .u32 0, .slice none 0 0]) ?_ 1 _ rfl;(with_reducible repeat (first|refine zh ?_ _|refine zj ?_|refine zi ?_ _));refine zw (cs := #[.int .u64 0, .int .u32 0, .slice none 0 0]) ?_ 0 _ rfl;(with_reducible repeat (first|refine zh ?_ _|refine zj ?_|refine zi ?_ _));exact BK690.out) Try.underlying26 rfl (by kernel_rfl)) rfl ?_
    exact ⟨_,by first|rfl|(simp [errW_none,errW_some] <;> rfl)|(simp [*,errW_none,errW_some] <;> rfl),zy (Kd.R_V (by (with_reducible repeat (first|apply zo|apply zp|apply zq));exact zG (zH (p:=⟨gb690,2,none⟩) (zH (p:=⟨gb690,1,none⟩) (zH (p:=⟨gb690,0,none⟩) (Kd.R_types HO_698002.out BK690.out (by decide)) (fun _ hk=>hk.2) (.int .u64 t691)) (fun _ hk=>hk.2) (.int .u32 t692)) (fun _ hk=>hk.2) (.slice Ao16 t693.length co16)) (fun _ hk=>hk.1))) (fun k_ hk=>by first|exact ⟨(.inr (hk.1)),hk.2⟩|exact (.inr (hk))),by repeat (first|(with_reducible first|exact HB.out|apply ze|apply zd|apply zf|refine zk ?_ GE689.out|refine zk ?_ GE690.out|refine zk ?_ GE697.out)|exact HB.out)⟩
   ·
    replace c21:=Bool.eq_false_iff.mpr c21
    subst c21
    have H1 : (gain_Put.l0 kj5 l1 l2 a3 0 t691 t692 t693 a0_0 a0_1 l0_2)=some (r1,r2,r3,r4):=by rw [if_neg (show ¬ (false=true) by decide)] at H;exact H
    clear H;have H:=H1;clear H1
    have H' := zm H
    clear H;have hnb27:=NB689_690.out;have hnc27:=NB690_689.out;have hnb28:=NB689_697.out;have hnc28:=NB697_689.out
    have hcz29_0 : wc.cell? ⟨gb689,0,none⟩=some (.int .u64 a0_0):=(zs BK689.out 0).trans rfl
    have hcz29_1 : wc.cell? ⟨gb689,1,none⟩=some (.int .u32 a0_1):=(zs BK689.out 1).trans rfl
    have hcz29_2 : wc.cell? ⟨gb689,2,none⟩=some (.slice A0_2 l0_2.length c0_2):=(zs BK689.out 2).trans rfl
    have hfz29_0:=zx BK689.out 0
    have hfz29_1:=zx BK689.out 1
    have hfz29_2:=zx BK689.out 2
    go_wp2_with (first|((with_reducible refine gate_dst (N:=12) rfl ?_);refine box_event ?hg (N:=12) ?hd (cs := #[.int .u64 0, .int .u32 0, .slice none 0 0]) (t:=26) ?hr ?_;(case hd=>rfl);(case hg=>rfl);(case hr=>first|(go_simp;done)|(go_simp;rfl));intro gb700 hg w30 hbox hb;have n0_:=zm (Kd.V_below (Kd.V_elderB (by (with_reducible repeat (first|apply zA|apply zB|apply zC));exact HO_690002.out) gb700 (Nat.le_of_eq hg.symm)) hb);have n1_:=zm (Kd.R_below (by (with_reducible repeat (first|apply zo|apply zp|apply zq));exact HO_698002.out) hb);have n2_:=zm (zF (g:=gb689) (o:=.cells #[.int .u64 a0_0, .int .u32 a0_1, .slice A0_2 l0_2.length c0_2] 26 (0,0)) (by (with_reducible repeat (first|refine zh ?_ _|refine zj ?_|refine zi ?_ _));exact BK689.out) hb);have n3_:=zm (zF (g:=gb690) (o:=.cells #[.int .u64 0, .int .u32 0, .slice none 0 0] 26 (0,0)) (by (with_reducible repeat (first|refine zh ?_ _|refine zj ?_|refine zi ?_ _));exact BK690.out) hb);have n4_:=zm (zF (g:=gb697) (o:=.cells #[.int .u64 t691, .int .u32 t692, .slice Ao16 t693.length co16] 26 (0,0)) (by (with_reducible repeat (first|refine zh ?_ _|refine zj ?_|refine zi ?_ _));exact BK697.out) hb);have n5_:=zm (zJ (by repeat (first|(with_reducible first|exact HB.out|apply ze|apply zd|apply zf|refine zk ?_ GE689.out|refine zk ?_ GE690.out|refine zk ?_ GE697.out)|exact HB.out)) hb);have n6_:=zm (hbox);have n7_:=zm ((by rw [hg];exact (zE (by repeat (first|(with_reducible first|exact HB.out|apply ze|apply zd|apply zf|refine zk ?_ GE689.out|refine zk ?_ GE690.out|refine zk ?_ GE697.out)|exact HB.out))) : w.heap.size≤gb700));have n8_:=zm ((by rw [hg];exact (zE (by repeat (first|(with_reducible first|exact HB.out|apply ze|apply zd|apply zf|refine zk ?_ GE689.out|refine zk ?_ GE690.out|refine zk ?_ GE697.out)|exact HB.out))) : w.heap.size≤gb700));have n9_:=zm ((by rw [hg];exact zn (zD (g:=gb689) (o:=.cells #[.int .u64 a0_0, .int .u32 a0_1, .slice A0_2 l0_2.length c0_2] 26 (0,0)) (by (with_reducible repeat (first|refine zh ?_ _|refine zj ?_|refine zi ?_ _));exact BK689.out)) : gb689≠gb700));have n10_:=zm ((by rw [hg];exact zg (zD (g:=gb689) (o:=.cells #[.int .u64 a0_0, .int .u32 a0_1, .slice A0_2 l0_2.length c0_2] 26 (0,0)) (by (with_reducible repeat (first|refine zh ?_ _|refine zj ?_|refine zi ?_ _));exact BK689.out)) : gb700≠gb689));have n11_:=zm ((by rw [hg];exact zn (zD (g:=gb690) (o:=.cells #[.int .u64 0, .int .u32 0, .slice none 0 0] 26 (0,0)) (by (with_reducible repeat (first|refine zh ?_ _|refine zj ?_|refine zi ?_ _));exact BK690.out)) : gb690≠gb700));have n12_:=zm ((by rw [hg];exact zg (zD (g:=gb690) (o:=.cells #[.int .u64 0, .int .u32 0, .slice none 0 0] 26 (0,0)) (by (with_reducible repeat (first|refine zh ?_ _|refine zj ?_|refine zi ?_ _));exact BK690.out)) : gb700≠gb690));have n13_:=zm ((by rw [hg];exact zn (zD (g:=gb697) (o:=.cells #[.int .u64 t691, .int .u32 t692, .slice Ao16 t693.length co16] 26 (0,0)) (by (with_reducible repeat (first|refine zh ?_ _|refine zj ?_|refine zi ?_ _));exact BK697.out)) : gb697≠gb700));have n14_:=zm ((by rw [hg];exact zg (zD (g:=gb697) (o:=.cells #[.int .u64 t691, .int .u32 t692, .slice Ao16 t693.length co16] 26 (0,0)) (by (with_reducible repeat (first|refine zh ?_ _|refine zj ?_|refine zi ?_ _));exact BK697.out)) : gb700≠gb697));clear HO_690002;clear HO_698002;clear BK689;clear BK690;clear BK697;clear HB;have HO_690002:=n0_;have HO_698002:=n1_;have BK689:=n2_;have BK690:=n3_;have BK697:=n4_;have HB:=n5_;have BK700:=n6_;have GW700:=n7_;have GE700:=n8_;have NB689_700:=n9_;have NB700_689:=n10_;have NB690_700:=n11_;have NB700_690:=n12_;have NB697_700:=n13_;have NB700_697:=n14_;clear n0_ n1_ n2_ n3_ n4_ n5_ n6_ n7_ n8_ n9_ n10_ n11_ n12_ n13_ n14_;clear hb hbox hg;have hnb31:=NB700_689.out;have hnc31:=NB689_700.out;have hnb32:=NB700_690.out;have hnc32:=NB690_700.out;have hnb33:=NB700_697.out;have hnc33:=NB697_700.out;have hcz34_0 : w30.cell? ⟨gb700,0,none⟩=some (.int .u64 0):=(zs BK700.out 0).trans rfl;have hcz34_1 : w30.cell? ⟨gb700,1,none⟩=some (.int .u32 0):=(zs BK700.out 1).trans rfl;have hcz34_2 : w30.cell? ⟨gb700,2,none⟩=some (.slice none 0 0):=(zs BK700.out 2).trans rfl;have hfz34_0:=zx BK700.out 0;have hfz34_1:=zx BK700.out 1;have hfz34_2:=zx BK700.out 2))
    go_loopg [36] kj5 (fun kq v36 w' => ∃ (x36_2 : Int) (x691000_2 : Int) (x691001_2 : Int) (x701000_2 : Int) (x701001_2 : Int) (x701002_2 : List Int) (u701002 : Value),v36=.int .i64 x36_2∧Aside0 (gain_Put.l0 kq l1 l2 a3 x36_2 t691 t692 t693 x701000_2 x701001_2 x701002_2=some (r1,r2,r3,r4))∧Aside0 (kq≤kj5)∧Aside0 (Kd.V (Kd.int .u8) 5 w' w.heap.size (fun k_=>(P0_2_ k_∨w.heap.size≤k_)∧some k_≠((.slice Ao16 t693.length co16) : Value).ownBlock∧k_≠gb689∧k_≠gb690∧k_≠gb697∧k_≠gb700) (.slice A0_2 l0_2.length c0_2) l0_2)∧Aside0 (Kd.R (Kd.int .u8) 5 w' w.heap.size (fun k_=>(w.heap.size≤k_)) (.slice Ao16 t693.length co16) t693)∧Aside0 (Kd.V (Kd.int .u8) 5 w' w.heap.size (fun k_=>(P0_2_ k_∨w.heap.size≤k_)∧some k_≠((.slice Ao16 t693.length co16) : Value).ownBlock∧k_≠gb689∧k_≠gb690∧k_≠gb697∧k_≠gb700) u701002 x701002_2)∧Aside0 (w'.heap[gb689]? = some (.cells #[.int .u64 a0_0, .int .u32 a0_1,(.slice A0_2 l0_2.length c0_2)] 26 (0,0)))∧Aside0 (w'.heap[gb690]? = some (.cells #[.int .u64 x691000_2, .int .u32 x691001_2,(.slice none 0 0)] 26 (0,0)))∧Aside0 (w'.heap[gb697]? = some (.cells #[.int .u64 t691, .int .u32 t692,(.slice Ao16 t693.length co16)] 26 (0,0)))∧Aside0 (w'.heap[gb700]? = some (.cells #[.int .u64 x701000_2, .int .u32 x701001_2,u701002] 26 (0,0)))∧Aside0 (Below w.heap.size w w'))
    case atStart=>exact ⟨(0),(0),(0),(a0_0),(a0_1),(l0_2),(.slice A0_2 l0_2.length c0_2),(by first|rfl|(simp;done)|(simp [*];done)),H',⟨Nat.le_refl _⟩,⟨by (with_reducible repeat (first|apply zA|apply zB|apply zC));exact zy (zI (p:=⟨gb700,2,none⟩) (zI (p:=⟨gb700,1,none⟩) (zI (p:=⟨gb700,0,none⟩) (zy HO_690002.out (fun k_ hk=>(⟨hk,hk.2⟩ : _∧k_≠gb700))) (fun _ hk=>hk.2) (.int .u64 a0_0)) (fun _ hk=>hk.2) (.int .u32 a0_1)) (fun _ hk=>hk.2) (.slice A0_2 l0_2.length c0_2)) (fun _ hk=>⟨hk.1.1.1,⟨hk.1.1.2.1,⟨hk.1.1.2.2.1,⟨hk.1.1.2.2.2.1,⟨hk.1.1.2.2.2.2,hk.1.2⟩⟩⟩⟩⟩)⟩,⟨by (with_reducible repeat (first|apply zo|apply zp|apply zq));exact zG (zH (p:=⟨gb700,2,none⟩) (zH (p:=⟨gb700,1,none⟩) (zH (p:=⟨gb700,0,none⟩) (Kd.R_types HO_698002.out BK700.out (by decide)) (fun _ hk=>hk.2) (.int .u64 a0_0)) (fun _ hk=>hk.2) (.int .u32 a0_1)) (fun _ hk=>hk.2) (.slice A0_2 l0_2.length c0_2)) (fun _ hk=>hk.1)⟩,⟨by (with_reducible repeat (first|apply zA|apply zB|apply zC));exact zy (zI (p:=⟨gb700,2,none⟩) (zI (p:=⟨gb700,1,none⟩) (zI (p:=⟨gb700,0,none⟩) (zy HO_690002.out (fun k_ hk=>(⟨hk,hk.2⟩ : _∧k_≠gb700))) (fun _ hk=>hk.2) (.int .u64 a0_0)) (fun _ hk=>hk.2) (.int .u32 a0_1)) (fun _ hk=>hk.2) (.slice A0_2 l0_2.length c0_2)) (fun _ hk=>⟨hk.1.1.1,⟨hk.1.1.2.1,⟨hk.1.1.2.2.1,⟨hk.1.1.2.2.2.1,⟨hk.1.1.2.2.2.2,hk.1.2⟩⟩⟩⟩⟩)⟩,⟨by (with_reducible repeat (first|refine zh ?_ _|refine zj ?_|refine zi ?_ _|refine zv ?_ NB689_700.out _));exact BK689.out⟩,⟨by (with_reducible repeat (first|refine zh ?_ _|refine zj ?_|refine zi ?_ _|refine zv ?_ NB690_700.out _));exact BK690.out⟩,⟨by (with_reducible repeat (first|refine zh ?_ _|refine zj ?_|refine zi ?_ _|refine zv ?_ NB697_700.out _));exact BK697.out⟩,⟨by (with_reducible repeat (first|refine zh ?_ _|refine zj ?_|refine zi ?_ _));refine zw (cs := #[.int .u64 a0_0, .int .u32 a0_1, .slice none 0 0]) ?_ 2 _ rfl;(with_reducible repeat (first|refine zh ?_ _|refine zj ?_|refine zi ?_ _));refine zw (cs := #[.int .u64 a0_0, .int .u32 0, .slice none 0 0]) ?_ 1 _ rfl;(with_reducible repeat (first|refine zh ?_ _|refine zj ?_|refine zi ?_ _));refine zw (cs := #[.int .u64 0, .int .u32 0, .slice none 0 0]) ?_ 0 _ rfl;(with_reducible repeat (first|refine zh ?_ _|refine zj ?_|refine zi ?_ _));exact BK700.out⟩,⟨by repeat (first|(with_reducible first|exact HB.out|apply ze|apply zd|apply zf|refine zk ?_ GE689.out|refine zk ?_ GE690.out|refine zk ?_ GE697.out|refine zk ?_ GE700.out)|exact HB.out)⟩⟩
    case round =>
     clear H'
     try clear c1
     try clear c2
     try clear p2
     try clear c3
     try clear c4
     try clear c9
     try clear c13
     try clear c14
     try clear c18
     try clear c19
     try clear c21
     try clear c22
     try clear c23
     try clear c25
     try clear c27
     try clear c28
     try clear c31
     try clear c32
     try clear c33
     try clear hcz10_0
     try clear hcz10_1
     try clear hcz10_2
     try clear hcz15_0
     try clear hcz15_1
     try clear hcz15_2
     try clear hcz24_0
     try clear hcz24_1
     try clear hcz24_2
     try clear hcz26_0
     try clear hcz26_1
     try clear hcz26_2
     try clear hcz29_0
     try clear hcz29_1
     try clear hcz29_2
     try clear hcz34_0
     try clear hcz34_1
     try clear hcz34_2
     try clear hfz10_0
     try clear hfz10_1
     try clear hfz10_2
     try clear hfz15_0
     try clear hfz15_1
     try clear hfz15_2
     try clear hfz24_0
     try clear hfz24_1
     try clear hfz24_2
     try clear hfz26_0
     try clear hfz26_1
     try clear hfz26_2
     try clear hfz29_0
     try clear hfz29_1
     try clear hfz29_2
     try clear hfz34_0
     try clear hfz34_1
     try clear hfz34_2
     try clear p2
     obtain ⟨x36_2,x691000_2,x691001_2,x701000_2,x701001_2,x701002_2,u701002,rfl,HA,HK2,HO_690002,HO_698002,HO_701002,BK689,BK690,BK697,BK700,HB⟩:=hrel
     cases gk with
     | zero=>exact absurd HA.out (by simp [gain_Put.l0])
     | succ k2 =>
      have H:=HA.out;clear HA
      simp only [gain_Put.l0] at H
      by_cases c35 : x36_2 < 5
      ·
       rw [if_pos c35] at H
       have c35b0 : decide (x36_2 < 5)=true:=decide_eq_true c35
       clear c35;have HC36:=zm H;clear H
       go_upto_if 40 with (fail)
       go_cut [14] (fun v14 wc => ∃ (kq : Nat) (x14_35 : Int),v14=.int .i64 x14_35∧Aside0 (gain_Put.j2 kq l1 l2 a3 x36_2 x14_35 x36_2 t691 t692 t693 x701000_2 x701001_2 x701002_2=some (r1,r2,r3,r4))∧Aside0 (kq≤k2)∧Aside0 (Kd.V (Kd.int .u8) 5 wc w.heap.size (fun k_=>(P0_2_ k_∨w.heap.size≤k_)∧some k_≠((.slice Ao16 t693.length co16) : Value).ownBlock∧k_≠gb689∧k_≠gb690∧k_≠gb697∧k_≠gb700) (.slice A0_2 l0_2.length c0_2) l0_2)∧Aside0 (Kd.R (Kd.int .u8) 5 wc w.heap.size (fun k_=>(w.heap.size≤k_)) (.slice Ao16 t693.length co16) t693)∧Aside0 (Kd.V (Kd.int .u8) 5 wc w.heap.size (fun k_=>(P0_2_ k_∨w.heap.size≤k_)∧some k_≠((.slice Ao16 t693.length co16) : Value).ownBlock∧k_≠gb689∧k_≠gb690∧k_≠gb697∧k_≠gb700) u701002 x701002_2)∧Aside0 (wc.heap[gb689]? = some (.cells #[.int .u64 a0_0, .int .u32 a0_1,(.slice A0_2 l0_2.length c0_2)] 26 (0,0)))∧Aside0 (wc.heap[gb690]? = some (.cells #[.int .u64 x691000_2, .int .u32 x691001_2,(.slice none 0 0)] 26 (0,0)))∧Aside0 (wc.heap[gb697]? = some (.cells #[.int .u64 t691, .int .u32 t692,(.slice Ao16 t693.length co16)] 26 (0,0)))∧Aside0 (wc.heap[gb700]? = some (.cells #[.int .u64 x701000_2, .int .u32 x701001_2,u701002] 26 (0,0)))∧Aside0 (Below w.heap.size w wc))
       case first =>
        have H:=HC36.out;clear HC36
        by_cases c37 : a3=true
        ·
         subst c37
         have H1 : (gain_Put.j2 k2 l1 l2 true x36_2 0 x36_2 t691 t692 t693 x701000_2 x701001_2 x701002_2)=some (r1,r2,r3,r4):=by rw [if_pos rfl] at H;exact H
         clear H;have H:=H1;clear H1
         have H' := zm H
         clear H
         go_wp2
         go_meet
         case rel=>exact ⟨_,(0),(by first|rfl|(simp;done)|(simp [*];done)),H',⟨by have:=HJ5.out;have:=HK2.out;first|omega|exact Nat.le_refl _⟩,⟨by (with_reducible repeat (first|apply zA|apply zB|apply zC));exact HO_690002.out⟩,⟨by (with_reducible repeat (first|apply zo|apply zp|apply zq));exact HO_698002.out⟩,⟨by (with_reducible repeat (first|apply zA|apply zB|apply zC));exact HO_701002.out⟩,⟨by (with_reducible repeat (first|refine zh ?_ _|refine zj ?_|refine zi ?_ _));exact BK689.out⟩,⟨by (with_reducible repeat (first|refine zh ?_ _|refine zj ?_|refine zi ?_ _));exact BK690.out⟩,⟨by (with_reducible repeat (first|refine zh ?_ _|refine zj ?_|refine zi ?_ _));exact BK697.out⟩,⟨by (with_reducible repeat (first|refine zh ?_ _|refine zj ?_|refine zi ?_ _));exact BK700.out⟩,⟨by repeat (first|(with_reducible first|exact HB.out|apply ze|apply zd|apply zf|refine zk ?_ GE689.out|refine zk ?_ GE690.out|refine zk ?_ GE697.out|refine zk ?_ GE700.out)|exact HB.out)⟩⟩
        ·
         replace c37:=Bool.eq_false_iff.mpr c37
         subst c37
         have H1 : (if 0≤x36_2 then (if x36_2 < (l2.length : Int) then (gain_Put.j2 k2 l1 l2 false x36_2 (rd l2 x36_2) x36_2 t691 t692 t693 x701000_2 x701001_2 x701002_2) else (none)) else (none))=some (r1,r2,r3,r4):=by rw [if_neg (show ¬ (false=true) by decide)] at H;exact H
         clear H;have H:=H1;clear H1
         by_cases c38 : 0≤x36_2
         ·
          rw [if_pos c38] at H
          have c38b0 : decide (0≤x36_2)=true:=decide_eq_true c38
          clear c38
          (first|rw [c38b0]|(simp only [i64_w,i32_w];rw [c38b0])|skip)
          by_cases c39 : x36_2 < (l2.length : Int)
          ·
           rw [if_pos c39] at H
           have c39b0 : decide (x36_2 < (l2.length : Int))=true:=decide_eq_true c39
           clear c39
           have H' := zm H
           clear H
           have p701 : 0≤(x36_2 : Int):=of_decide_eq_true (by first|(with_reducible assumption)|assumption)
           have q701 : x36_2 < (l2.length : Int):=of_decide_eq_true (by first|(with_reducible assumption)|assumption)
           obtain ⟨ad701,e701,hx701_0⟩:=Kd.at_int HR2.out x36_2 p701 q701
           cases e701
           replace hx701_0:=(HB.out.cell (zb w _ hx701_0)).trans hx701_0
           replace p701:=eq_true p701
           replace q701:=eq_true q701
           go_wp2
           go_meet
           case rel=>exact ⟨_,(rd l2 x36_2),(by first|rfl|(simp;done)|(simp [*];done)),H',⟨by have:=HJ5.out;have:=HK2.out;first|omega|exact Nat.le_refl _⟩,⟨by (with_reducible repeat (first|apply zA|apply zB|apply zC));exact HO_690002.out⟩,⟨by (with_reducible repeat (first|apply zo|apply zp|apply zq));exact HO_698002.out⟩,⟨by (with_reducible repeat (first|apply zA|apply zB|apply zC));exact HO_701002.out⟩,⟨by (with_reducible repeat (first|refine zh ?_ _|refine zj ?_|refine zi ?_ _));exact BK689.out⟩,⟨by (with_reducible repeat (first|refine zh ?_ _|refine zj ?_|refine zi ?_ _));exact BK690.out⟩,⟨by (with_reducible repeat (first|refine zh ?_ _|refine zj ?_|refine zi ?_ _));exact BK697.out⟩,⟨by (with_reducible repeat (first|refine zh ?_ _|refine zj ?_|refine zi ?_ _));exact BK700.out⟩,⟨by repeat (first|(with_reducible first|exact HB.out|apply ze|apply zd|apply zf|refine zk ?_ GE689.out|refine zk ?_ GE690.out|refine zk ?_ GE697.out|refine zk ?_ GE700.out)|exact HB.out)⟩⟩
          ·
           rw [if_neg c39] at H
           exact absurd H (by simp)
         ·
          rw [if_neg c38] at H
          exact absurd H (by simp)
       case rest =>
        clear HC36
        try clear c1
        try clear c2
        try clear p2
        try clear c3
        try clear c4
        try clear p7
        try clear q7
        try clear hx7
        try clear c9
        try clear c13
        try clear c14
        try clear c18
        try clear c19
        try clear c21
        try clear c22
        try clear c23
        try clear c25
        try clear c27
        try clear c28
        try clear c31
        try clear c32
        try clear c33
        try clear c35
        try clear c35b0
        try clear c37
        try clear c38
        try clear c38b0
        try clear c39
        try clear c39b0
        try clear hcz10_0
        try clear hcz10_1
        try clear hcz10_2
        try clear hcz15_0
        try clear hcz15_1
        try clear hcz15_2
        try clear hcz24_0
        try clear hcz24_1
        try clear hcz24_2
        try clear hcz26_0
        try clear hcz26_1
        try clear hcz26_2
        try clear hcz29_0
        try clear hcz29_1
        try clear hcz29_2
        try clear hcz34_0
        try clear hcz34_1
        try clear hcz34_2
        try clear hfz10_0
        try clear hfz10_1
        try clear hfz10_2
        try clear hfz15_0
        try clear hfz15_1
        try clear hfz15_2
        try clear hfz24_0
        try clear hfz24_1
        try clear hfz24_2
        try clear hfz26_0
        try clear hfz26_1
        try clear hfz26_2
        try clear hfz29_0
        try clear hfz29_1
        try clear hfz29_2
        try clear hfz34_0
        try clear hfz34_1
        try clear hfz34_2
        try clear hx701_0
        try clear p2
        try clear p701
        try clear q701
        obtain ⟨kq,x14_35,rfl,HA,HJ35,HO_690002,HO_698002,HO_701002,BK689,BK690,BK697,BK700,HB⟩:=hcut
        cases kq with
        | zero=>exact absurd HA.out (by simp [gain_Put.j2])
        | succ kj35 =>
         have H:=HA.out;clear HA
         simp only [gain_Put.j2] at H
         by_cases c40 : 0≤x36_2
         ·
          rw [if_pos c40] at H
          have c40b0 : decide (0≤x36_2)=true:=decide_eq_true c40
          clear c40
          by_cases c41 : x36_2 < (l1.length : Int)
          ·
           rw [if_pos c41] at H
           have c41b0 : decide (x36_2 < (l1.length : Int))=true:=decide_eq_true c41
           clear c41
           replace H:=Option.bind_eq_some_iff.mp H
           obtain ⟨⟨t703,t704,t705,t708⟩,A420,H⟩:=H
           replace H : (if t708=0 then (gain_Put.l0 kj35 l1 l2 a3 (wrap64 (x36_2+1)) t691 t692 t693 t703 t704 t705) else (some (t691,t692,t693,t708)))=some (r1,r2,r3,r4):=H
           have A42:=zm A420;clear A420
           by_cases c43 : t708=0
           ·
            rw [if_pos c43] at H
            have c43b0 : (t708 == 0)=true:=beq_iff_eq.mpr c43
            have c43b1 : (t708 != 0)=false:=bne_eq_false_iff_eq.mpr c43
            clear c43
            have H' := zm H
            clear H
            obtain ⟨Ao44,co44,eo44⟩:=Kd.V_slice HO_701002.out
            subst eo44
            try go_wp2
            have n0_:=zm (zC HO_690002.out);have n1_:=zm (zq HO_698002.out);have n2_:=zm (zC HO_701002.out);have n3_:=zm (zj BK689.out);have n4_:=zm (zj BK690.out);have n5_:=zm (zj BK697.out);have n6_:=zm (zj BK700.out);have n7_:=zm (zf HB.out);clear HO_690002;clear HO_698002;clear HO_701002;clear BK689;clear BK690;clear BK697;clear BK700;clear HB;have HO_690002:=n0_;have HO_698002:=n1_;have HO_701002:=n2_;have BK689:=n3_;have BK690:=n4_;have BK697:=n5_;have BK700:=n6_;have HB:=n7_;clear n0_ n1_ n2_ n3_ n4_ n5_ n6_ n7_
            have p702 : 0≤(x36_2 : Int):=of_decide_eq_true (by first|(with_reducible assumption)|assumption)
            have q702 : x36_2 < (l1.length : Int):=of_decide_eq_true (by first|(with_reducible assumption)|assumption)
            obtain ⟨ad702,e702,hx702_0⟩:=Kd.at_int HR1.out x36_2 p702 q702
            have hw702_0:=hx702_0
            cases e702
            replace hx702_0:=(HB.out.cell (zb w _ hx702_0)).trans hx702_0
            replace p702:=eq_true p702
            replace q702:=eq_true q702
            refine start_ (n:=14) (S:=fun w' => w'.cell? ⟨gb700,0,none⟩=some (.int .u64 x701000_2)∧w'.cell? ⟨gb700,1,none⟩=some (.int .u32 x701001_2)∧w'.cell? ⟨gb700,2,none⟩=some (.slice Ao44 x701002_2.length co44)∧w'.cell? (ad702.add (x36_2).toNat)=some (.int .i64 (rd l1 x36_2))) (ds := []) #[false,false,false,false,false,false,false,false,false,false,false,false,false,false] (by kernel_rfl) rfl rfl ⟨(zs BK700.out 0).trans rfl,(zs BK700.out 1).trans rfl,(zs BK700.out 2).trans rfl,((HB.out.cell (zb w _ hw702_0)).trans hw702_0)⟩ (fun hHeld => ?_);refine with_tabW gain_Put.tab11 gain_Put.bits11 (fun HT_ HW_ => ?_)
            generalize wc.drew=w45 at HO_690002 HO_698002 HO_701002 BK689 BK690 BK697 BK700 HB hx702_0 hHeld ⊢
            refine pure_ (i:=1) (N:=some 47) (v := ?_) (a' := ?_) #[false,true,false,false,false,false,false,false,false,false,false,false,false,false] rfl rfl (any_of HT_.out (by kernel_rfl)) (fun _ _ _ h=>h) (Or.inl ⟨by rfl, ?_⟩) ?_ ?_
            rotate_left
            ·
             intro w'
             go_simp
             with_reducible rfl
            rotate_left
            ·
             simp only [Act.put,List.setIfInBounds_toArray,List.set_cons_zero,List.set_cons_succ,i64_w,i32_w]
             rfl
            refine pure_ (i:=2) (N:=some 48) (v := ?_) (a' := ?_) #[false,true,true,false,false,false,false,false,false,false,false,false,false,false] rfl rfl (any_of HT_.out (by kernel_rfl)) (fun _ _ _ h=>h) (Or.inl ⟨by rfl, ?_⟩) ?_ ?_
            rotate_left
            ·
             intro w'
             go_simp
             with_reducible rfl
            rotate_left
            ·
             simp only [Act.put,List.setIfInBounds_toArray,List.set_cons_zero,List.set_cons_succ,i64_w,i32_w]
             rfl
            refine pure_ (i:=3) (N:=some 49) (v := ?_) (a' := ?_) #[false,true,true,true,false,false,false,false,false,false,false,false,false,false] rfl rfl (any_of HT_.out (by kernel_rfl)) (fun _ _ _ h=>h) (Or.inl ⟨by rfl, ?_⟩) ?_ ?_
            rotate_left
            ·
             intro w'
             go_simp
             with_reducible rfl
            rotate_left
            ·
             simp only [Act.put,List.setIfInBounds_toArray,List.set_cons_zero,List.set_cons_succ,i64_w,i32_w]
             rfl
            refine pure_ (i:=5) (N:=some 51) (v := ?_) (a' := ?_) #[false,true,true,true,false,true,false,false,false,false,false,false,false,false] rfl rfl (any_of HT_.out (by kernel_rfl)) (fun _ _ _ h=>h) (Or.inl ⟨by rfl, ?_⟩) ?_ ?_
            rotate_left
            ·
             intro w'
             go_simp
             with_reducible rfl
            rotate_left
            ·
             simp only [Act.put,List.setIfInBounds_toArray,List.set_cons_zero,List.set_cons_succ,i64_w,i32_w]
             rfl
            refine pure_ (i:=6) (N:=some 52) (v := ?_) (a' := ?_) #[false,true,true,true,false,true,true,false,false,false,false,false,false,false] rfl rfl (any_of HT_.out (by kernel_rfl)) (fun _ _ _ h=>h) (Or.inl ⟨by rfl, ?_⟩) ?_ ?_
            rotate_left
            ·
             intro w'
             go_simp
             with_reducible rfl
            rotate_left
            ·
             simp only [Act.put,List.setIfInBounds_toArray,List.set_cons_zero,List.set_cons_succ,i64_w,i32_w]
             rfl
            refine take_ (i:=0) (N:=some 46) (v := ?_) (a' := ?_) #[true,true,true,true,false,true,true,false,false,false,false,false,false,false] rfl rfl (take_ofW HT_.out HW_.out (by kernel_rfl)) (fun _ _ _ h=>h) (Or.inl ⟨by rfl, ?_⟩) hHeld ?_ ?_
            rotate_left
            ·
             rintro w' ⟨s0,s1,s2,s3⟩
             go_simp
             with_reducible rfl
            rotate_left
            ·
             simp only [Act.put,List.setIfInBounds_toArray,List.set_cons_zero,List.set_cons_succ,i64_w,i32_w]
             rfl
            refine take_ (i:=4) (N:=some 50) (v := ?_) (a' := ?_) #[true,true,true,true,true,true,true,false,false,false,false,false,false,false] rfl rfl (take_ofW HT_.out HW_.out (by kernel_rfl)) (fun _ _ _ h=>h) (Or.inl ⟨by rfl, ?_⟩) hHeld ?_ ?_
            rotate_left
            ·
             rintro w' ⟨s0,s1,s2,s3⟩
             go_simp
             with_reducible rfl
            rotate_left
            ·
             simp only [Act.put,List.setIfInBounds_toArray,List.set_cons_zero,List.set_cons_succ,i64_w,i32_w]
             rfl
            refine join_ (σ:=Value × Nat) 2 #[true,true,true,true,true,true,true,true,true,true,true,true,false,false] (fun s_ => [(53, .tuple #[.agg #[.int .u64 t703, .int .u32 t704,s_.1], .int .i64 t708]),(15, .pointer (some ⟨s_.2,0,none⟩)),(45, .tuple #[.agg #[.int .u64 t703, .int .u32 t704,s_.1], .int .i64 t708]),(54, .agg #[.int .u64 t703, .int .u32 t704,s_.1]),(55, .int .i64 t708)]) (fun s_ w' => (w'.cell? ⟨gb700,0,none⟩=some (.int .u64 x701000_2)∧w'.cell? ⟨gb700,1,none⟩=some (.int .u32 x701001_2)∧w'.cell? ⟨gb700,2,none⟩=some (.slice Ao44 x701002_2.length co44)∧w'.cell? (ad702.add (x36_2).toNat)=some (.int .i64 (rd l1 x36_2)))∧(Kd.R (Kd.int .u8) 5 w' w.heap.size (fun k_=>(w.heap.size≤k_)∧some k_≠(.slice Ao16 t693.length co16 : Value).ownBlock) s_.1 t705)∧(Kd.V (Kd.int .u8) 5 w' w.heap.size (fun k_=>(P0_2_ k_∨w.heap.size≤k_)∧some k_≠(s_.1 : Value).ownBlock∧some k_≠(.slice Ao16 t693.length co16 : Value).ownBlock∧k_≠gb689∧k_≠gb690∧k_≠gb697∧k_≠gb700∧k_≠s_.2) (.slice A0_2 l0_2.length c0_2) l0_2)∧(Kd.R (Kd.int .u8) 5 w' w.heap.size (fun k_=>(w.heap.size≤k_)∧some k_≠(s_.1 : Value).ownBlock) (.slice Ao16 t693.length co16) t693)∧(Kd.V (Kd.int .u8) 5 w' w.heap.size (fun k_=>(P0_2_ k_∨w.heap.size≤k_)∧some k_≠(s_.1 : Value).ownBlock∧some k_≠(.slice Ao16 t693.length co16 : Value).ownBlock∧k_≠gb689∧k_≠gb690∧k_≠gb697∧k_≠gb700∧k_≠s_.2) (.slice Ao44 x701002_2.length co44) x701002_2)∧(w'.heap[gb689]? = some (.cells #[.int .u64 a0_0, .int .u32 a0_1, .slice A0_2 l0_2.length c0_2] 26 (0,0)))∧(w'.heap[gb690]? = some (.cells #[.int .u64 x691000_2, .int .u32 x691001_2, .slice none 0 0] 26 (0,0)))∧(w'.heap[gb697]? = some (.cells #[.int .u64 t691, .int .u32 t692, .slice Ao16 t693.length co16] 26 (0,0)))∧(w'.heap[gb700]? = some (.cells #[.int .u64 x701000_2, .int .u32 x701001_2, .slice Ao44 x701002_2.length co44] 26 (0,0)))∧(w'.heap[s_.2]? = some (.cells #[.int .u64 0, .int .u32 0, .slice none 0 0] 26 (0,0)))∧(w.heap.size≤s_.2)∧(w.heap.size≤s_.2)∧(gb689≠s_.2)∧(s_.2≠gb689)∧(gb690≠s_.2)∧(s_.2≠gb690)∧(gb697≠s_.2)∧(s_.2≠gb697)∧(gb700≠s_.2)∧(s_.2≠gb700)∧(Below w.heap.size w w')) ?_ ?_
            rotate_left
            ·
             intro hCont
             refine two_ (i:=7) (j:=11) (Ni:=some 53) (Nj:=some 15) #[true,true,true,true,true,true,true,true,false,false,false,false,false,false] #[true,true,true,true,true,true,true,false,false,false,false,true,false,false] rfl rfl rfl rfl (two_of HT_.out (by kernel_rfl)) (by decide) (by decide) (fun K hK => ?_) (fun K hK => ?_)
             ·
              skip
              refine goes_ Try.func64 (by kernel_rfl) rfl #[.agg #[.int .u64 x701000_2, .int .u32 x701001_2, .slice Ao44 x701002_2.length co44], .int .i64 (rd l1 x36_2), .int .i64 x14_35, .bool a3] (by rfl) rfl rfl (by (try simp only [List.map_toArray,List.map_cons,List.map_nil]);first|done|rfl|(simp only [List.length_drop,List.length_take];rfl)) ?_
              with_reducible refine (gain_put.calls kj35 x701000_2 x701001_2 _ _ x701002_2 (rd l1 x36_2) x14_35 a3 t703 t704 t705 t708 _ ?side1 ?side2 A42.out).mono ?_
              (case side1=>repeat (first|exact (Kd.V_reads' HO_701002.out).2.2|(with_reducible refine Kd.C_alloc ?_ _)|(with_reducible refine Kd.C_drewN ?_ _)|(with_reducible refine Kd.C_drew ?_)))
              (case side2=>exact (Kd.V_reads' HO_701002.out).2.1)
              rintro e w46 ⟨v706,rfl,ho0,hb⟩
              refine ⟨_,rfl, ?_⟩
              have n0_:=zm (Kd.V_elder' (by (with_reducible repeat (first|apply zA|apply zB|apply zC));exact HO_690002.out) (Kd.R_base ho0) hb)
              have n1_:=zm (Kd.R_elder' (by (with_reducible repeat (first|apply zo|apply zp|apply zq));exact HO_698002.out) (Kd.R_base ho0) hb)
              have n2_:=zm (Kd.V_elder' (by (with_reducible repeat (first|apply zA|apply zB|apply zC));exact HO_701002.out) (Kd.R_base ho0) hb)
              have n3_:=zm (Kd.R_lower (Kd.R_new' (Kd.R_newM (M:=fun k_=>(w.heap.size≤k_)) ho0 (zE (by repeat (first|(with_reducible first|exact HB.out|apply ze|apply zd|apply zf|refine zk ?_ GE689.out|refine zk ?_ GE690.out|refine zk ?_ GE697.out|refine zk ?_ GE700.out)|exact HB.out))) (fun k_ h_=>h_)) (Kd.R_lt (by (with_reducible repeat (first|apply zo|apply zp|apply zq));exact HO_698002.out))) (zE (by repeat (first|(with_reducible first|exact HB.out|apply ze|apply zd|apply zf|refine zk ?_ GE689.out|refine zk ?_ GE690.out|refine zk ?_ GE697.out|refine zk ?_ GE700.out)|exact HB.out))))
              have n4_:=zm (zF (g:=gb689) (o:=.cells #[.int .u64 a0_0, .int .u32 a0_1, .slice A0_2 l0_2.length c0_2] 26 (0,0)) (by (with_reducible repeat (first|refine zh ?_ _|refine zj ?_|refine zi ?_ _));exact BK689.out) hb)
              have n5_:=zm (zF (g:=gb690) (o:=.cells #[.int .u64 x691000_2, .int .u32 x691001_2, .slice none 0 0] 26 (0,0)) (by (with_reducible repeat (first|refine zh ?_ _|refine zj ?_|refine zi ?_ _));exact BK690.out) hb)
              have n6_:=zm (zF (g:=gb697) (o:=.cells #[.int .u64 t691, .int .u32 t692, .slice Ao16 t693.length co16] 26 (0,0)) (by (with_reducible repeat (first|refine zh ?_ _|refine zj ?_|refine zi ?_ _));exact BK697.out) hb)
              have n7_:=zm (zF (g:=gb700) (o:=.cells #[.int .u64 x701000_2, .int .u32 x701001_2, .slice Ao44 x701002_2.length co44] 26 (0,0)) (by (with_reducible repeat (first|refine zh ?_ _|refine zj ?_|refine zi ?_ _));exact BK700.out) hb)
              have n8_:=zm (zJ (by repeat (first|(with_reducible first|exact HB.out|apply ze|apply zd|apply zf|refine zk ?_ GE689.out|refine zk ?_ GE690.out|refine zk ?_ GE697.out|refine zk ?_ GE700.out)|exact HB.out)) hb)
              clear HO_690002;clear HO_698002;clear HO_701002;clear BK689;clear BK690;clear BK697;clear BK700;clear HB;have HO_690002:=n0_;have HO_698002:=n1_;have HO_701002:=n2_;have HO707:=n3_;have BK689:=n4_;have BK690:=n5_;have BK697:=n6_;have BK700:=n7_;have HB:=n8_;clear n0_ n1_ n2_ n3_ n4_ n5_ n6_ n7_ n8_
              (try clear hb)
              (try clear hb2)
              (try clear hk)
              (try clear hi)
              (try clear ho0)
              refine hK.out _ _ ⟨(zs BK700.out 0).trans rfl,(zs BK700.out 1).trans rfl,(zs BK700.out 2).trans rfl,((HB.out.cell (zb w _ hw702_0)).trans hw702_0)⟩ (fun hHeld => ?_)
              clear hK K
              refine norm_ (a' := ?_) ?_ ?_
              rotate_left
              ·
               show Act.put _ (some 53) _=_
               simp only [Act.put,List.setIfInBounds_toArray,List.set_cons_zero,List.set_cons_succ,i64_w,i32_w]
               rfl
              refine pure_ (i:=8) (N:=some 45) (v := ?_) (a' := ?_) #[true,true,true,true,true,true,true,true,true,false,false,false,false,false] rfl rfl (any_of HT_.out (by kernel_rfl)) (fun _ _ _ h=>h) (Or.inl ⟨by rfl, ?_⟩) ?_ ?_
              rotate_left
              ·
               intro w'
               go_simp
               with_reducible rfl
              rotate_left
              ·
               simp only [Act.put,List.setIfInBounds_toArray,List.set_cons_zero,List.set_cons_succ,i64_w,i32_w]
               rfl
              refine pure_ (i:=9) (N:=some 54) (v := ?_) (a' := ?_) #[true,true,true,true,true,true,true,true,true,true,false,false,false,false] rfl rfl (any_of HT_.out (by kernel_rfl)) (fun _ _ _ h=>h) (Or.inl ⟨by rfl, ?_⟩) ?_ ?_
              rotate_left
              ·
               intro w'
               go_simp
               with_reducible rfl
              rotate_left
              ·
               simp only [Act.put,List.setIfInBounds_toArray,List.set_cons_zero,List.set_cons_succ,i64_w,i32_w]
               rfl
              refine pure_ (i:=10) (N:=some 55) (v := ?_) (a' := ?_) #[true,true,true,true,true,true,true,true,true,true,true,false,false,false] rfl rfl (any_of HT_.out (by kernel_rfl)) (fun _ _ _ h=>h) (Or.inl ⟨by rfl, ?_⟩) ?_ ?_
              rotate_left
              ·
               intro w'
               go_simp
               with_reducible rfl
              rotate_left
              ·
               simp only [Act.put,List.setIfInBounds_toArray,List.set_cons_zero,List.set_cons_succ,i64_w,i32_w]
               rfl
              refine one_ (i:=11) (N:=some 15) #[true,true,true,true,true,true,true,true,true,true,true,true,false,false] rfl rfl (one_of HT_.out (by kernel_rfl)) (by decide) (fun K hK => ?_)
              refine box_step ?hg (N:=15) ?hd (cs := #[.int .u64 0, .int .u32 0, .slice none 0 0]) (t:=26) ?hr ?_;(case hd=>rfl);(case hg=>rfl);(case hr=>first|(go_simp;done)|(go_simp;rfl))
              intro gb709 hg w47 hbox hb
              have n0_:=zm (Kd.V_below (Kd.V_elderB (by (with_reducible repeat (first|apply zA|apply zB|apply zC));exact HO_690002.out) gb709 (Nat.le_of_eq hg.symm)) hb)
              have n1_:=zm (Kd.R_below (by (with_reducible repeat (first|apply zo|apply zp|apply zq));exact HO_698002.out) hb)
              have n2_:=zm (Kd.V_below (Kd.V_elderB (by (with_reducible repeat (first|apply zA|apply zB|apply zC));exact HO_701002.out) gb709 (Nat.le_of_eq hg.symm)) hb)
              have n3_:=zm (Kd.R_below (by (with_reducible repeat (first|apply zo|apply zp|apply zq));exact HO707.out) hb)
              have n4_:=zm (zF (g:=gb689) (o:=.cells #[.int .u64 a0_0, .int .u32 a0_1, .slice A0_2 l0_2.length c0_2] 26 (0,0)) (by (with_reducible repeat (first|refine zh ?_ _|refine zj ?_|refine zi ?_ _));exact BK689.out) hb)
              have n5_:=zm (zF (g:=gb690) (o:=.cells #[.int .u64 x691000_2, .int .u32 x691001_2, .slice none 0 0] 26 (0,0)) (by (with_reducible repeat (first|refine zh ?_ _|refine zj ?_|refine zi ?_ _));exact BK690.out) hb)
              have n6_:=zm (zF (g:=gb697) (o:=.cells #[.int .u64 t691, .int .u32 t692, .slice Ao16 t693.length co16] 26 (0,0)) (by (with_reducible repeat (first|refine zh ?_ _|refine zj ?_|refine zi ?_ _));exact BK697.out) hb)
              have n7_:=zm (zF (g:=gb700) (o:=.cells #[.int .u64 x701000_2, .int .u32 x701001_2, .slice Ao44 x701002_2.length co44] 26 (0,0)) (by (with_reducible repeat (first|refine zh ?_ _|refine zj ?_|refine zi ?_ _));exact BK700.out) hb)
              have n8_:=zm (zJ (by repeat (first|(with_reducible first|exact HB.out|apply ze|apply zd|apply zf|refine zk ?_ GE689.out|refine zk ?_ GE690.out|refine zk ?_ GE697.out|refine zk ?_ GE700.out)|exact HB.out)) hb)
              have n9_:=zm (hbox)
              have n10_:=zm ((by rw [hg];exact (zE (by repeat (first|(with_reducible first|exact HB.out|apply ze|apply zd|apply zf|refine zk ?_ GE689.out|refine zk ?_ GE690.out|refine zk ?_ GE697.out|refine zk ?_ GE700.out)|exact HB.out))) : w.heap.size≤gb709))
              have n11_:=zm ((by rw [hg];exact (zE (by repeat (first|(with_reducible first|exact HB.out|apply ze|apply zd|apply zf|refine zk ?_ GE689.out|refine zk ?_ GE690.out|refine zk ?_ GE697.out|refine zk ?_ GE700.out)|exact HB.out))) : w.heap.size≤gb709))
              have n12_:=zm ((by rw [hg];exact zn (zD (g:=gb689) (o:=.cells #[.int .u64 a0_0, .int .u32 a0_1, .slice A0_2 l0_2.length c0_2] 26 (0,0)) (by (with_reducible repeat (first|refine zh ?_ _|refine zj ?_|refine zi ?_ _));exact BK689.out)) : gb689≠gb709))
              have n13_:=zm ((by rw [hg];exact zg (zD (g:=gb689) (o:=.cells #[.int .u64 a0_0, .int .u32 a0_1, .slice A0_2 l0_2.length c0_2] 26 (0,0)) (by (with_reducible repeat (first|refine zh ?_ _|refine zj ?_|refine zi ?_ _));exact BK689.out)) : gb709≠gb689))
              have n14_:=zm ((by rw [hg];exact zn (zD (g:=gb690) (o:=.cells #[.int .u64 x691000_2, .int .u32 x691001_2, .slice none 0 0] 26 (0,0)) (by (with_reducible repeat (first|refine zh ?_ _|refine zj ?_|refine zi ?_ _));exact BK690.out)) : gb690≠gb709))
              have n15_:=zm ((by rw [hg];exact zg (zD (g:=gb690) (o:=.cells #[.int .u64 x691000_2, .int .u32 x691001_2, .slice none 0 0] 26 (0,0)) (by (with_reducible repeat (first|refine zh ?_ _|refine zj ?_|refine zi ?_ _));exact BK690.out)) : gb709≠gb690))
              have n16_:=zm ((by rw [hg];exact zn (zD (g:=gb697) (o:=.cells #[.int .u64 t691, .int .u32 t692, .slice Ao16 t693.length co16] 26 (0,0)) (by (with_reducible repeat (first|refine zh ?_ _|refine zj ?_|refine zi ?_ _));exact BK697.out)) : gb697≠gb709))
              have n17_:=zm ((by rw [hg];exact zg (zD (g:=gb697) (o:=.cells #[.int .u64 t691, .int .u32 t692, .slice Ao16 t693.length co16] 26 (0,0)) (by (with_reducible repeat (first|refine zh ?_ _|refine zj ?_|refine zi ?_ _));exact BK697.out)) : gb709≠gb697))
              have n18_:=zm ((by rw [hg];exact zn (zD (g:=gb700) (o:=.cells #[.int .u64 x701000_2, .int .u32 x701001_2, .slice Ao44 x701002_2.length co44] 26 (0,0)) (by (with_reducible repeat (first|refine zh ?_ _|refine zj ?_|refine zi ?_ _));exact BK700.out)) : gb700≠gb709))
              have n19_:=zm ((by rw [hg];exact zg (zD (g:=gb700) (o:=.cells #[.int .u64 x701000_2, .int .u32 x701001_2, .slice Ao44 x701002_2.length co44] 26 (0,0)) (by (with_reducible repeat (first|refine zh ?_ _|refine zj ?_|refine zi ?_ _));exact BK700.out)) : gb709≠gb700))
              clear HO_690002;clear HO_698002;clear HO_701002;clear HO707;clear BK689;clear BK690;clear BK697;clear BK700;clear HB;have HO_690002:=n0_;have HO_698002:=n1_;have HO_701002:=n2_;have HO707:=n3_;have BK689:=n4_;have BK690:=n5_;have BK697:=n6_;have BK700:=n7_;have HB:=n8_;have BK709:=n9_;have GW709:=n10_;have GE709:=n11_;have NB689_709:=n12_;have NB709_689:=n13_;have NB690_709:=n14_;have NB709_690:=n15_;have NB697_709:=n16_;have NB709_697:=n17_;have NB700_709:=n18_;have NB709_700:=n19_;clear n0_ n1_ n2_ n3_ n4_ n5_ n6_ n7_ n8_ n9_ n10_ n11_ n12_ n13_ n14_ n15_ n16_ n17_ n18_ n19_;clear hb hbox hg
              refine hK.out _ _ ⟨(zs BK700.out 0).trans rfl,(zs BK700.out 1).trans rfl,(zs BK700.out 2).trans rfl,((HB.out.cell (zb w _ hw702_0)).trans hw702_0)⟩ (fun hHeld => ?_)
              clear hK K
              refine norm_ (a' := ?_) ?_ ?_
              rotate_left
              ·
               show Act.put _ (some 15) _=_
               simp only [Act.put,List.setIfInBounds_toArray,List.set_cons_zero,List.set_cons_succ,i64_w,i32_w]
               rfl
              exact norm_ (by simp only [putAll,Act.put,List.setIfInBounds_toArray,List.set_cons_zero,List.set_cons_succ]) (hCont (v706,gb709) _ ⟨hHeld,(by (with_reducible repeat (first|apply zo|apply zp|apply zq));exact zG HO707.out (fun _ hk=>⟨hk.1.1,hk.2⟩)),(by (with_reducible repeat (first|apply zA|apply zB|apply zC));exact zy HO_690002.out (fun _ hk=>⟨hk.1.1.1,⟨hk.1.2,⟨hk.1.1.2.1,⟨hk.1.1.2.2.1,⟨hk.1.1.2.2.2.1,⟨hk.1.1.2.2.2.2.1,⟨hk.1.1.2.2.2.2.2,hk.2⟩⟩⟩⟩⟩⟩⟩)),(by (with_reducible repeat (first|apply zo|apply zp|apply zq));exact HO_698002.out),(by (with_reducible repeat (first|apply zA|apply zB|apply zC));exact zy HO_701002.out (fun _ hk=>⟨hk.1.1.1,⟨hk.1.2,⟨hk.1.1.2.1,⟨hk.1.1.2.2.1,⟨hk.1.1.2.2.2.1,⟨hk.1.1.2.2.2.2.1,⟨hk.1.1.2.2.2.2.2,hk.2⟩⟩⟩⟩⟩⟩⟩)),(by (with_reducible repeat (first|refine zh ?_ _|refine zj ?_|refine zi ?_ _));exact BK689.out),(by (with_reducible repeat (first|refine zh ?_ _|refine zj ?_|refine zi ?_ _));exact BK690.out),(by (with_reducible repeat (first|refine zh ?_ _|refine zj ?_|refine zi ?_ _));exact BK697.out),(by (with_reducible repeat (first|refine zh ?_ _|refine zj ?_|refine zi ?_ _));exact BK700.out),(by (with_reducible repeat (first|refine zh ?_ _|refine zj ?_|refine zi ?_ _));exact BK709.out),GW709.out,GE709.out,NB689_709.out,NB709_689.out,NB690_709.out,NB709_690.out,NB697_709.out,NB709_697.out,NB700_709.out,NB709_700.out,(by repeat (first|(with_reducible first|exact HB.out|apply ze|apply zd|apply zf|refine zk ?_ GE689.out|refine zk ?_ GE690.out|refine zk ?_ GE697.out|refine zk ?_ GE700.out|refine zk ?_ GE709.out)|exact HB.out))⟩)
             ·
              skip
              refine box_step ?hg (N:=15) ?hd (cs := #[.int .u64 0, .int .u32 0, .slice none 0 0]) (t:=26) ?hr ?_;(case hd=>rfl);(case hg=>rfl);(case hr=>first|(go_simp;done)|(go_simp;rfl))
              intro gb709 hg w46 hbox hb
              have n0_:=zm (Kd.V_below (Kd.V_elderB (by (with_reducible repeat (first|apply zA|apply zB|apply zC));exact HO_690002.out) gb709 (Nat.le_of_eq hg.symm)) hb)
              have n1_:=zm (Kd.R_below (by (with_reducible repeat (first|apply zo|apply zp|apply zq));exact HO_698002.out) hb)
              have n2_:=zm (Kd.V_below (Kd.V_elderB (by (with_reducible repeat (first|apply zA|apply zB|apply zC));exact HO_701002.out) gb709 (Nat.le_of_eq hg.symm)) hb)
              have n3_:=zm (zF (g:=gb689) (o:=.cells #[.int .u64 a0_0, .int .u32 a0_1, .slice A0_2 l0_2.length c0_2] 26 (0,0)) (by (with_reducible repeat (first|refine zh ?_ _|refine zj ?_|refine zi ?_ _));exact BK689.out) hb)
              have n4_:=zm (zF (g:=gb690) (o:=.cells #[.int .u64 x691000_2, .int .u32 x691001_2, .slice none 0 0] 26 (0,0)) (by (with_reducible repeat (first|refine zh ?_ _|refine zj ?_|refine zi ?_ _));exact BK690.out) hb)
              have n5_:=zm (zF (g:=gb697) (o:=.cells #[.int .u64 t691, .int .u32 t692, .slice Ao16 t693.length co16] 26 (0,0)) (by (with_reducible repeat (first|refine zh ?_ _|refine zj ?_|refine zi ?_ _));exact BK697.out) hb)
              have n6_:=zm (zF (g:=gb700) (o:=.cells #[.int .u64 x701000_2, .int .u32 x701001_2, .slice Ao44 x701002_2.length co44] 26 (0,0)) (by (with_reducible repeat (first|refine zh ?_ _|refine zj ?_|refine zi ?_ _));exact BK700.out) hb)
              have n7_:=zm (zJ (by repeat (first|(with_reducible first|exact HB.out|apply ze|apply zd|apply zf|refine zk ?_ GE689.out|refine zk ?_ GE690.out|refine zk ?_ GE697.out|refine zk ?_ GE700.out)|exact HB.out)) hb)
              have n8_:=zm (hbox)
              have n9_:=zm ((by rw [hg];exact (zE (by repeat (first|(with_reducible first|exact HB.out|apply ze|apply zd|apply zf|refine zk ?_ GE689.out|refine zk ?_ GE690.out|refine zk ?_ GE697.out|refine zk ?_ GE700.out)|exact HB.out))) : w.heap.size≤gb709))
              have n10_:=zm ((by rw [hg];exact (zE (by repeat (first|(with_reducible first|exact HB.out|apply ze|apply zd|apply zf|refine zk ?_ GE689.out|refine zk ?_ GE690.out|refine zk ?_ GE697.out|refine zk ?_ GE700.out)|exact HB.out))) : w.heap.size≤gb709))
              have n11_:=zm ((by rw [hg];exact zn (zD (g:=gb689) (o:=.cells #[.int .u64 a0_0, .int .u32 a0_1, .slice A0_2 l0_2.length c0_2] 26 (0,0)) (by (with_reducible repeat (first|refine zh ?_ _|refine zj ?_|refine zi ?_ _));exact BK689.out)) : gb689≠gb709))
              have n12_:=zm ((by rw [hg];exact zg (zD (g:=gb689) (o:=.cells #[.int .u64 a0_0, .int .u32 a0_1, .slice A0_2 l0_2.length c0_2] 26 (0,0)) (by (with_reducible repeat (first|refine zh ?_ _|refine zj ?_|refine zi ?_ _));exact BK689.out)) : gb709≠gb689))
              have n13_:=zm ((by rw [hg];exact zn (zD (g:=gb690) (o:=.cells #[.int .u64 x691000_2, .int .u32 x691001_2, .slice none 0 0] 26 (0,0)) (by (with_reducible repeat (first|refine zh ?_ _|refine zj ?_|refine zi ?_ _));exact BK690.out)) : gb690≠gb709))
              have n14_:=zm ((by rw [hg];exact zg (zD (g:=gb690) (o:=.cells #[.int .u64 x691000_2, .int .u32 x691001_2, .slice none 0 0] 26 (0,0)) (by (with_reducible repeat (first|refine zh ?_ _|refine zj ?_|refine zi ?_ _));exact BK690.out)) : gb709≠gb690))
              have n15_:=zm ((by rw [hg];exact zn (zD (g:=gb697) (o:=.cells #[.int .u64 t691, .int .u32 t692, .slice Ao16 t693.length co16] 26 (0,0)) (by (with_reducible repeat (first|refine zh ?_ _|refine zj ?_|refine zi ?_ _));exact BK697.out)) : gb697≠gb709))
              have n16_:=zm ((by rw [hg];exact zg (zD (g:=gb697) (o:=.cells #[.int .u64 t691, .int .u32 t692, .slice Ao16 t693.length co16] 26 (0,0)) (by (with_reducible repeat (first|refine zh ?_ _|refine zj ?_|refine zi ?_ _));exact BK697.out)) : gb709≠gb697))
              have n17_:=zm ((by rw [hg];exact zn (zD (g:=gb700) (o:=.cells #[.int .u64 x701000_2, .int .u32 x701001_2, .slice Ao44 x701002_2.length co44] 26 (0,0)) (by (with_reducible repeat (first|refine zh ?_ _|refine zj ?_|refine zi ?_ _));exact BK700.out)) : gb700≠gb709))
              have n18_:=zm ((by rw [hg];exact zg (zD (g:=gb700) (o:=.cells #[.int .u64 x701000_2, .int .u32 x701001_2, .slice Ao44 x701002_2.length co44] 26 (0,0)) (by (with_reducible repeat (first|refine zh ?_ _|refine zj ?_|refine zi ?_ _));exact BK700.out)) : gb709≠gb700))
              clear HO_690002;clear HO_698002;clear HO_701002;clear BK689;clear BK690;clear BK697;clear BK700;clear HB;have HO_690002:=n0_;have HO_698002:=n1_;have HO_701002:=n2_;have BK689:=n3_;have BK690:=n4_;have BK697:=n5_;have BK700:=n6_;have HB:=n7_;have BK709:=n8_;have GW709:=n9_;have GE709:=n10_;have NB689_709:=n11_;have NB709_689:=n12_;have NB690_709:=n13_;have NB709_690:=n14_;have NB697_709:=n15_;have NB709_697:=n16_;have NB700_709:=n17_;have NB709_700:=n18_;clear n0_ n1_ n2_ n3_ n4_ n5_ n6_ n7_ n8_ n9_ n10_ n11_ n12_ n13_ n14_ n15_ n16_ n17_ n18_;clear hb hbox hg
              refine hK.out _ _ ⟨(zs BK700.out 0).trans rfl,(zs BK700.out 1).trans rfl,(zs BK700.out 2).trans rfl,((HB.out.cell (zb w _ hw702_0)).trans hw702_0)⟩ (fun hHeld => ?_)
              clear hK K
              refine norm_ (a' := ?_) ?_ ?_
              rotate_left
              ·
               show Act.put _ (some 15) _=_
               simp only [Act.put,List.setIfInBounds_toArray,List.set_cons_zero,List.set_cons_succ,i64_w,i32_w]
               rfl
              refine one_ (i:=7) (N:=some 53) #[true,true,true,true,true,true,true,true,false,false,false,true,false,false] rfl rfl (one_of HT_.out (by kernel_rfl)) (by decide) (fun K hK => ?_)
              refine goes_ Try.func64 (by kernel_rfl) rfl #[.agg #[.int .u64 x701000_2, .int .u32 x701001_2, .slice Ao44 x701002_2.length co44], .int .i64 (rd l1 x36_2), .int .i64 x14_35, .bool a3] (by rfl) rfl rfl (by (try simp only [List.map_toArray,List.map_cons,List.map_nil]);first|done|rfl|(simp only [List.length_drop,List.length_take];rfl)) ?_
              with_reducible refine (gain_put.calls kj35 x701000_2 x701001_2 _ _ x701002_2 (rd l1 x36_2) x14_35 a3 t703 t704 t705 t708 _ ?side1 ?side2 A42.out).mono ?_
              (case side1=>repeat (first|exact (Kd.V_reads' HO_701002.out).2.2|(with_reducible refine Kd.C_alloc ?_ _)|(with_reducible refine Kd.C_drewN ?_ _)|(with_reducible refine Kd.C_drew ?_)))
              (case side2=>exact (Kd.V_reads' HO_701002.out).2.1)
              rintro e w47 ⟨v706,rfl,ho0,hb⟩
              refine ⟨_,rfl, ?_⟩
              have n0_:=zm (Kd.V_elder' (by (with_reducible repeat (first|apply zA|apply zB|apply zC));exact HO_690002.out) (Kd.R_base ho0) hb)
              have n1_:=zm (Kd.R_elder' (by (with_reducible repeat (first|apply zo|apply zp|apply zq));exact HO_698002.out) (Kd.R_base ho0) hb)
              have n2_:=zm (Kd.V_elder' (by (with_reducible repeat (first|apply zA|apply zB|apply zC));exact HO_701002.out) (Kd.R_base ho0) hb)
              have n3_:=zm (Kd.R_lower (Kd.R_new' (Kd.R_newM (M:=fun k_=>(w.heap.size≤k_)) ho0 (zE (by repeat (first|(with_reducible first|exact HB.out|apply ze|apply zd|apply zf|refine zk ?_ GE689.out|refine zk ?_ GE690.out|refine zk ?_ GE697.out|refine zk ?_ GE700.out|refine zk ?_ GE709.out)|exact HB.out))) (fun k_ h_=>h_)) (Kd.R_lt (by (with_reducible repeat (first|apply zo|apply zp|apply zq));exact HO_698002.out))) (zE (by repeat (first|(with_reducible first|exact HB.out|apply ze|apply zd|apply zf|refine zk ?_ GE689.out|refine zk ?_ GE690.out|refine zk ?_ GE697.out|refine zk ?_ GE700.out|refine zk ?_ GE709.out)|exact HB.out))))
              have n4_:=zm (zF (g:=gb689) (o:=.cells #[.int .u64 a0_0, .int .u32 a0_1, .slice A0_2 l0_2.length c0_2] 26 (0,0)) (by (with_reducible repeat (first|refine zh ?_ _|refine zj ?_|refine zi ?_ _));exact BK689.out) hb)
              have n5_:=zm (zF (g:=gb690) (o:=.cells #[.int .u64 x691000_2, .int .u32 x691001_2, .slice none 0 0] 26 (0,0)) (by (with_reducible repeat (first|refine zh ?_ _|refine zj ?_|refine zi ?_ _));exact BK690.out) hb)
              have n6_:=zm (zF (g:=gb697) (o:=.cells #[.int .u64 t691, .int .u32 t692, .slice Ao16 t693.length co16] 26 (0,0)) (by (with_reducible repeat (first|refine zh ?_ _|refine zj ?_|refine zi ?_ _));exact BK697.out) hb)
              have n7_:=zm (zF (g:=gb700) (o:=.cells #[.int .u64 x701000_2, .int .u32 x701001_2, .slice Ao44 x701002_2.length co44] 26 (0,0)) (by (with_reducible repeat (first|refine zh ?_ _|refine zj ?_|refine zi ?_ _));exact BK700.out) hb)
              have n8_:=zm (zF (g:=gb709) (o:=.cells #[.int .u64 0, .int .u32 0, .slice none 0 0] 26 (0,0)) (by (with_reducible repeat (first|refine zh ?_ _|refine zj ?_|refine zi ?_ _));exact BK709.out) hb)
              have n9_:=zm (zJ (by repeat (first|(with_reducible first|exact HB.out|apply ze|apply zd|apply zf|refine zk ?_ GE689.out|refine zk ?_ GE690.out|refine zk ?_ GE697.out|refine zk ?_ GE700.out|refine zk ?_ GE709.out)|exact HB.out)) hb)
              clear HO_690002;clear HO_698002;clear HO_701002;clear BK689;clear BK690;clear BK697;clear BK700;clear BK709;clear HB;have HO_690002:=n0_;have HO_698002:=n1_;have HO_701002:=n2_;have HO707:=n3_;have BK689:=n4_;have BK690:=n5_;have BK697:=n6_;have BK700:=n7_;have BK709:=n8_;have HB:=n9_;clear n0_ n1_ n2_ n3_ n4_ n5_ n6_ n7_ n8_ n9_
              (try clear hb)
              (try clear hb2)
              (try clear hk)
              (try clear hi)
              (try clear ho0)
              refine hK.out _ _ ⟨(zs BK700.out 0).trans rfl,(zs BK700.out 1).trans rfl,(zs BK700.out 2).trans rfl,((HB.out.cell (zb w _ hw702_0)).trans hw702_0)⟩ (fun hHeld => ?_)
              clear hK K
              refine norm_ (a' := ?_) ?_ ?_
              rotate_left
              ·
               show Act.put _ (some 53) _=_
               simp only [Act.put,List.setIfInBounds_toArray,List.set_cons_zero,List.set_cons_succ,i64_w,i32_w]
               rfl
              refine pure_ (i:=8) (N:=some 45) (v := ?_) (a' := ?_) #[true,true,true,true,true,true,true,true,true,false,false,true,false,false] rfl rfl (any_of HT_.out (by kernel_rfl)) (fun _ _ _ h=>h) (Or.inl ⟨by rfl, ?_⟩) ?_ ?_
              rotate_left
              ·
               intro w'
               go_simp
               with_reducible rfl
              rotate_left
              ·
               simp only [Act.put,List.setIfInBounds_toArray,List.set_cons_zero,List.set_cons_succ,i64_w,i32_w]
               rfl
              refine pure_ (i:=9) (N:=some 54) (v := ?_) (a' := ?_) #[true,true,true,true,true,true,true,true,true,true,false,true,false,false] rfl rfl (any_of HT_.out (by kernel_rfl)) (fun _ _ _ h=>h) (Or.inl ⟨by rfl, ?_⟩) ?_ ?_
              rotate_left
              ·
               intro w'
               go_simp
               with_reducible rfl
              rotate_left
              ·
               simp only [Act.put,List.setIfInBounds_toArray,List.set_cons_zero,List.set_cons_succ,i64_w,i32_w]
               rfl
              refine pure_ (i:=10) (N:=some 55) (v := ?_) (a' := ?_) #[true,true,true,true,true,true,true,true,true,true,true,true,false,false] rfl rfl (any_of HT_.out (by kernel_rfl)) (fun _ _ _ h=>h) (Or.inl ⟨by rfl, ?_⟩) ?_ ?_
              rotate_left
              ·
               intro w'
               go_simp
               with_reducible rfl
              rotate_left
              ·
               simp only [Act.put,List.setIfInBounds_toArray,List.set_cons_zero,List.set_cons_succ,i64_w,i32_w]
               rfl
              exact norm_ (by simp only [putAll,Act.put,List.setIfInBounds_toArray,List.set_cons_zero,List.set_cons_succ]) (hCont (v706,gb709) _ ⟨hHeld,(by (with_reducible repeat (first|apply zo|apply zp|apply zq));exact zG HO707.out (fun _ hk=>⟨hk.1.1,hk.2⟩)),(by (with_reducible repeat (first|apply zA|apply zB|apply zC));exact zy HO_690002.out (fun _ hk=>⟨hk.1.1.1,⟨hk.2,⟨hk.1.1.2.1,⟨hk.1.1.2.2.1,⟨hk.1.1.2.2.2.1,⟨hk.1.1.2.2.2.2.1,⟨hk.1.1.2.2.2.2.2,hk.1.2⟩⟩⟩⟩⟩⟩⟩)),(by (with_reducible repeat (first|apply zo|apply zp|apply zq));exact HO_698002.out),(by (with_reducible repeat (first|apply zA|apply zB|apply zC));exact zy HO_701002.out (fun _ hk=>⟨hk.1.1.1,⟨hk.2,⟨hk.1.1.2.1,⟨hk.1.1.2.2.1,⟨hk.1.1.2.2.2.1,⟨hk.1.1.2.2.2.2.1,⟨hk.1.1.2.2.2.2.2,hk.1.2⟩⟩⟩⟩⟩⟩⟩)),(by (with_reducible repeat (first|refine zh ?_ _|refine zj ?_|refine zi ?_ _));exact BK689.out),(by (with_reducible repeat (first|refine zh ?_ _|refine zj ?_|refine zi ?_ _));exact BK690.out),(by (with_reducible repeat (first|refine zh ?_ _|refine zj ?_|refine zi ?_ _));exact BK697.out),(by (with_reducible repeat (first|refine zh ?_ _|refine zj ?_|refine zi ?_ _));exact BK700.out),(by (with_reducible repeat (first|refine zh ?_ _|refine zj ?_|refine zi ?_ _));exact BK709.out),GW709.out,GE709.out,NB689_709.out,NB709_689.out,NB690_709.out,NB709_690.out,NB697_709.out,NB709_697.out,NB700_709.out,NB709_700.out,(by repeat (first|(with_reducible first|exact HB.out|apply ze|apply zd|apply zf|refine zk ?_ GE689.out|refine zk ?_ GE690.out|refine zk ?_ GE697.out|refine zk ?_ GE700.out|refine zk ?_ GE709.out)|exact HB.out))⟩)
            rintro ⟨v706,gb709⟩ w48 ⟨hS_,h0_,h1_,h2_,h3_,h4_,h5_,h6_,h7_,h8_,h9_,h10_,h11_,h12_,h13_,h14_,h15_,h16_,h17_,h18_,h19_⟩
            have n0_ : Aside0 (Kd.R (Kd.int .u8) 5 w48 w.heap.size (fun k_=>(w.heap.size≤k_)∧some k_≠(.slice Ao16 t693.length co16 : Value).ownBlock) v706 t705):=⟨h0_⟩
            have n1_ : Aside0 (Kd.V (Kd.int .u8) 5 w48 w.heap.size (fun k_=>(P0_2_ k_∨w.heap.size≤k_)∧some k_≠(v706 : Value).ownBlock∧some k_≠(.slice Ao16 t693.length co16 : Value).ownBlock∧k_≠gb689∧k_≠gb690∧k_≠gb697∧k_≠gb700∧k_≠gb709) (.slice A0_2 l0_2.length c0_2) l0_2):=⟨h1_⟩
            have n2_ : Aside0 (Kd.R (Kd.int .u8) 5 w48 w.heap.size (fun k_=>(w.heap.size≤k_)∧some k_≠(v706 : Value).ownBlock) (.slice Ao16 t693.length co16) t693):=⟨h2_⟩
            have n3_ : Aside0 (Kd.V (Kd.int .u8) 5 w48 w.heap.size (fun k_=>(P0_2_ k_∨w.heap.size≤k_)∧some k_≠(v706 : Value).ownBlock∧some k_≠(.slice Ao16 t693.length co16 : Value).ownBlock∧k_≠gb689∧k_≠gb690∧k_≠gb697∧k_≠gb700∧k_≠gb709) (.slice Ao44 x701002_2.length co44) x701002_2):=⟨h3_⟩
            have n4_ : Aside0 (w48.heap[gb689]? = some (.cells #[.int .u64 a0_0, .int .u32 a0_1, .slice A0_2 l0_2.length c0_2] 26 (0,0))):=⟨h4_⟩
            have n5_ : Aside0 (w48.heap[gb690]? = some (.cells #[.int .u64 x691000_2, .int .u32 x691001_2, .slice none 0 0] 26 (0,0))):=⟨h5_⟩
            have n6_ : Aside0 (w48.heap[gb697]? = some (.cells #[.int .u64 t691, .int .u32 t692, .slice Ao16 t693.length co16] 26 (0,0))):=⟨h6_⟩
            have n7_ : Aside0 (w48.heap[gb700]? = some (.cells #[.int .u64 x701000_2, .int .u32 x701001_2, .slice Ao44 x701002_2.length co44] 26 (0,0))):=⟨h7_⟩
            have n8_ : Aside0 (w48.heap[gb709]? = some (.cells #[.int .u64 0, .int .u32 0, .slice none 0 0] 26 (0,0))):=⟨h8_⟩
            have n9_ : Aside0 (w.heap.size≤gb709):=⟨h9_⟩
            have n10_ : Aside0 (w.heap.size≤gb709):=⟨h10_⟩
            have n11_ : Aside0 (gb689≠gb709):=⟨h11_⟩
            have n12_ : Aside0 (gb709≠gb689):=⟨h12_⟩
            have n13_ : Aside0 (gb690≠gb709):=⟨h13_⟩
            have n14_ : Aside0 (gb709≠gb690):=⟨h14_⟩
            have n15_ : Aside0 (gb697≠gb709):=⟨h15_⟩
            have n16_ : Aside0 (gb709≠gb697):=⟨h16_⟩
            have n17_ : Aside0 (gb700≠gb709):=⟨h17_⟩
            have n18_ : Aside0 (gb709≠gb700):=⟨h18_⟩
            have n19_ : Aside0 (Below w.heap.size w w48):=⟨h19_⟩
            clear HO_690002;clear HO_698002;clear HO_701002;clear BK689;clear BK690;clear BK697;clear BK700;clear HB;clear h0_ h1_ h2_ h3_ h4_ h5_ h6_ h7_ h8_ h9_ h10_ h11_ h12_ h13_ h14_ h15_ h16_ h17_ h18_ h19_;have HO707:=n0_;have HO_690002:=n1_;have HO_698002:=n2_;have HO_701002:=n3_;have BK689:=n4_;have BK690:=n5_;have BK697:=n6_;have BK700:=n7_;have BK709:=n8_;have GW709:=n9_;have GE709:=n10_;have NB689_709:=n11_;have NB709_689:=n12_;have NB690_709:=n13_;have NB709_690:=n14_;have NB697_709:=n15_;have NB709_697:=n16_;have NB700_709:=n17_;have NB709_700:=n18_;have HB:=n19_;clear n0_ n1_ n2_ n3_ n4_ n5_ n6_ n7_ n8_ n9_ n10_ n11_ n12_ n13_ n14_ n15_ n16_ n17_ n18_ n19_
            have hHeld : w48.cell? ⟨gb700,0,none⟩=some (.int .u64 x701000_2)∧w48.cell? ⟨gb700,1,none⟩=some (.int .u32 x701001_2)∧w48.cell? ⟨gb700,2,none⟩=some (.slice Ao44 x701002_2.length co44)∧w48.cell? (ad702.add (x36_2).toNat)=some (.int .i64 (rd l1 x36_2)):=hS_
            obtain ⟨Ao51,co51,eo51⟩:=Kd.R_slice HO707.out
            (first|subst eo51|(injection eo51 with f1_ f2_ f3_;have f4_:=f1_.symm;have f5_:=f3_.symm;clear f1_ f2_ f3_;subst f4_;subst f5_))
            refine norm_ (a' := ?_) ?_ ?_
            rotate_left
            ·
             simp only [putAll,Act.put,List.setIfInBounds_toArray,List.set_cons_zero,List.set_cons_succ]
             rfl
            refine one_ (i:=12) (N:=none) #[true,true,true,true,true,true,true,true,true,true,true,true,true,false] rfl rfl (one_of HT_.out (by kernel_rfl)) (by decide) (fun K hK => ?_)
            have hs49 : w48.cell? ⟨gb709,0,none⟩=some (.int .u64 0):=(zs BK709.out 0).trans rfl
            have hfs49:=zx BK709.out 0
            have hns49_0:=NB689_709.out;have hns49_1:=NB690_709.out;have hns49_2:=NB697_709.out;have hns49_3:=NB700_709.out;have hms49_0:=NB709_689.out;have hms49_1:=NB709_690.out;have hms49_2:=NB709_697.out;have hms49_3:=NB709_700.out
            have hs50 : w48.cell? ⟨gb709,1,none⟩=some (.int .u32 0):=(zs BK709.out 1).trans rfl
            have hfs50:=zx BK709.out 1
            have hns50_0:=NB689_709.out;have hns50_1:=NB690_709.out;have hns50_2:=NB697_709.out;have hns50_3:=NB700_709.out;have hms50_0:=NB709_689.out;have hms50_1:=NB709_690.out;have hms50_2:=NB709_697.out;have hms50_3:=NB709_700.out
            have hs52 : w48.cell? ⟨gb709,2,none⟩=some (.slice none 0 0):=(zs BK709.out 2).trans rfl
            have hfs52:=zx BK709.out 2
            have hns52_0:=NB689_709.out;have hns52_1:=NB690_709.out;have hns52_2:=NB697_709.out;have hns52_3:=NB700_709.out;have hms52_0:=NB709_689.out;have hms52_1:=NB709_690.out;have hms52_2:=NB709_697.out;have hms52_3:=NB709_700.out
            refine skip_ (w1 := ?_) (by rfl) rfl ?_ ?_
            rotate_left
            ·
             go_simp
             rfl
            refine hK.out _ _ ⟨((zr (p:=⟨gb709,_,none⟩) NB700_709.out _).trans (((zr (p:=⟨gb709,_,none⟩) NB700_709.out _).trans (((zr (p:=⟨gb709,_,none⟩) NB700_709.out _).trans (hHeld.1)))))),((zr (p:=⟨gb709,_,none⟩) NB700_709.out _).trans (((zr (p:=⟨gb709,_,none⟩) NB700_709.out _).trans (((zr (p:=⟨gb709,_,none⟩) NB700_709.out _).trans (hHeld.2.1)))))),((zr (p:=⟨gb709,_,none⟩) NB700_709.out _).trans (((zr (p:=⟨gb709,_,none⟩) NB700_709.out _).trans (((zr (p:=⟨gb709,_,none⟩) NB700_709.out _).trans (hHeld.2.2.1)))))),((zr (p:=⟨gb709,_,none⟩) (by first|exact zn (zl (by have:=zb _ _ hw702_0;first|rwa [za] at this|exact this) GW709.out)|(rw [za];exact zn (zl (by have:=zb _ _ hw702_0;first|rwa [za] at this|exact this) GW709.out))|(show (Addr.add _ _).block≠_;rw [za];exact zn (zl (by have:=zb _ _ hw702_0;first|rwa [za] at this|exact this) GW709.out))|(dsimp only;exact zn (zl (by have:=zb _ _ hw702_0;first|rwa [za] at this|exact this) GW709.out))) _).trans (((zr (p:=⟨gb709,_,none⟩) (by first|exact zn (zl (by have:=zb _ _ hw702_0;first|rwa [za] at this|exact this) GW709.out)|(rw [za];exact zn (zl (by have:=zb _ _ hw702_0;first|rwa [za] at this|exact this) GW709.out))|(show (Addr.add _ _).block≠_;rw [za];exact zn (zl (by have:=zb _ _ hw702_0;first|rwa [za] at this|exact this) GW709.out))|(dsimp only;exact zn (zl (by have:=zb _ _ hw702_0;first|rwa [za] at this|exact this) GW709.out))) _).trans (((zr (p:=⟨gb709,_,none⟩) (by first|exact zn (zl (by have:=zb _ _ hw702_0;first|rwa [za] at this|exact this) GW709.out)|(rw [za];exact zn (zl (by have:=zb _ _ hw702_0;first|rwa [za] at this|exact this) GW709.out))|(show (Addr.add _ _).block≠_;rw [za];exact zn (zl (by have:=zb _ _ hw702_0;first|rwa [za] at this|exact this) GW709.out))|(dsimp only;exact zn (zl (by have:=zb _ _ hw702_0;first|rwa [za] at this|exact this) GW709.out))) _).trans (hHeld.2.2.2))))))⟩ (fun hHeld => ?_)
            clear hK K
            refine pure_ (i:=13) (N:=some 16) (v := ?_) (a' := ?_) #[true,true,true,true,true,true,true,true,true,true,true,true,true,true] rfl rfl (any_of HT_.out (by kernel_rfl)) (fun _ _ _ h=>h) (Or.inl ⟨by rfl, ?_⟩) ?_ ?_
            rotate_left
            ·
             intro w'
             go_simp
             with_reducible rfl
            rotate_left
            ·
             simp only [Act.put,List.setIfInBounds_toArray,List.set_cons_zero,List.set_cons_succ,i64_w,i32_w]
             rfl
            refine done_ (done_of HT_.out (by kernel_rfl)) ?_
            have hnb53:=NB709_689.out;have hnc53:=NB689_709.out;have hnb54:=NB709_690.out;have hnc54:=NB690_709.out;have hnb55:=NB709_697.out;have hnc55:=NB697_709.out;have hnb56:=NB709_700.out;have hnc56:=NB700_709.out
            have hcz57_0 : w48.cell? ⟨gb709,0,none⟩=some (.int .u64 0):=(zs BK709.out 0).trans rfl
            have hcz57_1 : w48.cell? ⟨gb709,1,none⟩=some (.int .u32 0):=(zs BK709.out 1).trans rfl
            have hcz57_2 : w48.cell? ⟨gb709,2,none⟩=some (.slice none 0 0):=(zs BK709.out 2).trans rfl
            have hfz57_0:=zx BK709.out 0
            have hfz57_1:=zx BK709.out 1
            have hfz57_2:=zx BK709.out 2
            have hnb58:=NB700_689.out;have hnc58:=NB689_700.out;have hnb59:=NB700_690.out;have hnc59:=NB690_700.out;have hnb60:=NB700_697.out;have hnc60:=NB697_700.out
            have hcz61_0 : w48.cell? ⟨gb700,0,none⟩=some (.int .u64 x701000_2):=(zs BK700.out 0).trans rfl
            have hcz61_1 : w48.cell? ⟨gb700,1,none⟩=some (.int .u32 x701001_2):=(zs BK700.out 1).trans rfl
            have hcz61_2 : w48.cell? ⟨gb700,2,none⟩=some (.slice Ao44 x701002_2.length co44):=(zs BK700.out 2).trans rfl
            have hfz61_0:=zx BK700.out 0
            have hfz61_1:=zx BK700.out 1
            have hfz61_2:=zx BK700.out 2
            try go_wp2
            go_roundg kj35
            case measure=>have:=HJ5.out;have:=HK2.out;have:=HJ35.out;omega
            case rel=>exact ⟨(wrap64 (x36_2+1)),(x691000_2),(x691001_2),(t703),(t704),(t705),(.slice Ao51 t705.length co51),(by first|rfl|(simp;done)|(simp [*];done)),H',⟨by have:=HJ5.out;have:=HK2.out;have:=HJ35.out;omega⟩,⟨by (with_reducible repeat (first|apply zA|apply zB|apply zC));exact zy (zI (p:=⟨gb700,2,none⟩) (zI (p:=⟨gb700,1,none⟩) (zI (p:=⟨gb700,0,none⟩) (zI (p:=⟨gb709,2,none⟩) (zI (p:=⟨gb709,1,none⟩) (zI (p:=⟨gb709,0,none⟩) (zy (zy HO_690002.out (fun k_ hk=>(⟨hk,hk.2.2.2.2.2.2.2⟩ : _∧k_≠gb709))) (fun k_ hk=>(⟨hk,hk.1.2.2.2.2.2.2.1⟩ : _∧k_≠gb700))) (fun _ hk=>hk.1.2) (.int .u64 t703)) (fun _ hk=>hk.1.2) (.int .u32 t704)) (fun _ hk=>hk.1.2) (.slice Ao51 t705.length co51)) (fun _ hk=>hk.2) (.int .u64 t703)) (fun _ hk=>hk.2) (.int .u32 t704)) (fun _ hk=>hk.2) (.slice Ao51 t705.length co51)) (fun _ hk=>⟨hk.1.1.1,⟨hk.1.1.2.2.1,⟨hk.1.1.2.2.2.1,⟨hk.1.1.2.2.2.2.1,⟨hk.1.1.2.2.2.2.2.1,hk.1.1.2.2.2.2.2.2.1⟩⟩⟩⟩⟩)⟩,⟨by (with_reducible repeat (first|apply zo|apply zp|apply zq));exact zG (zH (p:=⟨gb700,2,none⟩) (zH (p:=⟨gb700,1,none⟩) (zH (p:=⟨gb700,0,none⟩) (zH (p:=⟨gb709,2,none⟩) (zH (p:=⟨gb709,1,none⟩) (zH (p:=⟨gb709,0,none⟩) (Kd.R_types (Kd.R_types HO_698002.out BK709.out (by decide)) BK700.out (by decide)) (fun _ hk=>hk.1.2) (.int .u64 t703)) (fun _ hk=>hk.1.2) (.int .u32 t704)) (fun _ hk=>hk.1.2) (.slice Ao51 t705.length co51)) (fun _ hk=>hk.2) (.int .u64 t703)) (fun _ hk=>hk.2) (.int .u32 t704)) (fun _ hk=>hk.2) (.slice Ao51 t705.length co51)) (fun _ hk=>hk.1.1.1)⟩,⟨zy (Kd.R_V (ok:=fun k_=>w.heap.size≤k_∧some k_≠((.slice Ao16 t693.length co16) : Value).ownBlock∧k_≠gb689∧k_≠gb690∧k_≠gb697∧k_≠gb700) (by (with_reducible repeat (first|apply zo|apply zp|apply zq));exact zG (zH (p:=⟨gb700,2,none⟩) (zH (p:=⟨gb700,1,none⟩) (zH (p:=⟨gb700,0,none⟩) (zH (p:=⟨gb709,2,none⟩) (zH (p:=⟨gb709,1,none⟩) (zH (p:=⟨gb709,0,none⟩) (Kd.R_types (Kd.R_types (Kd.R_types (Kd.R_types (Kd.R_types (Kd.R_types HO707.out BK689.out (by decide)) BK690.out (by decide)) BK697.out (by decide)) BK700.out (by decide)) BK709.out (by decide)) BK700.out (by decide)) (fun _ hk=>hk.1.2) (.int .u64 t703)) (fun _ hk=>hk.1.2) (.int .u32 t704)) (fun _ hk=>hk.1.2) (.slice Ao51 t705.length co51)) (fun _ hk=>hk.2) (.int .u64 t703)) (fun _ hk=>hk.2) (.int .u32 t704)) (fun _ hk=>hk.2) (.slice Ao51 t705.length co51)) (fun _ hk=>⟨hk.1.1.1.1.1.1.1,⟨hk.1.1.1.1.1.1.2,⟨hk.1.1.1.1.1.2,⟨hk.1.1.1.1.2,⟨hk.1.1.1.2,hk.1.1.2⟩⟩⟩⟩⟩))) (fun k_ hk=>by first|exact ⟨(.inr (hk.1)),hk.2⟩|exact (.inr (hk)))⟩,⟨by (with_reducible repeat (first|refine zh ?_ _|refine zj ?_|refine zi ?_ _|refine zv ?_ NB689_700.out _|refine zv ?_ NB689_709.out _));exact BK689.out⟩,⟨by (with_reducible repeat (first|refine zh ?_ _|refine zj ?_|refine zi ?_ _|refine zv ?_ NB690_700.out _|refine zv ?_ NB690_709.out _));exact BK690.out⟩,⟨by (with_reducible repeat (first|refine zh ?_ _|refine zj ?_|refine zi ?_ _|refine zv ?_ NB697_700.out _|refine zv ?_ NB697_709.out _));exact BK697.out⟩,⟨by (with_reducible repeat (first|refine zh ?_ _|refine zj ?_|refine zi ?_ _));refine zw (cs := #[.int .u64 t703, .int .u32 t704, .slice Ao44 x701002_2.length co44]) ?_ 2 _ rfl;(with_reducible repeat (first|refine zh ?_ _|refine zj ?_|refine zi ?_ _));refine zw (cs := #[.int .u64 t703, .int .u32 x701001_2, .slice Ao44 x701002_2.length co44]) ?_ 1 _ rfl;(with_reducible repeat (first|refine zh ?_ _|refine zj ?_|refine zi ?_ _));refine zw (cs := #[.int .u64 x701000_2, .int .u32 x701001_2, .slice Ao44 x701002_2.length co44]) ?_ 0 _ rfl;(with_reducible repeat (first|refine zh ?_ _|refine zj ?_|refine zi ?_ _|refine zv ?_ NB700_709.out _));exact BK700.out⟩,⟨by repeat (first|(with_reducible first|exact HB.out|apply ze|apply zd|apply zf|refine zk ?_ GE689.out|refine zk ?_ GE690.out|refine zk ?_ GE697.out|refine zk ?_ GE700.out|refine zk ?_ GE709.out)|exact HB.out)⟩⟩
           ·
            rw [if_neg c43] at H
            have c43b0 : (t708 == 0)=false:=beq_eq_false_iff_ne.mpr c43
            have c43b1 : (t708 != 0)=true:=bne_iff_ne.mpr c43
            simp only [Option.some.injEq,Prod.mk.injEq] at H
            obtain ⟨rfl,rfl,rfl,rfl⟩:=H
            obtain ⟨Ao62,co62,eo62⟩:=Kd.V_slice HO_701002.out
            subst eo62
            try go_wp2
            have n0_:=zm (zC HO_690002.out);have n1_:=zm (zq HO_698002.out);have n2_:=zm (zC HO_701002.out);have n3_:=zm (zj BK689.out);have n4_:=zm (zj BK690.out);have n5_:=zm (zj BK697.out);have n6_:=zm (zj BK700.out);have n7_:=zm (zf HB.out);clear HO_690002;clear HO_698002;clear HO_701002;clear BK689;clear BK690;clear BK697;clear BK700;clear HB;have HO_690002:=n0_;have HO_698002:=n1_;have HO_701002:=n2_;have BK689:=n3_;have BK690:=n4_;have BK697:=n5_;have BK700:=n6_;have HB:=n7_;clear n0_ n1_ n2_ n3_ n4_ n5_ n6_ n7_
            have p702 : 0≤(x36_2 : Int):=of_decide_eq_true (by first|(with_reducible assumption)|assumption)
            have q702 : x36_2 < (l1.length : Int):=of_decide_eq_true (by first|(with_reducible assumption)|assumption)
            obtain ⟨ad702,e702,hx702_0⟩:=Kd.at_int HR1.out x36_2 p702 q702
            have hw702_0:=hx702_0
            cases e702
            replace hx702_0:=(HB.out.cell (zb w _ hx702_0)).trans hx702_0
            replace p702:=eq_true p702
            replace q702:=eq_true q702
            refine start_ (n:=14) (S:=fun w' => w'.cell? ⟨gb700,0,none⟩=some (.int .u64 x701000_2)∧w'.cell? ⟨gb700,1,none⟩=some (.int .u32 x701001_2)∧w'.cell? ⟨gb700,2,none⟩=some (.slice Ao62 x701002_2.length co62)∧w'.cell? (ad702.add (x36_2).toNat)=some (.int .i64 (rd l1 x36_2))) (ds := []) #[false,false,false,false,false,false,false,false,false,false,false,false,false,false] (by kernel_rfl) rfl rfl ⟨(zs BK700.out 0).trans rfl,(zs BK700.out 1).trans rfl,(zs BK700.out 2).trans rfl,((HB.out.cell (zb w _ hw702_0)).trans hw702_0)⟩ (fun hHeld => ?_);refine with_tabW gain_Put.tab11 gain_Put.bits11 (fun HT_ HW_ => ?_)
            generalize wc.drew=w63 at HO_690002 HO_698002 HO_701002 BK689 BK690 BK697 BK700 HB hx702_0 hHeld ⊢
            refine pure_ (i:=1) (N:=some 47) (v := ?_) (a' := ?_) #[false,true,false,false,false,false,false,false,false,false,false,false,false,false] rfl rfl (any_of HT_.out (by kernel_rfl)) (fun _ _ _ h=>h) (Or.inl ⟨by rfl, ?_⟩) ?_ ?_
            rotate_left
            ·
             intro w'
             go_simp
             with_reducible rfl
            rotate_left
            ·
             simp only [Act.put,List.setIfInBounds_toArray,List.set_cons_zero,List.set_cons_succ,i64_w,i32_w]
             rfl
            refine pure_ (i:=2) (N:=some 48) (v := ?_) (a' := ?_) #[false,true,true,false,false,false,false,false,false,false,false,false,false,false] rfl rfl (any_of HT_.out (by kernel_rfl)) (fun _ _ _ h=>h) (Or.inl ⟨by rfl, ?_⟩) ?_ ?_
            rotate_left
            ·
             intro w'
             go_simp
             with_reducible rfl
            rotate_left
            ·
             simp only [Act.put,List.setIfInBounds_toArray,List.set_cons_zero,List.set_cons_succ,i64_w,i32_w]
             rfl
            refine pure_ (i:=3) (N:=some 49) (v := ?_) (a' := ?_) #[false,true,true,true,false,false,false,false,false,false,false,false,false,false] rfl rfl (any_of HT_.out (by kernel_rfl)) (fun _ _ _ h=>h) (Or.inl ⟨by rfl, ?_⟩) ?_ ?_
            rotate_left
            ·
             intro w'
             go_simp
             with_reducible rfl
            rotate_left
            ·
             simp only [Act.put,List.setIfInBounds_toArray,List.set_cons_zero,List.set_cons_succ,i64_w,i32_w]
             rfl
            refine pure_ (i:=5) (N:=some 51) (v := ?_) (a' := ?_) #[false,true,true,true,false,true,false,false,false,false,false,false,false,false] rfl rfl (any_of HT_.out (by kernel_rfl)) (fun _ _ _ h=>h) (Or.inl ⟨by rfl, ?_⟩) ?_ ?_
            rotate_left
            ·
             intro w'
             go_simp
             with_reducible rfl
            rotate_left
            ·
             simp only [Act.put,List.setIfInBounds_toArray,List.set_cons_zero,List.set_cons_succ,i64_w,i32_w]
             rfl
            refine pure_ (i:=6) (N:=some 52) (v := ?_) (a' := ?_) #[false,true,true,true,false,true,true,false,false,false,false,false,false,false] rfl rfl (any_of HT_.out (by kernel_rfl)) (fun _ _ _ h=>h) (Or.inl ⟨by rfl, ?_⟩) ?_ ?_
            rotate_left
            ·
             intro w'
             go_simp
             with_reducible rfl
            rotate_left
            ·
             simp only [Act.put,List.setIfInBounds_toArray,List.set_cons_zero,List.set_cons_succ,i64_w,i32_w]
             rfl
            refine take_ (i:=0) (N:=some 46) (v := ?_) (a' := ?_) #[true,true,true,true,false,true,true,false,false,false,false,false,false,false] rfl rfl (take_ofW HT_.out HW_.out (by kernel_rfl)) (fun _ _ _ h=>h) (Or.inl ⟨by rfl, ?_⟩) hHeld ?_ ?_
            rotate_left
            ·
             rintro w' ⟨s0,s1,s2,s3⟩
             go_simp
             with_reducible rfl
            rotate_left
            ·
             simp only [Act.put,List.setIfInBounds_toArray,List.set_cons_zero,List.set_cons_succ,i64_w,i32_w]
             rfl
            refine take_ (i:=4) (N:=some 50) (v := ?_) (a' := ?_) #[true,true,true,true,true,true,true,false,false,false,false,false,false,false] rfl rfl (take_ofW HT_.out HW_.out (by kernel_rfl)) (fun _ _ _ h=>h) (Or.inl ⟨by rfl, ?_⟩) hHeld ?_ ?_
            rotate_left
            ·
             rintro w' ⟨s0,s1,s2,s3⟩
             go_simp
             with_reducible rfl
            rotate_left
            ·
             simp only [Act.put,List.setIfInBounds_toArray,List.set_cons_zero,List.set_cons_succ,i64_w,i32_w]
             rfl
            refine join_ (σ:=Value × Nat) 2 #[true,true,true,true,true,true,true,true,true,true,true,true,false,false] (fun s_ => [(53, .tuple #[.agg #[.int .u64 t703, .int .u32 t704,s_.1], .int .i64 t708]),(15, .pointer (some ⟨s_.2,0,none⟩)),(45, .tuple #[.agg #[.int .u64 t703, .int .u32 t704,s_.1], .int .i64 t708]),(54, .agg #[.int .u64 t703, .int .u32 t704,s_.1]),(55, .int .i64 t708)]) (fun s_ w' => (w'.cell? ⟨gb700,0,none⟩=some (.int .u64 x701000_2)∧w'.cell? ⟨gb700,1,none⟩=some (.int .u32 x701001_2)∧w'.cell? ⟨gb700,2,none⟩=some (.slice Ao62 x701002_2.length co62)∧w'.cell? (ad702.add (x36_2).toNat)=some (.int .i64 (rd l1 x36_2)))∧(Kd.R (Kd.int .u8) 5 w' w.heap.size (fun k_=>(w.heap.size≤k_)∧some k_≠(.slice Ao16 t693.length co16 : Value).ownBlock) s_.1 t705)∧(Kd.V (Kd.int .u8) 5 w' w.heap.size (fun k_=>(P0_2_ k_∨w.heap.size≤k_)∧some k_≠(s_.1 : Value).ownBlock∧some k_≠(.slice Ao16 t693.length co16 : Value).ownBlock∧k_≠gb689∧k_≠gb690∧k_≠gb697∧k_≠gb700∧k_≠s_.2) (.slice A0_2 l0_2.length c0_2) l0_2)∧(Kd.R (Kd.int .u8) 5 w' w.heap.size (fun k_=>(w.heap.size≤k_)∧some k_≠(s_.1 : Value).ownBlock) (.slice Ao16 t693.length co16) t693)∧(Kd.V (Kd.int .u8) 5 w' w.heap.size (fun k_=>(P0_2_ k_∨w.heap.size≤k_)∧some k_≠(s_.1 : Value).ownBlock∧some k_≠(.slice Ao16 t693.length co16 : Value).ownBlock∧k_≠gb689∧k_≠gb690∧k_≠gb697∧k_≠gb700∧k_≠s_.2) (.slice Ao62 x701002_2.length co62) x701002_2)∧(w'.heap[gb689]? = some (.cells #[.int .u64 a0_0, .int .u32 a0_1, .slice A0_2 l0_2.length c0_2] 26 (0,0)))∧(w'.heap[gb690]? = some (.cells #[.int .u64 x691000_2, .int .u32 x691001_2, .slice none 0 0] 26 (0,0)))∧(w'.heap[gb697]? = some (.cells #[.int .u64 t691, .int .u32 t692, .slice Ao16 t693.length co16] 26 (0,0)))∧(w'.heap[gb700]? = some (.cells #[.int .u64 x701000_2, .int .u32 x701001_2, .slice Ao62 x701002_2.length co62] 26 (0,0)))∧(w'.heap[s_.2]? = some (.cells #[.int .u64 0, .int .u32 0, .slice none 0 0] 26 (0,0)))∧(w.heap.size≤s_.2)∧(w.heap.size≤s_.2)∧(gb689≠s_.2)∧(s_.2≠gb689)∧(gb690≠s_.2)∧(s_.2≠gb690)∧(gb697≠s_.2)∧(s_.2≠gb697)∧(gb700≠s_.2)∧(s_.2≠gb700)∧(Below w.heap.size w w')) ?_ ?_
            rotate_left
            ·
             intro hCont
             refine two_ (i:=7) (j:=11) (Ni:=some 53) (Nj:=some 15) #[true,true,true,true,true,true,true,true,false,false,false,false,false,false] #[true,true,true,true,true,true,true,false,false,false,false,true,false,false] rfl rfl rfl rfl (two_of HT_.out (by kernel_rfl)) (by decide) (by decide) (fun K hK => ?_) (fun K hK => ?_)
             ·
              skip
              refine goes_ Try.func64 (by kernel_rfl) rfl #[.agg #[.int .u64 x701000_2, .int .u32 x701001_2, .slice Ao62 x701002_2.length co62], .int .i64 (rd l1 x36_2), .int .i64 x14_35, .bool a3] (by rfl) rfl rfl (by (try simp only [List.map_toArray,List.map_cons,List.map_nil]);first|done|rfl|(simp only [List.length_drop,List.length_take];rfl)) ?_
              with_reducible refine (gain_put.calls kj35 x701000_2 x701001_2 _ _ x701002_2 (rd l1 x36_2) x14_35 a3 t703 t704 t705 t708 _ ?side1 ?side2 A42.out).mono ?_
              (case side1=>repeat (first|exact (Kd.V_reads' HO_701002.out).2.2|(with_reducible refine Kd.C_alloc ?_ _)|(with_reducible refine Kd.C_drewN ?_ _)|(with_reducible refine Kd.C_drew ?_)))
              (case side2=>exact (Kd.V_reads' HO_701002.out).2.1)
              rintro e w64 ⟨v706,rfl,ho0,hb⟩
              refine ⟨_,rfl, ?_⟩
              have n0_:=zm (Kd.V_elder' (by (with_reducible repeat (first|apply zA|apply zB|apply zC));exact HO_690002.out) (Kd.R_base ho0) hb)
              have n1_:=zm (Kd.R_elder' (by (with_reducible repeat (first|apply zo|apply zp|apply zq));exact HO_698002.out) (Kd.R_base ho0) hb)
              have n2_:=zm (Kd.V_elder' (by (with_reducible repeat (first|apply zA|apply zB|apply zC));exact HO_701002.out) (Kd.R_base ho0) hb)
              have n3_:=zm (Kd.R_lower (Kd.R_new' (Kd.R_newM (M:=fun k_=>(w.heap.size≤k_)) ho0 (zE (by repeat (first|(with_reducible first|exact HB.out|apply ze|apply zd|apply zf|refine zk ?_ GE689.out|refine zk ?_ GE690.out|refine zk ?_ GE697.out|refine zk ?_ GE700.out)|exact HB.out))) (fun k_ h_=>h_)) (Kd.R_lt (by (with_reducible repeat (first|apply zo|apply zp|apply zq));exact HO_698002.out))) (zE (by repeat (first|(with_reducible first|exact HB.out|apply ze|apply zd|apply zf|refine zk ?_ GE689.out|refine zk ?_ GE690.out|refine zk ?_ GE697.out|refine zk ?_ GE700.out)|exact HB.out))))
              have n4_:=zm (zF (g:=gb689) (o:=.cells #[.int .u64 a0_0, .int .u32 a0_1, .slice A0_2 l0_2.length c0_2] 26 (0,0)) (by (with_reducible repeat (first|refine zh ?_ _|refine zj ?_|refine zi ?_ _));exact BK689.out) hb)
              have n5_:=zm (zF (g:=gb690) (o:=.cells #[.int .u64 x691000_2, .int .u32 x691001_2, .slice none 0 0] 26 (0,0)) (by (with_reducible repeat (first|refine zh ?_ _|refine zj ?_|refine zi ?_ _));exact BK690.out) hb)
              have n6_:=zm (zF (g:=gb697) (o:=.cells #[.int .u64 t691, .int .u32 t692, .slice Ao16 t693.length co16] 26 (0,0)) (by (with_reducible repeat (first|refine zh ?_ _|refine zj ?_|refine zi ?_ _));exact BK697.out) hb)
              have n7_:=zm (zF (g:=gb700) (o:=.cells #[.int .u64 x701000_2, .int .u32 x701001_2, .slice Ao62 x701002_2.length co62] 26 (0,0)) (by (with_reducible repeat (first|refine zh ?_ _|refine zj ?_|refine zi ?_ _));exact BK700.out) hb)
              have n8_:=zm (zJ (by repeat (first|(with_reducible first|exact HB.out|apply ze|apply zd|apply zf|refine zk ?_ GE689.out|refine zk ?_ GE690.out|refine zk ?_ GE697.out|refine zk ?_ GE700.out)|exact HB.out)) hb)
              clear HO_690002;clear HO_698002;clear HO_701002;clear BK689;clear BK690;clear BK697;clear BK700;clear HB;have HO_690002:=n0_;have HO_698002:=n1_;have HO_701002:=n2_;have HO707:=n3_;have BK689:=n4_;have BK690:=n5_;have BK697:=n6_;have BK700:=n7_;have HB:=n8_;clear n0_ n1_ n2_ n3_ n4_ n5_ n6_ n7_ n8_
              (try clear hb)
              (try clear hb2)
              (try clear hk)
              (try clear hi)
              (try clear ho0)
              refine hK.out _ _ ⟨(zs BK700.out 0).trans rfl,(zs BK700.out 1).trans rfl,(zs BK700.out 2).trans rfl,((HB.out.cell (zb w _ hw702_0)).trans hw702_0)⟩ (fun hHeld => ?_)
              clear hK K
              refine norm_ (a' := ?_) ?_ ?_
              rotate_left
              ·
               show Act.put _ (some 53) _=_
               simp only [Act.put,List.setIfInBounds_toArray,List.set_cons_zero,List.set_cons_succ,i64_w,i32_w]
               rfl
              refine pure_ (i:=8) (N:=some 45) (v := ?_) (a' := ?_) #[true,true,true,true,true,true,true,true,true,false,false,false,false,false] rfl rfl (any_of HT_.out (by kernel_rfl)) (fun _ _ _ h=>h) (Or.inl ⟨by rfl, ?_⟩) ?_ ?_
              rotate_left
              ·
               intro w'
               go_simp
               with_reducible rfl
              rotate_left
              ·
               simp only [Act.put,List.setIfInBounds_toArray,List.set_cons_zero,List.set_cons_succ,i64_w,i32_w]
               rfl
              refine pure_ (i:=9) (N:=some 54) (v := ?_) (a' := ?_) #[true,true,true,true,true,true,true,true,true,true,false,false,false,false] rfl rfl (any_of HT_.out (by kernel_rfl)) (fun _ _ _ h=>h) (Or.inl ⟨by rfl, ?_⟩) ?_ ?_
              rotate_left
              ·
               intro w'
               go_simp
               with_reducible rfl
              rotate_left
              ·
               simp only [Act.put,List.setIfInBounds_toArray,List.set_cons_zero,List.set_cons_succ,i64_w,i32_w]
               rfl
              refine pure_ (i:=10) (N:=some 55) (v := ?_) (a' := ?_) #[true,true,true,true,true,true,true,true,true,true,true,false,false,false] rfl rfl (any_of HT_.out (by kernel_rfl)) (fun _ _ _ h=>h) (Or.inl ⟨by rfl, ?_⟩) ?_ ?_
              rotate_left
              ·
               intro w'
               go_simp
               with_reducible rfl
              rotate_left
              ·
               simp only [Act.put,List.setIfInBounds_toArray,List.set_cons_zero,List.set_cons_succ,i64_w,i32_w]
               rfl
              refine one_ (i:=11) (N:=some 15) #[true,true,true,true,true,true,true,true,true,true,true,true,false,false] rfl rfl (one_of HT_.out (by kernel_rfl)) (by decide) (fun K hK => ?_)
              refine box_step ?hg (N:=15) ?hd (cs := #[.int .u64 0, .int .u32 0, .slice none 0 0]) (t:=26) ?hr ?_;(case hd=>rfl);(case hg=>rfl);(case hr=>first|(go_simp;done)|(go_simp;rfl))
              intro gb709 hg w65 hbox hb
              have n0_:=zm (Kd.V_below (Kd.V_elderB (by (with_reducible repeat (first|apply zA|apply zB|apply zC));exact HO_690002.out) gb709 (Nat.le_of_eq hg.symm)) hb)
              have n1_:=zm (Kd.R_below (by (with_reducible repeat (first|apply zo|apply zp|apply zq));exact HO_698002.out) hb)
              have n2_:=zm (Kd.V_below (Kd.V_elderB (by (with_reducible repeat (first|apply zA|apply zB|apply zC));exact HO_701002.out) gb709 (Nat.le_of_eq hg.symm)) hb)
              have n3_:=zm (Kd.R_below (by (with_reducible repeat (first|apply zo|apply zp|apply zq));exact HO707.out) hb)
              have n4_:=zm (zF (g:=gb689) (o:=.cells #[.int .u64 a0_0, .int .u32 a0_1, .slice A0_2 l0_2.length c0_2] 26 (0,0)) (by (with_reducible repeat (first|refine zh ?_ _|refine zj ?_|refine zi ?_ _));exact BK689.out) hb)
              have n5_:=zm (zF (g:=gb690) (o:=.cells #[.int .u64 x691000_2, .int .u32 x691001_2, .slice none 0 0] 26 (0,0)) (by (with_reducible repeat (first|refine zh ?_ _|refine zj ?_|refine zi ?_ _));exact BK690.out) hb)
              have n6_:=zm (zF (g:=gb697) (o:=.cells #[.int .u64 t691, .int .u32 t692, .slice Ao16 t693.length co16] 26 (0,0)) (by (with_reducible repeat (first|refine zh ?_ _|refine zj ?_|refine zi ?_ _));exact BK697.out) hb)
              have n7_:=zm (zF (g:=gb700) (o:=.cells #[.int .u64 x701000_2, .int .u32 x701001_2, .slice Ao62 x701002_2.length co62] 26 (0,0)) (by (with_reducible repeat (first|refine zh ?_ _|refine zj ?_|refine zi ?_ _));exact BK700.out) hb)
              have n8_:=zm (zJ (by repeat (first|(with_reducible first|exact HB.out|apply ze|apply zd|apply zf|refine zk ?_ GE689.out|refine zk ?_ GE690.out|refine zk ?_ GE697.out|refine zk ?_ GE700.out)|exact HB.out)) hb)
              have n9_:=zm (hbox)
              have n10_:=zm ((by rw [hg];exact (zE (by repeat (first|(with_reducible first|exact HB.out|apply ze|apply zd|apply zf|refine zk ?_ GE689.out|refine zk ?_ GE690.out|refine zk ?_ GE697.out|refine zk ?_ GE700.out)|exact HB.out))) : w.heap.size≤gb709))
              have n11_:=zm ((by rw [hg];exact (zE (by repeat (first|(with_reducible first|exact HB.out|apply ze|apply zd|apply zf|refine zk ?_ GE689.out|refine zk ?_ GE690.out|refine zk ?_ GE697.out|refine zk ?_ GE700.out)|exact HB.out))) : w.heap.size≤gb709))
              have n12_:=zm ((by rw [hg];exact zn (zD (g:=gb689) (o:=.cells #[.int .u64 a0_0, .int .u32 a0_1, .slice A0_2 l0_2.length c0_2] 26 (0,0)) (by (with_reducible repeat (first|refine zh ?_ _|refine zj ?_|refine zi ?_ _));exact BK689.out)) : gb689≠gb709))
              have n13_:=zm ((by rw [hg];exact zg (zD (g:=gb689) (o:=.cells #[.int .u64 a0_0, .int .u32 a0_1, .slice A0_2 l0_2.length c0_2] 26 (0,0)) (by (with_reducible repeat (first|refine zh ?_ _|refine zj ?_|refine zi ?_ _));exact BK689.out)) : gb709≠gb689))
              have n14_:=zm ((by rw [hg];exact zn (zD (g:=gb690) (o:=.cells #[.int .u64 x691000_2, .int .u32 x691001_2, .slice none 0 0] 26 (0,0)) (by (with_reducible repeat (first|refine zh ?_ _|refine zj ?_|refine zi ?_ _));exact BK690.out)) : gb690≠gb709))
              have n15_:=zm ((by rw [hg];exact zg (zD (g:=gb690) (o:=.cells #[.int .u64 x691000_2, .int .u32 x691001_2, .slice none 0 0] 26 (0,0)) (by (with_reducible repeat (first|refine zh ?_ _|refine zj ?_|refine zi ?_ _));exact BK690.out)) : gb709≠gb690))
              have n16_:=zm ((by rw [hg];exact zn (zD (g:=gb697) (o:=.cells #[.int .u64 t691, .int .u32 t692, .slice Ao16 t693.length co16] 26 (0,0)) (by (with_reducible repeat (first|refine zh ?_ _|refine zj ?_|refine zi ?_ _));exact BK697.out)) : gb697≠gb709))
              have n17_:=zm ((by rw [hg];exact zg (zD (g:=gb697) (o:=.cells #[.int .u64 t691, .int .u32 t692, .slice Ao16 t693.length co16] 26 (0,0)) (by (with_reducible repeat (first|refine zh ?_ _|refine zj ?_|refine zi ?_ _));exact BK697.out)) : gb709≠gb697))
              have n18_:=zm ((by rw [hg];exact zn (zD (g:=gb700) (o:=.cells #[.int .u64 x701000_2, .int .u32 x701001_2, .slice Ao62 x701002_2.length co62] 26 (0,0)) (by (with_reducible repeat (first|refine zh ?_ _|refine zj ?_|refine zi ?_ _));exact BK700.out)) : gb700≠gb709))
              have n19_:=zm ((by rw [hg];exact zg (zD (g:=gb700) (o:=.cells #[.int .u64 x701000_2, .int .u32 x701001_2, .slice Ao62 x701002_2.length co62] 26 (0,0)) (by (with_reducible repeat (first|refine zh ?_ _|refine zj ?_|refine zi ?_ _));exact BK700.out)) : gb709≠gb700))
              clear HO_690002;clear HO_698002;clear HO_701002;clear HO707;clear BK689;clear BK690;clear BK697;clear BK700;clear HB;have HO_690002:=n0_;have HO_698002:=n1_;have HO_701002:=n2_;have HO707:=n3_;have BK689:=n4_;have BK690:=n5_;have BK697:=n6_;have BK700:=n7_;have HB:=n8_;have BK709:=n9_;have GW709:=n10_;have GE709:=n11_;have NB689_709:=n12_;have NB709_689:=n13_;have NB690_709:=n14_;have NB709_690:=n15_;have NB697_709:=n16_;have NB709_697:=n17_;have NB700_709:=n18_;have NB709_700:=n19_;clear n0_ n1_ n2_ n3_ n4_ n5_ n6_ n7_ n8_ n9_ n10_ n11_ n12_ n13_ n14_ n15_ n16_ n17_ n18_ n19_;clear hb hbox hg
              refine hK.out _ _ ⟨(zs BK700.out 0).trans rfl,(zs BK700.out 1).trans rfl,(zs BK700.out 2).trans rfl,((HB.out.cell (zb w _ hw702_0)).trans hw702_0)⟩ (fun hHeld => ?_)
              clear hK K
              refine norm_ (a' := ?_) ?_ ?_
              rotate_left
              ·
               show Act.put _ (some 15) _=_
               simp only [Act.put,List.setIfInBounds_toArray,List.set_cons_zero,List.set_cons_succ,i64_w,i32_w]
               rfl
              exact norm_ (by simp only [putAll,Act.put,List.setIfInBounds_toArray,List.set_cons_zero,List.set_cons_succ]) (hCont (v706,gb709) _ ⟨hHeld,(by (with_reducible repeat (first|apply zo|apply zp|apply zq));exact zG HO707.out (fun _ hk=>⟨hk.1.1,hk.2⟩)),(by (with_reducible repeat (first|apply zA|apply zB|apply zC));exact zy HO_690002.out (fun _ hk=>⟨hk.1.1.1,⟨hk.1.2,⟨hk.1.1.2.1,⟨hk.1.1.2.2.1,⟨hk.1.1.2.2.2.1,⟨hk.1.1.2.2.2.2.1,⟨hk.1.1.2.2.2.2.2,hk.2⟩⟩⟩⟩⟩⟩⟩)),(by (with_reducible repeat (first|apply zo|apply zp|apply zq));exact HO_698002.out),(by (with_reducible repeat (first|apply zA|apply zB|apply zC));exact zy HO_701002.out (fun _ hk=>⟨hk.1.1.1,⟨hk.1.2,⟨hk.1.1.2.1,⟨hk.1.1.2.2.1,⟨hk.1.1.2.2.2.1,⟨hk.1.1.2.2.2.2.1,⟨hk.1.1.2.2.2.2.2,hk.2⟩⟩⟩⟩⟩⟩⟩)),(by (with_reducible repeat (first|refine zh ?_ _|refine zj ?_|refine zi ?_ _));exact BK689.out),(by (with_reducible repeat (first|refine zh ?_ _|refine zj ?_|refine zi ?_ _));exact BK690.out),(by (with_reducible repeat (first|refine zh ?_ _|refine zj ?_|refine zi ?_ _));exact BK697.out),(by (with_reducible repeat (first|refine zh ?_ _|refine zj ?_|refine zi ?_ _));exact BK700.out),(by (with_reducible repeat (first|refine zh ?_ _|refine zj ?_|refine zi ?_ _));exact BK709.out),GW709.out,GE709.out,NB689_709.out,NB709_689.out,NB690_709.out,NB709_690.out,NB697_709.out,NB709_697.out,NB700_709.out,NB709_700.out,(by repeat (first|(with_reducible first|exact HB.out|apply ze|apply zd|apply zf|refine zk ?_ GE689.out|refine zk ?_ GE690.out|refine zk ?_ GE697.out|refine zk ?_ GE700.out|refine zk ?_ GE709.out)|exact HB.out))⟩)
             ·
              skip
              refine box_step ?hg (N:=15) ?hd (cs := #[.int .u64 0, .int .u32 0, .slice none 0 0]) (t:=26) ?hr ?_;(case hd=>rfl);(case hg=>rfl);(case hr=>first|(go_simp;done)|(go_simp;rfl))
              intro gb709 hg w64 hbox hb
              have n0_:=zm (Kd.V_below (Kd.V_elderB (by (with_reducible repeat (first|apply zA|apply zB|apply zC));exact HO_690002.out) gb709 (Nat.le_of_eq hg.symm)) hb)
              have n1_:=zm (Kd.R_below (by (with_reducible repeat (first|apply zo|apply zp|apply zq));exact HO_698002.out) hb)
              have n2_:=zm (Kd.V_below (Kd.V_elderB (by (with_reducible repeat (first|apply zA|apply zB|apply zC));exact HO_701002.out) gb709 (Nat.le_of_eq hg.symm)) hb)
              have n3_:=zm (zF (g:=gb689) (o:=.cells #[.int .u64 a0_0, .int .u32 a0_1, .slice A0_2 l0_2.length c0_2] 26 (0,0)) (by (with_reducible repeat (first|refine zh ?_ _|refine zj ?_|refine zi ?_ _));exact BK689.out) hb)
              have n4_:=zm (zF (g:=gb690) (o:=.cells #[.int .u64 x691000_2, .int .u32 x691001_2, .slice none 0 0] 26 (0,0)) (by (with_reducible repeat (first|refine zh ?_ _|refine zj ?_|refine zi ?_ _));exact BK690.out) hb)
              have n5_:=zm (zF (g:=gb697) (o:=.cells #[.int .u64 t691, .int .u32 t692, .slice Ao16 t693.length co16] 26 (0,0)) (by (with_reducible repeat (first|refine zh ?_ _|refine zj ?_|refine zi ?_ _));exact BK697.out) hb)
              have n6_:=zm (zF (g:=gb700) (o:=.cells #[.int .u64 x701000_2, .int .u32 x701001_2, .slice Ao62 x701002_2.length co62] 26 (0,0)) (by (with_reducible repeat (first|refine zh ?_ _|refine zj ?_|refine zi ?_ _));exact BK700.out) hb)
              have n7_:=zm (zJ (by repeat (first|(with_reducible first|exact HB.out|apply ze|apply zd|apply zf|refine zk ?_ GE689.out|refine zk ?_ GE690.out|refine zk ?_ GE697.out|refine zk ?_ GE700.out)|exact HB.out)) hb)
              have n8_:=zm (hbox)
              have n9_:=zm ((by rw [hg];exact (zE (by repeat (first|(with_reducible first|exact HB.out|apply ze|apply zd|apply zf|refine zk ?_ GE689.out|refine zk ?_ GE690.out|refine zk ?_ GE697.out|refine zk ?_ GE700.out)|exact HB.out))) : w.heap.size≤gb709))
              have n10_:=zm ((by rw [hg];exact (zE (by repeat (first|(with_reducible first|exact HB.out|apply ze|apply zd|apply zf|refine zk ?_ GE689.out|refine zk ?_ GE690.out|refine zk ?_ GE697.out|refine zk ?_ GE700.out)|exact HB.out))) : w.heap.size≤gb709))
              have n11_:=zm ((by rw [hg];exact zn (zD (g:=gb689) (o:=.cells #[.int .u64 a0_0, .int .u32 a0_1, .slice A0_2 l0_2.length c0_2] 26 (0,0)) (by (with_reducible repeat (first|refine zh ?_ _|refine zj ?_|refine zi ?_ _));exact BK689.out)) : gb689≠gb709))
              have n12_:=zm ((by rw [hg];exact zg (zD (g:=gb689) (o:=.cells #[.int .u64 a0_0, .int .u32 a0_1, .slice A0_2 l0_2.length c0_2] 26 (0,0)) (by (with_reducible repeat (first|refine zh ?_ _|refine zj ?_|refine zi ?_ _));exact BK689.out)) : gb709≠gb689))
              have n13_:=zm ((by rw [hg];exact zn (zD (g:=gb690) (o:=.cells #[.int .u64 x691000_2, .int .u32 x691001_2, .slice none 0 0] 26 (0,0)) (by (with_reducible repeat (first|refine zh ?_ _|refine zj ?_|refine zi ?_ _));exact BK690.out)) : gb690≠gb709))
              have n14_:=zm ((by rw [hg];exact zg (zD (g:=gb690) (o:=.cells #[.int .u64 x691000_2, .int .u32 x691001_2, .slice none 0 0] 26 (0,0)) (by (with_reducible repeat (first|refine zh ?_ _|refine zj ?_|refine zi ?_ _));exact BK690.out)) : gb709≠gb690))
              have n15_:=zm ((by rw [hg];exact zn (zD (g:=gb697) (o:=.cells #[.int .u64 t691, .int .u32 t692, .slice Ao16 t693.length co16] 26 (0,0)) (by (with_reducible repeat (first|refine zh ?_ _|refine zj ?_|refine zi ?_ _));exact BK697.out)) : gb697≠gb709))
              have n16_:=zm ((by rw [hg];exact zg (zD (g:=gb697) (o:=.cells #[.int .u64 t691, .int .u32 t692, .slice Ao16 t693.length co16] 26 (0,0)) (by (with_reducible repeat (first|refine zh ?_ _|refine zj ?_|refine zi ?_ _));exact BK697.out)) : gb709≠gb697))
              have n17_:=zm ((by rw [hg];exact zn (zD (g:=gb700) (o:=.cells #[.int .u64 x701000_2, .int .u32 x701001_2, .slice Ao62 x701002_2.length co62] 26 (0,0)) (by (with_reducible repeat (first|refine zh ?_ _|refine zj ?_|refine zi ?_ _));exact BK700.out)) : gb700≠gb709))
              have n18_:=zm ((by rw [hg];exact zg (zD (g:=gb700) (o:=.cells #[.int .u64 x701000_2, .int .u32 x701001_2, .slice Ao62 x701002_2.length co62] 26 (0,0)) (by (with_reducible repeat (first|refine zh ?_ _|refine zj ?_|refine zi ?_ _));exact BK700.out)) : gb709≠gb700))
              clear HO_690002;clear HO_698002;clear HO_701002;clear BK689;clear BK690;clear BK697;clear BK700;clear HB;have HO_690002:=n0_;have HO_698002:=n1_;have HO_701002:=n2_;have BK689:=n3_;have BK690:=n4_;have BK697:=n5_;have BK700:=n6_;have HB:=n7_;have BK709:=n8_;have GW709:=n9_;have GE709:=n10_;have NB689_709:=n11_;have NB709_689:=n12_;have NB690_709:=n13_;have NB709_690:=n14_;have NB697_709:=n15_;have NB709_697:=n16_;have NB700_709:=n17_;have NB709_700:=n18_;clear n0_ n1_ n2_ n3_ n4_ n5_ n6_ n7_ n8_ n9_ n10_ n11_ n12_ n13_ n14_ n15_ n16_ n17_ n18_;clear hb hbox hg
              refine hK.out _ _ ⟨(zs BK700.out 0).trans rfl,(zs BK700.out 1).trans rfl,(zs BK700.out 2).trans rfl,((HB.out.cell (zb w _ hw702_0)).trans hw702_0)⟩ (fun hHeld => ?_)
              clear hK K
              refine norm_ (a' := ?_) ?_ ?_
              rotate_left
              ·
               show Act.put _ (some 15) _=_
               simp only [Act.put,List.setIfInBounds_toArray,List.set_cons_zero,List.set_cons_succ,i64_w,i32_w]
               rfl
              refine one_ (i:=7) (N:=some 53) #[true,true,true,true,true,true,true,true,false,false,false,true,false,false] rfl rfl (one_of HT_.out (by kernel_rfl)) (by decide) (fun K hK => ?_)
              refine goes_ Try.func64 (by kernel_rfl) rfl #[.agg #[.int .u64 x701000_2, .int .u32 x701001_2, .slice Ao62 x701002_2.length co62], .int .i64 (rd l1 x36_2), .int .i64 x14_35, .bool a3] (by rfl) rfl rfl (by (try simp only [List.map_toArray,List.map_cons,List.map_nil]);first|done|rfl|(simp only [List.length_drop,List.length_take];rfl)) ?_
              with_reducible refine (gain_put.calls kj35 x701000_2 x701001_2 _ _ x701002_2 (rd l1 x36_2) x14_35 a3 t703 t704 t705 t708 _ ?side1 ?side2 A42.out).mono ?_
              (case side1=>repeat (first|exact (Kd.V_reads' HO_701002.out).2.2|(with_reducible refine Kd.C_alloc ?_ _)|(with_reducible refine Kd.C_drewN ?_ _)|(with_reducible refine Kd.C_drew ?_)))
              (case side2=>exact (Kd.V_reads' HO_701002.out).2.1)
              rintro e w65 ⟨v706,rfl,ho0,hb⟩
              refine ⟨_,rfl, ?_⟩
              have n0_:=zm (Kd.V_elder' (by (with_reducible repeat (first|apply zA|apply zB|apply zC));exact HO_690002.out) (Kd.R_base ho0) hb)
              have n1_:=zm (Kd.R_elder' (by (with_reducible repeat (first|apply zo|apply zp|apply zq));exact HO_698002.out) (Kd.R_base ho0) hb)
              have n2_:=zm (Kd.V_elder' (by (with_reducible repeat (first|apply zA|apply zB|apply zC));exact HO_701002.out) (Kd.R_base ho0) hb)
              have n3_:=zm (Kd.R_lower (Kd.R_new' (Kd.R_newM (M:=fun k_=>(w.heap.size≤k_)) ho0 (zE (by repeat (first|(with_reducible first|exact HB.out|apply ze|apply zd|apply zf|refine zk ?_ GE689.out|refine zk ?_ GE690.out|refine zk ?_ GE697.out|refine zk ?_ GE700.out|refine zk ?_ GE709.out)|exact HB.out))) (fun k_ h_=>h_)) (Kd.R_lt (by (with_reducible repeat (first|apply zo|apply zp|apply zq));exact HO_698002.out))) (zE (by repeat (first|(with_reducible first|exact HB.out|apply ze|apply zd|apply zf|refine zk ?_ GE689.out|refine zk ?_ GE690.out|refine zk ?_ GE697.out|refine zk ?_ GE700.out|refine zk ?_ GE709.out)|exact HB.out))))
              have n4_:=zm (zF (g:=gb689) (o:=.cells #[.int .u64 a0_0, .int .u32 a0_1, .slice A0_2 l0_2.length c0_2] 26 (0,0)) (by (with_reducible repeat (first|refine zh ?_ _|refine zj ?_|refine zi ?_ _));exact BK689.out) hb)
              have n5_:=zm (zF (g:=gb690) (o:=.cells #[.int .u64 x691000_2, .int .u32 x691001_2, .slice none 0 0] 26 (0,0)) (by (with_reducible repeat (first|refine zh ?_ _|refine zj ?_|refine zi ?_ _));exact BK690.out) hb)
              have n6_:=zm (zF (g:=gb697) (o:=.cells #[.int .u64 t691, .int .u32 t692, .slice Ao16 t693.length co16] 26 (0,0)) (by (with_reducible repeat (first|refine zh ?_ _|refine zj ?_|refine zi ?_ _));exact BK697.out) hb)
              have n7_:=zm (zF (g:=gb700) (o:=.cells #[.int .u64 x701000_2, .int .u32 x701001_2, .slice Ao62 x701002_2.length co62] 26 (0,0)) (by (with_reducible repeat (first|refine zh ?_ _|refine zj ?_|refine zi ?_ _));exact BK700.out) hb)
              have n8_:=zm (zF (g:=gb709) (o:=.cells #[.int .u64 0, .int .u32 0, .slice none 0 0] 26 (0,0)) (by (with_reducible repeat (first|refine zh ?_ _|refine zj ?_|refine zi ?_ _));exact BK709.out) hb)
              have n9_:=zm (zJ (by repeat (first|(with_reducible first|exact HB.out|apply ze|apply zd|apply zf|refine zk ?_ GE689.out|refine zk ?_ GE690.out|refine zk ?_ GE697.out|refine zk ?_ GE700.out|refine zk ?_ GE709.out)|exact HB.out)) hb)
              clear HO_690002;clear HO_698002;clear HO_701002;clear BK689;clear BK690;clear BK697;clear BK700;clear BK709;clear HB;have HO_690002:=n0_;have HO_698002:=n1_;have HO_701002:=n2_;have HO707:=n3_;have BK689:=n4_;have BK690:=n5_;have BK697:=n6_;have BK700:=n7_;have BK709:=n8_;have HB:=n9_;clear n0_ n1_ n2_ n3_ n4_ n5_ n6_ n7_ n8_ n9_
              (try clear hb)
              (try clear hb2)
              (try clear hk)
              (try clear hi)
              (try clear ho0)
              refine hK.out _ _ ⟨(zs BK700.out 0).trans rfl,(zs BK700.out 1).trans rfl,(zs BK700.out 2).trans rfl,((HB.out.cell (zb w _ hw702_0)).trans hw702_0)⟩ (fun hHeld => ?_)
              clear hK K
              refine norm_ (a' := ?_) ?_ ?_
              rotate_left
              ·
               show Act.put _ (some 53) _=_
               simp only [Act.put,List.setIfInBounds_toArray,List.set_cons_zero,List.set_cons_succ,i64_w,i32_w]
               rfl
              refine pure_ (i:=8) (N:=some 45) (v := ?_) (a' := ?_) #[true,true,true,true,true,true,true,true,true,false,false,true,false,false] rfl rfl (any_of HT_.out (by kernel_rfl)) (fun _ _ _ h=>h) (Or.inl ⟨by rfl, ?_⟩) ?_ ?_
              rotate_left
              ·
               intro w'
               go_simp
               with_reducible rfl
              rotate_left
              ·
               simp only [Act.put,List.setIfInBounds_toArray,List.set_cons_zero,List.set_cons_succ,i64_w,i32_w]
               rfl
              refine pure_ (i:=9) (N:=some 54) (v := ?_) (a' := ?_) #[true,true,true,true,true,true,true,true,true,true,false,true,false,false] rfl rfl (any_of HT_.out (by kernel_rfl)) (fun _ _ _ h=>h) (Or.inl ⟨by rfl, ?_⟩) ?_ ?_
              rotate_left
              ·
               intro w'
               go_simp
               with_reducible rfl
              rotate_left
              ·
               simp only [Act.put,List.setIfInBounds_toArray,List.set_cons_zero,List.set_cons_succ,i64_w,i32_w]
               rfl
              refine pure_ (i:=10) (N:=some 55) (v := ?_) (a' := ?_) #[true,true,true,true,true,true,true,true,true,true,true,true,false,false] rfl rfl (any_of HT_.out (by kernel_rfl)) (fun _ _ _ h=>h) (Or.inl ⟨by rfl, ?_⟩) ?_ ?_
              rotate_left
              ·
               intro w'
               go_simp
               with_reducible rfl
              rotate_left
              ·
               simp only [Act.put,List.setIfInBounds_toArray,List.set_cons_zero,List.set_cons_succ,i64_w,i32_w]
               rfl
              exact norm_ (by simp only [putAll,Act.put,List.setIfInBounds_toArray,List.set_cons_zero,List.set_cons_succ]) (hCont (v706,gb709) _ ⟨hHeld,(by (with_reducible repeat (first|apply zo|apply zp|apply zq));exact zG HO707.out (fun _ hk=>⟨hk.1.1,hk.2⟩)),(by (with_reducible repeat (first|apply zA|apply zB|apply zC));exact zy HO_690002.out (fun _ hk=>⟨hk.1.1.1,⟨hk.2,⟨hk.1.1.2.1,⟨hk.1.1.2.2.1,⟨hk.1.1.2.2.2.1,⟨hk.1.1.2.2.2.2.1,⟨hk.1.1.2.2.2.2.2,hk.1.2⟩⟩⟩⟩⟩⟩⟩)),(by (with_reducible repeat (first|apply zo|apply zp|apply zq));exact HO_698002.out),(by (with_reducible repeat (first|apply zA|apply zB|apply zC));exact zy HO_701002.out (fun _ hk=>⟨hk.1.1.1,⟨hk.2,⟨hk.1.1.2.1,⟨hk.1.1.2.2.1,⟨hk.1.1.2.2.2.1,⟨hk.1.1.2.2.2.2.1,⟨hk.1.1.2.2.2.2.2,hk.1.2⟩⟩⟩⟩⟩⟩⟩)),(by (with_reducible repeat (first|refine zh ?_ _|refine zj ?_|refine zi ?_ _));exact BK689.out),(by (with_reducible repeat (first|refine zh ?_ _|refine zj ?_|refine zi ?_ _));exact BK690.out),(by (with_reducible repeat (first|refine zh ?_ _|refine zj ?_|refine zi ?_ _));exact BK697.out),(by (with_reducible repeat (first|refine zh ?_ _|refine zj ?_|refine zi ?_ _));exact BK700.out),(by (with_reducible repeat (first|refine zh ?_ _|refine zj ?_|refine zi ?_ _));exact BK709.out),GW709.out,GE709.out,NB689_709.out,NB709_689.out,NB690_709.out,NB709_690.out,NB697_709.out,NB709_697.out,NB700_709.out,NB709_700.out,(by repeat (first|(with_reducible first|exact HB.out|apply ze|apply zd|apply zf|refine zk ?_ GE689.out|refine zk ?_ GE690.out|refine zk ?_ GE697.out|refine zk ?_ GE700.out|refine zk ?_ GE709.out)|exact HB.out))⟩)
            rintro ⟨v706,gb709⟩ w66 ⟨hS_,h0_,h1_,h2_,h3_,h4_,h5_,h6_,h7_,h8_,h9_,h10_,h11_,h12_,h13_,h14_,h15_,h16_,h17_,h18_,h19_⟩
            have n0_ : Aside0 (Kd.R (Kd.int .u8) 5 w66 w.heap.size (fun k_=>(w.heap.size≤k_)∧some k_≠(.slice Ao16 t693.length co16 : Value).ownBlock) v706 t705):=⟨h0_⟩
            have n1_ : Aside0 (Kd.V (Kd.int .u8) 5 w66 w.heap.size (fun k_=>(P0_2_ k_∨w.heap.size≤k_)∧some k_≠(v706 : Value).ownBlock∧some k_≠(.slice Ao16 t693.length co16 : Value).ownBlock∧k_≠gb689∧k_≠gb690∧k_≠gb697∧k_≠gb700∧k_≠gb709) (.slice A0_2 l0_2.length c0_2) l0_2):=⟨h1_⟩
            have n2_ : Aside0 (Kd.R (Kd.int .u8) 5 w66 w.heap.size (fun k_=>(w.heap.size≤k_)∧some k_≠(v706 : Value).ownBlock) (.slice Ao16 t693.length co16) t693):=⟨h2_⟩
            have n3_ : Aside0 (Kd.V (Kd.int .u8) 5 w66 w.heap.size (fun k_=>(P0_2_ k_∨w.heap.size≤k_)∧some k_≠(v706 : Value).ownBlock∧some k_≠(.slice Ao16 t693.length co16 : Value).ownBlock∧k_≠gb689∧k_≠gb690∧k_≠gb697∧k_≠gb700∧k_≠gb709) (.slice Ao62 x701002_2.length co62) x701002_2):=⟨h3_⟩
            have n4_ : Aside0 (w66.heap[gb689]? = some (.cells #[.int .u64 a0_0, .int .u32 a0_1, .slice A0_2 l0_2.length c0_2] 26 (0,0))):=⟨h4_⟩
            have n5_ : Aside0 (w66.heap[gb690]? = some (.cells #[.int .u64 x691000_2, .int .u32 x691001_2, .slice none 0 0] 26 (0,0))):=⟨h5_⟩
            have n6_ : Aside0 (w66.heap[gb697]? = some (.cells #[.int .u64 t691, .int .u32 t692, .slice Ao16 t693.length co16] 26 (0,0))):=⟨h6_⟩
            have n7_ : Aside0 (w66.heap[gb700]? = some (.cells #[.int .u64 x701000_2, .int .u32 x701001_2, .slice Ao62 x701002_2.length co62] 26 (0,0))):=⟨h7_⟩
            have n8_ : Aside0 (w66.heap[gb709]? = some (.cells #[.int .u64 0, .int .u32 0, .slice none 0 0] 26 (0,0))):=⟨h8_⟩
            have n9_ : Aside0 (w.heap.size≤gb709):=⟨h9_⟩
            have n10_ : Aside0 (w.heap.size≤gb709):=⟨h10_⟩
            have n11_ : Aside0 (gb689≠gb709):=⟨h11_⟩
            have n12_ : Aside0 (gb709≠gb689):=⟨h12_⟩
            have n13_ : Aside0 (gb690≠gb709):=⟨h13_⟩
            have n14_ : Aside0 (gb709≠gb690):=⟨h14_⟩
            have n15_ : Aside0 (gb697≠gb709):=⟨h15_⟩
            have n16_ : Aside0 (gb709≠gb697):=⟨h16_⟩
            have n17_ : Aside0 (gb700≠gb709):=⟨h17_⟩
            have n18_ : Aside0 (gb709≠gb700):=⟨h18_⟩
            have n19_ : Aside0 (Below w.heap.size w w66):=⟨h19_⟩
            clear HO_690002;clear HO_698002;clear HO_701002;clear BK689;clear BK690;clear BK697;clear BK700;clear HB;clear h0_ h1_ h2_ h3_ h4_ h5_ h6_ h7_ h8_ h9_ h10_ h11_ h12_ h13_ h14_ h15_ h16_ h17_ h18_ h19_;have HO707:=n0_;have HO_690002:=n1_;have HO_698002:=n2_;have HO_701002:=n3_;have BK689:=n4_;have BK690:=n5_;have BK697:=n6_;have BK700:=n7_;have BK709:=n8_;have GW709:=n9_;have GE709:=n10_;have NB689_709:=n11_;have NB709_689:=n12_;have NB690_709:=n13_;have NB709_690:=n14_;have NB697_709:=n15_;have NB709_697:=n16_;have NB700_709:=n17_;have NB709_700:=n18_;have HB:=n19_;clear n0_ n1_ n2_ n3_ n4_ n5_ n6_ n7_ n8_ n9_ n10_ n11_ n12_ n13_ n14_ n15_ n16_ n17_ n18_ n19_
            have hHeld : w66.cell? ⟨gb700,0,none⟩=some (.int .u64 x701000_2)∧w66.cell? ⟨gb700,1,none⟩=some (.int .u32 x701001_2)∧w66.cell? ⟨gb700,2,none⟩=some (.slice Ao62 x701002_2.length co62)∧w66.cell? (ad702.add (x36_2).toNat)=some (.int .i64 (rd l1 x36_2)):=hS_
            obtain ⟨Ao69,co69,eo69⟩:=Kd.R_slice HO707.out
            (first|subst eo69|(injection eo69 with f1_ f2_ f3_;have f4_:=f1_.symm;have f5_:=f3_.symm;clear f1_ f2_ f3_;subst f4_;subst f5_))
            refine norm_ (a' := ?_) ?_ ?_
            rotate_left
            ·
             simp only [putAll,Act.put,List.setIfInBounds_toArray,List.set_cons_zero,List.set_cons_succ]
             rfl
            refine one_ (i:=12) (N:=none) #[true,true,true,true,true,true,true,true,true,true,true,true,true,false] rfl rfl (one_of HT_.out (by kernel_rfl)) (by decide) (fun K hK => ?_)
            have hs67 : w66.cell? ⟨gb709,0,none⟩=some (.int .u64 0):=(zs BK709.out 0).trans rfl
            have hfs67:=zx BK709.out 0
            have hns67_0:=NB689_709.out;have hns67_1:=NB690_709.out;have hns67_2:=NB697_709.out;have hns67_3:=NB700_709.out;have hms67_0:=NB709_689.out;have hms67_1:=NB709_690.out;have hms67_2:=NB709_697.out;have hms67_3:=NB709_700.out
            have hs68 : w66.cell? ⟨gb709,1,none⟩=some (.int .u32 0):=(zs BK709.out 1).trans rfl
            have hfs68:=zx BK709.out 1
            have hns68_0:=NB689_709.out;have hns68_1:=NB690_709.out;have hns68_2:=NB697_709.out;have hns68_3:=NB700_709.out;have hms68_0:=NB709_689.out;have hms68_1:=NB709_690.out;have hms68_2:=NB709_697.out;have hms68_3:=NB709_700.out
            have hs70 : w66.cell? ⟨gb709,2,none⟩=some (.slice none 0 0):=(zs BK709.out 2).trans rfl
            have hfs70:=zx BK709.out 2
            have hns70_0:=NB689_709.out;have hns70_1:=NB690_709.out;have hns70_2:=NB697_709.out;have hns70_3:=NB700_709.out;have hms70_0:=NB709_689.out;have hms70_1:=NB709_690.out;have hms70_2:=NB709_697.out;have hms70_3:=NB709_700.out
            refine skip_ (w1 := ?_) (by rfl) rfl ?_ ?_
            rotate_left
            ·
             go_simp
             rfl
            refine hK.out _ _ ⟨((zr (p:=⟨gb709,_,none⟩) NB700_709.out _).trans (((zr (p:=⟨gb709,_,none⟩) NB700_709.out _).trans (((zr (p:=⟨gb709,_,none⟩) NB700_709.out _).trans (hHeld.1)))))),((zr (p:=⟨gb709,_,none⟩) NB700_709.out _).trans (((zr (p:=⟨gb709,_,none⟩) NB700_709.out _).trans (((zr (p:=⟨gb709,_,none⟩) NB700_709.out _).trans (hHeld.2.1)))))),((zr (p:=⟨gb709,_,none⟩) NB700_709.out _).trans (((zr (p:=⟨gb709,_,none⟩) NB700_709.out _).trans (((zr (p:=⟨gb709,_,none⟩) NB700_709.out _).trans (hHeld.2.2.1)))))),((zr (p:=⟨gb709,_,none⟩) (by first|exact zn (zl (by have:=zb _ _ hw702_0;first|rwa [za] at this|exact this) GW709.out)|(rw [za];exact zn (zl (by have:=zb _ _ hw702_0;first|rwa [za] at this|exact this) GW709.out))|(show (Addr.add _ _).block≠_;rw [za];exact zn (zl (by have:=zb _ _ hw702_0;first|rwa [za] at this|exact this) GW709.out))|(dsimp only;exact zn (zl (by have:=zb _ _ hw702_0;first|rwa [za] at this|exact this) GW709.out))) _).trans (((zr (p:=⟨gb709,_,none⟩) (by first|exact zn (zl (by have:=zb _ _ hw702_0;first|rwa [za] at this|exact this) GW709.out)|(rw [za];exact zn (zl (by have:=zb _ _ hw702_0;first|rwa [za] at this|exact this) GW709.out))|(show (Addr.add _ _).block≠_;rw [za];exact zn (zl (by have:=zb _ _ hw702_0;first|rwa [za] at this|exact this) GW709.out))|(dsimp only;exact zn (zl (by have:=zb _ _ hw702_0;first|rwa [za] at this|exact this) GW709.out))) _).trans (((zr (p:=⟨gb709,_,none⟩) (by first|exact zn (zl (by have:=zb _ _ hw702_0;first|rwa [za] at this|exact this) GW709.out)|(rw [za];exact zn (zl (by have:=zb _ _ hw702_0;first|rwa [za] at this|exact this) GW709.out))|(show (Addr.add _ _).block≠_;rw [za];exact zn (zl (by have:=zb _ _ hw702_0;first|rwa [za] at this|exact this) GW709.out))|(dsimp only;exact zn (zl (by have:=zb _ _ hw702_0;first|rwa [za] at this|exact this) GW709.out))) _).trans (hHeld.2.2.2))))))⟩ (fun hHeld => ?_)
            clear hK K
            refine pure_ (i:=13) (N:=some 16) (v := ?_) (a' := ?_) #[true,true,true,true,true,true,true,true,true,true,true,true,true,true] rfl rfl (any_of HT_.out (by kernel_rfl)) (fun _ _ _ h=>h) (Or.inl ⟨by rfl, ?_⟩) ?_ ?_
            rotate_left
            ·
             intro w'
             go_simp
             with_reducible rfl
            rotate_left
            ·
             simp only [Act.put,List.setIfInBounds_toArray,List.set_cons_zero,List.set_cons_succ,i64_w,i32_w]
             rfl
            refine done_ (done_of HT_.out (by kernel_rfl)) ?_
            have hnb71:=NB697_689.out;have hnc71:=NB689_697.out;have hnb72:=NB697_690.out;have hnc72:=NB690_697.out;have hnb73:=NB697_700.out;have hnc73:=NB700_697.out;have hnb74:=NB697_709.out;have hnc74:=NB709_697.out
            have hcz75_0 : w66.cell? ⟨gb697,0,none⟩=some (.int .u64 t691):=(zs BK697.out 0).trans rfl
            have hcz75_1 : w66.cell? ⟨gb697,1,none⟩=some (.int .u32 t692):=(zs BK697.out 1).trans rfl
            have hcz75_2 : w66.cell? ⟨gb697,2,none⟩=some (.slice Ao16 t693.length co16):=(zs BK697.out 2).trans rfl
            have hfz75_0:=zx BK697.out 0
            have hfz75_1:=zx BK697.out 1
            have hfz75_2:=zx BK697.out 2
            have hnb76:=NB690_689.out;have hnc76:=NB689_690.out;have hnb77:=NB690_700.out;have hnc77:=NB700_690.out;have hnb78:=NB690_709.out;have hnc78:=NB709_690.out
            have hcz79_0 : w66.cell? ⟨gb690,0,none⟩=some (.int .u64 x691000_2):=(zs BK690.out 0).trans rfl
            have hcz79_1 : w66.cell? ⟨gb690,1,none⟩=some (.int .u32 x691001_2):=(zs BK690.out 1).trans rfl
            have hcz79_2 : w66.cell? ⟨gb690,2,none⟩=some (.slice none 0 0):=(zs BK690.out 2).trans rfl
            have hfz79_0:=zx BK690.out 0
            have hfz79_1:=zx BK690.out 1
            have hfz79_2:=zx BK690.out 2
            try go_wp2
            refine bodyPost_ret (results_ct rfl _ _ gb690 26 #[.int .u64 t691, .int .u32 t692, .slice Ao16 t693.length co16] (0,0) _ rfl (by (with_reducible repeat (first|refine zh ?_ _|refine zj ?_|refine zi ?_ _));refine zw (cs := #[.int .u64 t691, .int .u32 t692, .slice none 0 0]) ?_ 2 _ rfl;(with_reducible repeat (first|refine zh ?_ _|refine zj ?_|refine zi ?_ _));refine zw (cs := #[.int .u64 t691, .int .u32 x691001_2, .slice none 0 0]) ?_ 1 _ rfl;(with_reducible repeat (first|refine zh ?_ _|refine zj ?_|refine zi ?_ _));refine zw (cs := #[.int .u64 x691000_2, .int .u32 x691001_2, .slice none 0 0]) ?_ 0 _ rfl;(with_reducible repeat (first|refine zh ?_ _|refine zj ?_|refine zi ?_ _|refine zv ?_ NB690_709.out _));exact BK690.out) Try.underlying26 rfl (by kernel_rfl)) rfl ?_
            exact ⟨_,by first|rfl|(simp [errW_none,errW_some] <;> rfl)|(simp [*,errW_none,errW_some] <;> rfl),zy (Kd.R_V (by (with_reducible repeat (first|apply zo|apply zp|apply zq));exact zG (zH (p:=⟨gb690,2,none⟩) (zH (p:=⟨gb690,1,none⟩) (zH (p:=⟨gb690,0,none⟩) (zH (p:=⟨gb709,2,none⟩) (zH (p:=⟨gb709,1,none⟩) (zH (p:=⟨gb709,0,none⟩) (Kd.R_types (Kd.R_types HO_698002.out BK709.out (by decide)) BK690.out (by decide)) (fun _ hk=>hk.1.2) (.int .u64 t703)) (fun _ hk=>hk.1.2) (.int .u32 t704)) (fun _ hk=>hk.1.2) (.slice Ao69 t705.length co69)) (fun _ hk=>hk.2) (.int .u64 t691)) (fun _ hk=>hk.2) (.int .u32 t692)) (fun _ hk=>hk.2) (.slice Ao16 t693.length co16)) (fun _ hk=>hk.1.1.1))) (fun k_ hk=>by first|exact ⟨(.inr (hk.1)),hk.2⟩|exact (.inr (hk))),by repeat (first|(with_reducible first|exact HB.out|apply ze|apply zd|apply zf|refine zk ?_ GE689.out|refine zk ?_ GE690.out|refine zk ?_ GE697.out|refine zk ?_ GE700.out|refine zk ?_ GE709.out)|exact HB.out)⟩
          ·
           rw [if_neg c41] at H
           exact absurd H (by simp)
         ·
          rw [if_neg c40] at H
          exact absurd H (by simp)
      ·
       rw [if_neg c35] at H
       have c35b0 : decide (x36_2 < 5)=false:=decide_eq_false c35
       clear c35
       simp only [Option.some.injEq,Prod.mk.injEq] at H
       obtain ⟨rfl,rfl,rfl,rfl⟩:=H
       have hnb80:=NB700_689.out;have hnc80:=NB689_700.out;have hnb81:=NB700_690.out;have hnc81:=NB690_700.out;have hnb82:=NB700_697.out;have hnc82:=NB697_700.out
       have hcz83_0 : wr.cell? ⟨gb700,0,none⟩=some (.int .u64 x701000_2):=(zs BK700.out 0).trans rfl
       have hcz83_1 : wr.cell? ⟨gb700,1,none⟩=some (.int .u32 x701001_2):=(zs BK700.out 1).trans rfl
       have hcz83_2 : wr.cell? ⟨gb700,2,none⟩=some (u701002):=(zs BK700.out 2).trans rfl
       have hfz83_0:=zx BK700.out 0
       have hfz83_1:=zx BK700.out 1
       have hfz83_2:=zx BK700.out 2
       have hnb84:=NB690_689.out;have hnc84:=NB689_690.out;have hnb85:=NB690_697.out;have hnc85:=NB697_690.out
       have hcz86_0 : wr.cell? ⟨gb690,0,none⟩=some (.int .u64 x691000_2):=(zs BK690.out 0).trans rfl
       have hcz86_1 : wr.cell? ⟨gb690,1,none⟩=some (.int .u32 x691001_2):=(zs BK690.out 1).trans rfl
       have hcz86_2 : wr.cell? ⟨gb690,2,none⟩=some (.slice none 0 0):=(zs BK690.out 2).trans rfl
       have hfz86_0:=zx BK690.out 0
       have hfz86_1:=zx BK690.out 1
       have hfz86_2:=zx BK690.out 2
       obtain ⟨Ao87,co87,eo87⟩:=Kd.V_slice HO_701002.out
       subst eo87
       go_wp2
       refine bodyPost_ret (results_ct rfl _ _ gb690 26 #[.int .u64 x701000_2, .int .u32 x701001_2, .slice Ao87 x701002_2.length co87] (0,0) _ rfl (by (with_reducible repeat (first|refine zh ?_ _|refine zj ?_|refine zi ?_ _));refine zw (cs := #[.int .u64 x701000_2, .int .u32 x701001_2, .slice none 0 0]) ?_ 2 _ rfl;(with_reducible repeat (first|refine zh ?_ _|refine zj ?_|refine zi ?_ _));refine zw (cs := #[.int .u64 x701000_2, .int .u32 x691001_2, .slice none 0 0]) ?_ 1 _ rfl;(with_reducible repeat (first|refine zh ?_ _|refine zj ?_|refine zi ?_ _));refine zw (cs := #[.int .u64 x691000_2, .int .u32 x691001_2, .slice none 0 0]) ?_ 0 _ rfl;(with_reducible repeat (first|refine zh ?_ _|refine zj ?_|refine zi ?_ _));exact BK690.out) Try.underlying26 rfl (by kernel_rfl)) rfl ?_
       exact ⟨_,by first|rfl|(simp [errW_none,errW_some] <;> rfl)|(simp [*,errW_none,errW_some] <;> rfl),by (with_reducible repeat (first|apply zA|apply zB|apply zC));exact zy (zI (p:=⟨gb690,2,none⟩) (zI (p:=⟨gb690,1,none⟩) (zI (p:=⟨gb690,0,none⟩) (zy HO_701002.out (fun k_ hk=>(⟨hk,hk.2.2.2.1⟩ : _∧k_≠gb690))) (fun _ hk=>hk.2) (.int .u64 x701000_2)) (fun _ hk=>hk.2) (.int .u32 x701001_2)) (fun _ hk=>hk.2) (.slice Ao87 x701002_2.length co87)) (fun _ hk=>hk.1.1),by repeat (first|(with_reducible first|exact HB.out|apply ze|apply zd|apply zf|refine zk ?_ GE689.out|refine zk ?_ GE690.out|refine zk ?_ GE697.out|refine zk ?_ GE700.out)|exact HB.out)⟩

end Go.Proofs.Ytkaoiblgfpphoaa.Prt

namespace Go.Proofs.Ytkaoiblgfpphoaa.Prt
open Go.RowKit Go.Proofs.YtkaoiblgfpphoaaW.PrintWords Go.Proofs.YtkaoiblgfpphoaaW.PrintLast Go.Proofs.YtkaoiblgfpphoaaW.PrintMore
attribute [local go_sem] max2_int min2_int max_two min_two max_three min_three max_four min_four   -- for this text's walks alone
set_option linter.unusedVariables false
set_option linter.unusedSimpArgs false

/-! ### coder_at: function 58 -/
def coder_at.f (l0 : List Int) (a1 : Int) : Option (Int):=if a1 ≥ (l0.length : Int) then (some 0) else (if 0≤a1 then (if a1 < (l0.length : Int) then (some (IntKind.u64.wrap (rd l0 a1))) else (none)) else (none))
set_option maxHeartbeats 8000000 in
set_option maxRecDepth 100000 in
theorem coder_at.calls (A0 : Option Addr) (c0 : Nat) (l0 : List Int) (a1 : Int) (r : Int) (w : World) (hr0 : Kd.C (Kd.int .u8) w A0 l0.length l0) (hc0 : l0.length≤c0) (h : coder_at.f l0 a1=some r) :
  Calls Try.prog 58 #[.slice A0 l0.length c0, .int .i64 a1] w fun e w' => e=.returned (.int .u64 r)∧Drawn0 w w' := by
 have HR0:=zm hr0;have HC0:=zm hc0;clear hr0 hc0
 have H : (if a1 ≥ (l0.length : Int) then (some 0) else (if 0≤a1 then (if a1 < (l0.length : Int) then (some (IntKind.u64.wrap (rd l0 a1))) else (none)) else (none)))=some r:=h
 clear h
 by_cases c3 : a1 ≥ (l0.length : Int)
 ·
  rw [if_pos c3] at H
  have c3b0 : decide ((l0.length : Int)≤a1)=true:=decide_eq_true c3
  clear c3
  obtain rfl:=Option.some.inj H
  go_enter Try.func58,Try.ntmps58
  go_wp2
  go_ret
  exact ⟨by first|rfl|(simp;done)|(simp [*];done),by repeat (first|exact Drawn0.refl _|apply Drawn0.step)⟩
 ·
  rw [if_neg c3] at H
  have c3b0 : decide ((l0.length : Int)≤a1)=false:=decide_eq_false c3
  clear c3
  by_cases c4 : 0≤a1
  ·
   rw [if_pos c4] at H
   have c4b0 : decide (0≤a1)=true:=decide_eq_true c4
   clear c4
   by_cases c5 : a1 < (l0.length : Int)
   ·
    rw [if_pos c5] at H
    have c5b0 : decide (a1 < (l0.length : Int))=true:=decide_eq_true c5
    clear c5
    obtain rfl:=Option.some.inj H
    have p146 : 0≤(a1 : Int):=of_decide_eq_true (by first|(with_reducible assumption)|assumption)
    have q146 : a1 < (l0.length : Int):=of_decide_eq_true (by first|(with_reducible assumption)|assumption)
    obtain ⟨ad146,e146,hx146_0⟩:=Kd.at_int HR0.out a1 p146 q146
    cases e146
    replace p146:=eq_true p146
    replace q146:=eq_true q146
    go_enter Try.func58,Try.ntmps58
    go_wp2
    go_ret
    exact ⟨by first|rfl|(simp;done)|(simp [*];done),by repeat (first|exact Drawn0.refl _|apply Drawn0.step)⟩
   ·
    rw [if_neg c5] at H
    exact absurd H (by simp)
  ·
   rw [if_neg c4] at H
   exact absurd H (by simp)

end Go.Proofs.Ytkaoiblgfpphoaa.Prt

namespace Go.Proofs.Ytkaoiblgfpphoaa.Prt
open Go.RowKit Go.Proofs.YtkaoiblgfpphoaaW.PrintWords Go.Proofs.YtkaoiblgfpphoaaW.PrintLast Go.Proofs.YtkaoiblgfpphoaaW.PrintMore
attribute [local go_sem] max2_int min2_int max_two min_two max_three min_three max_four min_four   -- for this text's walks alone
set_option linter.unusedVariables false
set_option linter.unusedSimpArgs false

/-! ### coder_Open: function 26 -/
def coder_Open.f (l0 : List Int) : Option (Int × Int × List Int × Int):=(coder_at.f l0 0).bind fun t148=>((coder_at.f l0 1).bind fun t149=>((coder_at.f l0 2).bind fun t150=>((coder_at.f l0 3).bind fun t151=>(some (Go.bits .or .u64 (Go.bits .or .u64 (Go.bits .or .u64 (IntKind.u64.wrap (t148 * 16777216)) (IntKind.u64.wrap (t149 * 65536))) (IntKind.u64.wrap (t150 * 256))) t151,4294967295,l0,4)))))
set_option maxHeartbeats 8000000 in
set_option maxRecDepth 100000 in
theorem coder_Open.calls (P0_ : Nat→Prop) (A0 : Option Addr) (c0 : Nat) (l0 : List Int) (r1 : Int) (r2 : Int) (r3 : List Int) (r4 : Int) (w : World) (hs0 : Kd.V (Kd.int .u8) 5 w w.heap.size (fun k_=>P0_ k_) (.slice A0 l0.length c0) l0) (h : coder_Open.f l0=some (r1,r2,r3,r4)) :
  Calls Try.prog 26 #[.slice A0 l0.length c0] w fun e w' => ∃ v2_ : Value,e=.returned (.agg #[.int .u64 r1, .int .u32 r2,v2_, .int .i64 r4])∧Kd.V (Kd.int .u8) 5 w' w.heap.size (fun k_=>(P0_ k_∨w.heap.size≤k_)) v2_ r3∧Below w.heap.size w w' := by
 have hu43:=Try.underlying43
 have HO0:=zm (show Kd.V (Kd.int .u8) 5 w w.heap.size (fun k_=>(P0_ k_∨w.heap.size≤k_)) (.slice A0 l0.length c0) l0 from zy hs0 (fun k_ hk => .inl hk))
 have HB:=zm (Below.refl w.heap.size w)
 have H : ((coder_at.f l0 0).bind fun t148=>((coder_at.f l0 1).bind fun t149=>((coder_at.f l0 2).bind fun t150=>((coder_at.f l0 3).bind fun t151=>(some (Go.bits .or .u64 (Go.bits .or .u64 (Go.bits .or .u64 (IntKind.u64.wrap (t148 * 16777216)) (IntKind.u64.wrap (t149 * 65536))) (IntKind.u64.wrap (t150 * 256))) t151,4294967295,l0,4))))))=some (r1,r2,r3,r4):=h
 clear h
 replace H:=Option.bind_eq_some_iff.mp H
 obtain ⟨t148,A20,H⟩:=H
 replace H : ((coder_at.f l0 1).bind fun t149=>((coder_at.f l0 2).bind fun t150=>((coder_at.f l0 3).bind fun t151=>(some (Go.bits .or .u64 (Go.bits .or .u64 (Go.bits .or .u64 (IntKind.u64.wrap (t148 * 16777216)) (IntKind.u64.wrap (t149 * 65536))) (IntKind.u64.wrap (t150 * 256))) t151,4294967295,l0,4)))))=some (r1,r2,r3,r4):=H
 have A2:=zm A20;clear A20
 replace H:=Option.bind_eq_some_iff.mp H
 obtain ⟨t149,A30,H⟩:=H
 replace H : ((coder_at.f l0 2).bind fun t150=>((coder_at.f l0 3).bind fun t151=>(some (Go.bits .or .u64 (Go.bits .or .u64 (Go.bits .or .u64 (IntKind.u64.wrap (t148 * 16777216)) (IntKind.u64.wrap (t149 * 65536))) (IntKind.u64.wrap (t150 * 256))) t151,4294967295,l0,4))))=some (r1,r2,r3,r4):=H
 have A3:=zm A30;clear A30
 replace H:=Option.bind_eq_some_iff.mp H
 obtain ⟨t150,A40,H⟩:=H
 replace H : ((coder_at.f l0 3).bind fun t151=>(some (Go.bits .or .u64 (Go.bits .or .u64 (Go.bits .or .u64 (IntKind.u64.wrap (t148 * 16777216)) (IntKind.u64.wrap (t149 * 65536))) (IntKind.u64.wrap (t150 * 256))) t151,4294967295,l0,4)))=some (r1,r2,r3,r4):=H
 have A4:=zm A40;clear A40
 replace H:=Option.bind_eq_some_iff.mp H
 obtain ⟨t151,A50,H⟩:=H
 replace H : (some (Go.bits .or .u64 (Go.bits .or .u64 (Go.bits .or .u64 (IntKind.u64.wrap (t148 * 16777216)) (IntKind.u64.wrap (t149 * 65536))) (IntKind.u64.wrap (t150 * 256))) t151,4294967295,l0,4))=some (r1,r2,r3,r4):=H
 have A5:=zm A50;clear A50
 simp only [Option.some.injEq,Prod.mk.injEq] at H
 obtain ⟨rfl,rfl,rfl,rfl⟩:=H
 go_enter Try.func26,Try.ntmps26
 go_wp2_with (first|((with_reducible refine gate_dst (N:=2) rfl ?_);refine box_event ?hg (N:=2) ?hd (cs := #[.int .u64 0, .int .u32 0, .slice none 0 0, .int .i64 0]) (t:=43) ?hr ?_;(case hd=>rfl);(case hg=>rfl);(case hr=>first|(go_simp;done)|(go_simp;rfl));intro gb147 hg w6 hbox hb;have n0_:=zm (Kd.V_below (Kd.V_elderB (by (with_reducible repeat (first|apply zA|apply zB|apply zC));exact HO0.out) gb147 (Nat.le_of_eq hg.symm)) hb);have n1_:=zm (zJ (by repeat (first|(with_reducible first|exact HB.out|apply ze|apply zd|apply zf)|exact HB.out)) hb);have n2_:=zm (hbox);have n3_:=zm ((by rw [hg];exact (zE (by repeat (first|(with_reducible first|exact HB.out|apply ze|apply zd|apply zf)|exact HB.out))) : w.heap.size≤gb147));have n4_:=zm ((by rw [hg];exact (zE (by repeat (first|(with_reducible first|exact HB.out|apply ze|apply zd|apply zf)|exact HB.out))) : w.heap.size≤gb147));clear HO0;clear HB;have HO0:=n0_;have HB:=n1_;have BK147:=n2_;have GW147:=n3_;have GE147:=n4_;clear n0_ n1_ n2_ n3_ n4_;clear hb hbox hg)|((with_reducible refine gate_callee (f:=58) rfl ?_);refine goesL_ (some 4) rfl rfl Try.func58 (by kernel_rfl) rfl #[.slice A0 l0.length c0, .int .i64 0] rfl (by (try simp only [List.map_toArray,List.map_cons,List.map_nil]);first|done|rfl|(simp only [List.length_drop,List.length_take];rfl)) ?_;(with_reducible refine (coder_at.calls _ _ l0 0 t148 _ ?side1 ?side2 A2.out).mono ?_);(case side1=>repeat (first|exact (Kd.V_reads' HO0.out).2.2|(with_reducible refine Kd.C_alloc ?_ _)|(with_reducible refine Kd.C_drewN ?_ _)|(with_reducible refine Kd.C_drew ?_)));(case side2=>exact (Kd.V_reads' HO0.out).2.1);rintro e w' ⟨rfl,⟨nd,rfl⟩⟩;refine ⟨_,rfl, ?_⟩;(try (rw [drewN_self w6];generalize hq_ : World.drewN w6 _=w6;have n0_ : Aside0 (Kd.V (Kd.int .u8) 5 w6 w.heap.size (fun k_=>(P0_ k_∨w.heap.size≤k_)∧k_≠gb147) (.slice A0 l0.length c0) l0):=⟨by rw [← hq_];exact (by (with_reducible repeat (first|apply zA|apply zB|apply zC));exact HO0.out)⟩;have n1_ : Aside0 (w6.heap[gb147]? = some (.cells #[.int .u64 0, .int .u32 0, .slice none 0 0, .int .i64 0] 43 (0,0))):=⟨by rw [← hq_];exact (by (with_reducible repeat (first|refine zh ?_ _|refine zj ?_|refine zi ?_ _));exact BK147.out)⟩;have n2_ : Aside0 (Below w.heap.size w w6):=⟨by rw [← hq_];exact (by repeat (first|(with_reducible first|exact HB.out|apply ze|apply zd|apply zf|refine zk ?_ GE147.out)|exact HB.out))⟩;clear HO0 BK147 HB hq_;have HO0:=n0_;have BK147:=n1_;have HB:=n2_;clear n0_ n1_ n2_)))|((with_reducible refine gate_callee (f:=58) rfl ?_);refine goesL_ (some 7) rfl rfl Try.func58 (by kernel_rfl) rfl #[.slice A0 l0.length c0, .int .i64 1] rfl (by (try simp only [List.map_toArray,List.map_cons,List.map_nil]);first|done|rfl|(simp only [List.length_drop,List.length_take];rfl)) ?_;(with_reducible refine (coder_at.calls _ _ l0 1 t149 _ ?side1 ?side2 A3.out).mono ?_);(case side1=>repeat (first|exact (Kd.V_reads' HO0.out).2.2|(with_reducible refine Kd.C_alloc ?_ _)|(with_reducible refine Kd.C_drewN ?_ _)|(with_reducible refine Kd.C_drew ?_)));(case side2=>exact (Kd.V_reads' HO0.out).2.1);rintro e w' ⟨rfl,⟨nd,rfl⟩⟩;refine ⟨_,rfl, ?_⟩;(try (rw [drewN_self w6];generalize hq_ : World.drewN w6 _=w6;have n0_ : Aside0 (Kd.V (Kd.int .u8) 5 w6 w.heap.size (fun k_=>(P0_ k_∨w.heap.size≤k_)∧k_≠gb147) (.slice A0 l0.length c0) l0):=⟨by rw [← hq_];exact (by (with_reducible repeat (first|apply zA|apply zB|apply zC));exact HO0.out)⟩;have n1_ : Aside0 (w6.heap[gb147]? = some (.cells #[.int .u64 0, .int .u32 0, .slice none 0 0, .int .i64 0] 43 (0,0))):=⟨by rw [← hq_];exact (by (with_reducible repeat (first|refine zh ?_ _|refine zj ?_|refine zi ?_ _));exact BK147.out)⟩;have n2_ : Aside0 (Below w.heap.size w w6):=⟨by rw [← hq_];exact (by repeat (first|(with_reducible first|exact HB.out|apply ze|apply zd|apply zf|refine zk ?_ GE147.out)|exact HB.out))⟩;clear HO0 BK147 HB hq_;have HO0:=n0_;have BK147:=n1_;have HB:=n2_;clear n0_ n1_ n2_)))|((with_reducible refine gate_callee (f:=58) rfl ?_);refine goesL_ (some 11) rfl rfl Try.func58 (by kernel_rfl) rfl #[.slice A0 l0.length c0, .int .i64 2] rfl (by (try simp only [List.map_toArray,List.map_cons,List.map_nil]);first|done|rfl|(simp only [List.length_drop,List.length_take];rfl)) ?_;(with_reducible refine (coder_at.calls _ _ l0 2 t150 _ ?side1 ?side2 A4.out).mono ?_);(case side1=>repeat (first|exact (Kd.V_reads' HO0.out).2.2|(with_reducible refine Kd.C_alloc ?_ _)|(with_reducible refine Kd.C_drewN ?_ _)|(with_reducible refine Kd.C_drew ?_)));(case side2=>exact (Kd.V_reads' HO0.out).2.1);rintro e w' ⟨rfl,⟨nd,rfl⟩⟩;refine ⟨_,rfl, ?_⟩;(try (rw [drewN_self w6];generalize hq_ : World.drewN w6 _=w6;have n0_ : Aside0 (Kd.V (Kd.int .u8) 5 w6 w.heap.size (fun k_=>(P0_ k_∨w.heap.size≤k_)∧k_≠gb147) (.slice A0 l0.length c0) l0):=⟨by rw [← hq_];exact (by (with_reducible repeat (first|apply zA|apply zB|apply zC));exact HO0.out)⟩;have n1_ : Aside0 (w6.heap[gb147]? = some (.cells #[.int .u64 0, .int .u32 0, .slice none 0 0, .int .i64 0] 43 (0,0))):=⟨by rw [← hq_];exact (by (with_reducible repeat (first|refine zh ?_ _|refine zj ?_|refine zi ?_ _));exact BK147.out)⟩;have n2_ : Aside0 (Below w.heap.size w w6):=⟨by rw [← hq_];exact (by repeat (first|(with_reducible first|exact HB.out|apply ze|apply zd|apply zf|refine zk ?_ GE147.out)|exact HB.out))⟩;clear HO0 BK147 HB hq_;have HO0:=n0_;have BK147:=n1_;have HB:=n2_;clear n0_ n1_ n2_)))|((with_reducible refine gate_callee (f:=58) rfl ?_);refine goesL_ (some 15) rfl rfl Try.func58 (by kernel_rfl) rfl #[.slice A0 l0.length c0, .int .i64 3] rfl (by (try simp only [List.map_toArray,List.map_cons,List.map_nil]);first|done|rfl|(simp only [List.length_drop,List.length_take];rfl)) ?_;(with_reducible refine (coder_at.calls _ _ l0 3 t151 _ ?side1 ?side2 A5.out).mono ?_);(case side1=>repeat (first|exact (Kd.V_reads' HO0.out).2.2|(with_reducible refine Kd.C_alloc ?_ _)|(with_reducible refine Kd.C_drewN ?_ _)|(with_reducible refine Kd.C_drew ?_)));(case side2=>exact (Kd.V_reads' HO0.out).2.1);rintro e w' ⟨rfl,⟨nd,rfl⟩⟩;refine ⟨_,rfl, ?_⟩;(try (rw [drewN_self w6];generalize hq_ : World.drewN w6 _=w6;have n0_ : Aside0 (Kd.V (Kd.int .u8) 5 w6 w.heap.size (fun k_=>(P0_ k_∨w.heap.size≤k_)∧k_≠gb147) (.slice A0 l0.length c0) l0):=⟨by rw [← hq_];exact (by (with_reducible repeat (first|apply zA|apply zB|apply zC));exact HO0.out)⟩;have n1_ : Aside0 (w6.heap[gb147]? = some (.cells #[.int .u64 0, .int .u32 0, .slice none 0 0, .int .i64 0] 43 (0,0))):=⟨by rw [← hq_];exact (by (with_reducible repeat (first|refine zh ?_ _|refine zj ?_|refine zi ?_ _));exact BK147.out)⟩;have n2_ : Aside0 (Below w.heap.size w w6):=⟨by rw [← hq_];exact (by repeat (first|(with_reducible first|exact HB.out|apply ze|apply zd|apply zf|refine zk ?_ GE147.out)|exact HB.out))⟩;clear HO0 BK147 HB hq_;have HO0:=n0_;have BK147:=n1_;have HB:=n2_;clear n0_ n1_ n2_));have hcz7_0 : w6.cell? ⟨gb147,0,none⟩=some (.int .u64 0):=(zs BK147.out 0).trans rfl;have hcz7_1 : w6.cell? ⟨gb147,1,none⟩=some (.int .u32 0):=(zs BK147.out 1).trans rfl;have hcz7_2 : w6.cell? ⟨gb147,2,none⟩=some (.slice none 0 0):=(zs BK147.out 2).trans rfl;have hcz7_3 : w6.cell? ⟨gb147,3,none⟩=some (.int .i64 0):=(zs BK147.out 3).trans rfl;have hfz7_0:=zx BK147.out 0;have hfz7_1:=zx BK147.out 1;have hfz7_2:=zx BK147.out 2;have hfz7_3:=zx BK147.out 3))
 refine bodyPost_ret (results_cell_row rfl _ _ gb147 43 #[.int .u64 (Go.bits .or .u64 (Go.bits .or .u64 (Go.bits .or .u64 (IntKind.u64.wrap (t148 * 16777216)) (IntKind.u64.wrap (t149 * 65536))) (IntKind.u64.wrap (t150 * 256))) t151), .int .u32 4294967295, .slice A0 l0.length c0, .int .i64 4] (0,0) _ rfl (by (with_reducible repeat (first|refine zh ?_ _|refine zj ?_|refine zi ?_ _));refine zw (cs := #[.int .u64 (Go.bits .or .u64 (Go.bits .or .u64 (Go.bits .or .u64 (IntKind.u64.wrap (t148 * 16777216)) (IntKind.u64.wrap (t149 * 65536))) (IntKind.u64.wrap (t150 * 256))) t151), .int .u32 4294967295, .slice A0 l0.length c0, .int .i64 0]) ?_ 3 _ rfl;(with_reducible repeat (first|refine zh ?_ _|refine zj ?_|refine zi ?_ _));refine zw (cs := #[.int .u64 (Go.bits .or .u64 (Go.bits .or .u64 (Go.bits .or .u64 (IntKind.u64.wrap (t148 * 16777216)) (IntKind.u64.wrap (t149 * 65536))) (IntKind.u64.wrap (t150 * 256))) t151), .int .u32 4294967295, .slice none 0 0, .int .i64 0]) ?_ 2 _ rfl;(with_reducible repeat (first|refine zh ?_ _|refine zj ?_|refine zi ?_ _));refine zw (cs := #[.int .u64 (Go.bits .or .u64 (Go.bits .or .u64 (Go.bits .or .u64 (IntKind.u64.wrap (t148 * 16777216)) (IntKind.u64.wrap (t149 * 65536))) (IntKind.u64.wrap (t150 * 256))) t151), .int .u32 0, .slice none 0 0, .int .i64 0]) ?_ 1 _ rfl;(with_reducible repeat (first|refine zh ?_ _|refine zj ?_|refine zi ?_ _));refine zw (cs := #[.int .u64 0, .int .u32 0, .slice none 0 0, .int .i64 0]) ?_ 0 _ rfl;(with_reducible repeat (first|refine zh ?_ _|refine zj ?_|refine zi ?_ _));exact BK147.out) Try.underlying43 rfl (by kernel_rfl)) rfl ?_
 exact ⟨_,by first|rfl|(simp [errW_none,errW_some] <;> rfl)|(simp [*,errW_none,errW_some] <;> rfl),by (with_reducible repeat (first|apply zA|apply zB|apply zC));exact zy (zI (p:=⟨gb147,3,none⟩) (zI (p:=⟨gb147,2,none⟩) (zI (p:=⟨gb147,1,none⟩) (zI (p:=⟨gb147,0,none⟩) (zy HO0.out (fun k_ hk=>(⟨hk,hk.2⟩ : _∧k_≠gb147))) (fun _ hk=>hk.2) (.int .u64 (Go.bits .or .u64 (Go.bits .or .u64 (Go.bits .or .u64 (IntKind.u64.wrap (t148 * 16777216)) (IntKind.u64.wrap (t149 * 65536))) (IntKind.u64.wrap (t150 * 256))) t151))) (fun _ hk=>hk.2) (.int .u32 4294967295)) (fun _ hk=>hk.2) (.slice A0 l0.length c0)) (fun _ hk=>hk.2) (.int .i64 4)) (fun _ hk=>hk.1.1),by repeat (first|(with_reducible first|exact HB.out|apply ze|apply zd|apply zf|refine zk ?_ GE147.out)|exact HB.out)⟩

end Go.Proofs.Ytkaoiblgfpphoaa.Prt

namespace Go.Proofs.Ytkaoiblgfpphoaa.Prt
open Go.RowKit Go.Proofs.YtkaoiblgfpphoaaW.PrintWords Go.Proofs.YtkaoiblgfpphoaaW.PrintLast Go.Proofs.YtkaoiblgfpphoaaW.PrintMore
attribute [local go_sem] max2_int min2_int max_two min_two max_three min_three max_four min_four   -- for this text's walks alone
set_option linter.unusedVariables false
set_option linter.unusedSimpArgs false

/-! ### coder_RightDec: function 28 -/
def coder_RightDec.f (a0_0 : Int) (a0_1 : Int) (l0_2 : List Int) (a0_3 : Int) : Option (Bool):=if a0_0≤4294967295 then (if a0_1 ≥ 16777216 then (some (decide (a0_3 ≥ 0))) else (some false)) else (some false)
set_option maxHeartbeats 8000000 in
set_option maxRecDepth 100000 in
theorem coder_RightDec.calls (a0_0 : Int) (a0_1 : Int) (A0_2 : Option Addr) (c0_2 : Nat) (l0_2 : List Int) (a0_3 : Int) (r : Bool) (w : World) (hr0_2 : Kd.C (Kd.int .u8) w A0_2 l0_2.length l0_2) (hc0_2 : l0_2.length≤c0_2) (h : coder_RightDec.f a0_0 a0_1 l0_2 a0_3=some r) :
  Calls Try.prog 28 #[.agg #[.int .u64 a0_0, .int .u32 a0_1, .slice A0_2 l0_2.length c0_2, .int .i64 a0_3]] w fun e w' => e=.returned (.bool r)∧Below w.heap.size w w' := by
 have hu43:=Try.underlying43;have HR0_2:=zm hr0_2;have HC0_2:=zm hc0_2;clear hr0_2 hc0_2;have HB:=zm (Below.refl w.heap.size w)
 have H : (if a0_0≤4294967295 then (if a0_1 ≥ 16777216 then (some (decide (a0_3 ≥ 0))) else (some false)) else (some false))=some r:=h
 clear h
 by_cases c2 : a0_0≤4294967295
 ·
  rw [if_pos c2] at H
  have c2b0 : decide (a0_0≤4294967295)=true:=decide_eq_true c2
  clear c2
  by_cases c3 : a0_1 ≥ 16777216
  ·
   rw [if_pos c3] at H
   have c3b0 : decide (16777216≤a0_1)=true:=decide_eq_true c3
   clear c3
   obtain rfl:=Option.some.inj H
   go_enter Try.func28,Try.ntmps28
   go_wp2_with (first|((with_reducible refine gate_dst (N:=1) rfl ?_);refine box_event ?hg (N:=1) ?hd (cs := #[.int .u64 a0_0, .int .u32 a0_1, .slice A0_2 l0_2.length c0_2, .int .i64 a0_3]) (t:=43) ?hr ?_;(case hd=>rfl);(case hg=>rfl);(case hr=>first|(go_simp;done)|(go_simp;rfl));intro gb152 hg w4 hbox hb;have n0_:=zm (zJ (by repeat (first|(with_reducible first|exact HB.out|apply ze|apply zd|apply zf)|exact HB.out)) hb);have n1_:=zm (hbox);have n2_:=zm ((by rw [hg];exact (zE (by repeat (first|(with_reducible first|exact HB.out|apply ze|apply zd|apply zf)|exact HB.out))) : w.heap.size≤gb152));have n3_:=zm ((by rw [hg];exact (zE (by repeat (first|(with_reducible first|exact HB.out|apply ze|apply zd|apply zf)|exact HB.out))) : w.heap.size≤gb152));clear HB;have HB:=n0_;have BK152:=n1_;have GW152:=n2_;have GE152:=n3_;clear n0_ n1_ n2_ n3_;clear hb hbox hg;have hcz5_0 : w4.cell? ⟨gb152,0,none⟩=some (.int .u64 a0_0):=(zs BK152.out 0).trans rfl;have hcz5_1 : w4.cell? ⟨gb152,1,none⟩=some (.int .u32 a0_1):=(zs BK152.out 1).trans rfl;have hcz5_2 : w4.cell? ⟨gb152,2,none⟩=some (.slice A0_2 l0_2.length c0_2):=(zs BK152.out 2).trans rfl;have hcz5_3 : w4.cell? ⟨gb152,3,none⟩=some (.int .i64 a0_3):=(zs BK152.out 3).trans rfl;have hfz5_0:=zx BK152.out 0;have hfz5_1:=zx BK152.out 1;have hfz5_2:=zx BK152.out 2;have hfz5_3:=zx BK152.out 3))
   go_ret
   exact ⟨by first|rfl|(simp [errW_none,errW_some] <;> rfl)|(simp [*,errW_none,errW_some] <;> rfl),by repeat (first|(with_reducible first|exact HB.out|apply ze|apply zd|apply zf|refine zk ?_ GE152.out)|exact HB.out)⟩
  ·
   rw [if_neg c3] at H
   have c3b0 : decide (16777216≤a0_1)=false:=decide_eq_false c3
   clear c3
   obtain rfl:=Option.some.inj H
   go_enter Try.func28,Try.ntmps28
   go_wp2_with (first|((with_reducible refine gate_dst (N:=1) rfl ?_);refine box_event ?hg (N:=1) ?hd (cs := #[.int .u64 a0_0, .int .u32 a0_1, .slice A0_2 l0_2.length c0_2, .int .i64 a0_3]) (t:=43) ?hr ?_;(case hd=>rfl);(case hg=>rfl);(case hr=>first|(go_simp;done)|(go_simp;rfl));intro gb152 hg w6 hbox hb;have n0_:=zm (zJ (by repeat (first|(with_reducible first|exact HB.out|apply ze|apply zd|apply zf)|exact HB.out)) hb);have n1_:=zm (hbox);have n2_:=zm ((by rw [hg];exact (zE (by repeat (first|(with_reducible first|exact HB.out|apply ze|apply zd|apply zf)|exact HB.out))) : w.heap.size≤gb152));have n3_:=zm ((by rw [hg];exact (zE (by repeat (first|(with_reducible first|exact HB.out|apply ze|apply zd|apply zf)|exact HB.out))) : w.heap.size≤gb152));clear HB;have HB:=n0_;have BK152:=n1_;have GW152:=n2_;have GE152:=n3_;clear n0_ n1_ n2_ n3_;clear hb hbox hg;have hcz7_0 : w6.cell? ⟨gb152,0,none⟩=some (.int .u64 a0_0):=(zs BK152.out 0).trans rfl;have hcz7_1 : w6.cell? ⟨gb152,1,none⟩=some (.int .u32 a0_1):=(zs BK152.out 1).trans rfl;have hcz7_2 : w6.cell? ⟨gb152,2,none⟩=some (.slice A0_2 l0_2.length c0_2):=(zs BK152.out 2).trans rfl;have hcz7_3 : w6.cell? ⟨gb152,3,none⟩=some (.int .i64 a0_3):=(zs BK152.out 3).trans rfl;have hfz7_0:=zx BK152.out 0;have hfz7_1:=zx BK152.out 1;have hfz7_2:=zx BK152.out 2;have hfz7_3:=zx BK152.out 3))
   go_ret
   exact ⟨by first|rfl|(simp [errW_none,errW_some] <;> rfl)|(simp [*,errW_none,errW_some] <;> rfl),by repeat (first|(with_reducible first|exact HB.out|apply ze|apply zd|apply zf|refine zk ?_ GE152.out)|exact HB.out)⟩
 ·
  rw [if_neg c2] at H
  have c2b0 : decide (a0_0≤4294967295)=false:=decide_eq_false c2
  clear c2
  obtain rfl:=Option.some.inj H
  go_enter Try.func28,Try.ntmps28
  go_wp2_with (first|((with_reducible refine gate_dst (N:=1) rfl ?_);refine box_event ?hg (N:=1) ?hd (cs := #[.int .u64 a0_0, .int .u32 a0_1, .slice A0_2 l0_2.length c0_2, .int .i64 a0_3]) (t:=43) ?hr ?_;(case hd=>rfl);(case hg=>rfl);(case hr=>first|(go_simp;done)|(go_simp;rfl));intro gb152 hg w8 hbox hb;have n0_:=zm (zJ (by repeat (first|(with_reducible first|exact HB.out|apply ze|apply zd|apply zf)|exact HB.out)) hb);have n1_:=zm (hbox);have n2_:=zm ((by rw [hg];exact (zE (by repeat (first|(with_reducible first|exact HB.out|apply ze|apply zd|apply zf)|exact HB.out))) : w.heap.size≤gb152));have n3_:=zm ((by rw [hg];exact (zE (by repeat (first|(with_reducible first|exact HB.out|apply ze|apply zd|apply zf)|exact HB.out))) : w.heap.size≤gb152));clear HB;have HB:=n0_;have BK152:=n1_;have GW152:=n2_;have GE152:=n3_;clear n0_ n1_ n2_ n3_;clear hb hbox hg;have hcz9_0 : w8.cell? ⟨gb152,0,none⟩=some (.int .u64 a0_0):=(zs BK152.out 0).trans rfl;have hcz9_1 : w8.cell? ⟨gb152,1,none⟩=some (.int .u32 a0_1):=(zs BK152.out 1).trans rfl;have hcz9_2 : w8.cell? ⟨gb152,2,none⟩=some (.slice A0_2 l0_2.length c0_2):=(zs BK152.out 2).trans rfl;have hcz9_3 : w8.cell? ⟨gb152,3,none⟩=some (.int .i64 a0_3):=(zs BK152.out 3).trans rfl;have hfz9_0:=zx BK152.out 0;have hfz9_1:=zx BK152.out 1;have hfz9_2:=zx BK152.out 2;have hfz9_3:=zx BK152.out 3))
  go_ret
  exact ⟨by first|rfl|(simp [errW_none,errW_some] <;> rfl)|(simp [*,errW_none,errW_some] <;> rfl),by repeat (first|(with_reducible first|exact HB.out|apply ze|apply zd|apply zf|refine zk ?_ GE152.out)|exact HB.out)⟩

end Go.Proofs.Ytkaoiblgfpphoaa.Prt

namespace Go.Proofs.Ytkaoiblgfpphoaa.Prt
open Go.RowKit Go.Proofs.YtkaoiblgfpphoaaW.PrintWords Go.Proofs.YtkaoiblgfpphoaaW.PrintLast Go.Proofs.YtkaoiblgfpphoaaW.PrintMore
attribute [local go_sem] max2_int min2_int max_two min_two max_three min_three max_four min_four   -- for this text's walks alone
set_option linter.unusedVariables false
set_option linter.unusedSimpArgs false

/-! ### coder_good: function 60 -/
def coder_good.f (a0_0 : Int) (a0_1 : Int) (l0_2 : List Int) (a0_3 : Int) : Option (Int × Int × List Int × Int):=(coder_RightDec.f a0_0 a0_1 l0_2 a0_3).bind fun t155=>(if t155=true then (some (a0_0,a0_1,l0_2,a0_3)) else ((coder_Open.f ([] : List Int)).bind fun bt156=>(some (bt156.1,bt156.2.1,bt156.2.2.1,bt156.2.2.2))))
set_option maxHeartbeats 8000000 in
set_option maxRecDepth 100000 in
theorem coder_good.calls (a0_0 : Int) (a0_1 : Int) (P0_2_ : Nat→Prop) (A0_2 : Option Addr) (c0_2 : Nat) (l0_2 : List Int) (a0_3 : Int) (r1 : Int) (r2 : Int) (r3 : List Int) (r4 : Int) (w : World) (hs0_2 : Kd.V (Kd.int .u8) 5 w w.heap.size (fun k_=>P0_2_ k_) (.slice A0_2 l0_2.length c0_2) l0_2) (h : coder_good.f a0_0 a0_1 l0_2 a0_3=some (r1,r2,r3,r4)) :
  Calls Try.prog 60 #[.agg #[.int .u64 a0_0, .int .u32 a0_1, .slice A0_2 l0_2.length c0_2, .int .i64 a0_3]] w fun e w' => ∃ v2_ : Value,e=.returned (.agg #[.int .u64 r1, .int .u32 r2,v2_, .int .i64 r4])∧Kd.V (Kd.int .u8) 5 w' w.heap.size (fun k_=>(P0_2_ k_∨w.heap.size≤k_)) v2_ r3∧Below w.heap.size w w' := by
 have hu43:=Try.underlying43
 have HO0_2:=zm (show Kd.V (Kd.int .u8) 5 w w.heap.size (fun k_=>(P0_2_ k_∨w.heap.size≤k_)) (.slice A0_2 l0_2.length c0_2) l0_2 from zy hs0_2 (fun k_ hk => .inl hk))
 have HB:=zm (Below.refl w.heap.size w)
 have H : ((coder_RightDec.f a0_0 a0_1 l0_2 a0_3).bind fun t155=>(if t155=true then (some (a0_0,a0_1,l0_2,a0_3)) else ((coder_Open.f ([] : List Int)).bind fun bt156=>(some (bt156.1,bt156.2.1,bt156.2.2.1,bt156.2.2.2)))))=some (r1,r2,r3,r4):=h
 clear h
 replace H:=Option.bind_eq_some_iff.mp H
 obtain ⟨t155,A20,H⟩:=H
 replace H : (if t155=true then (some (a0_0,a0_1,l0_2,a0_3)) else ((coder_Open.f ([] : List Int)).bind fun bt156=>(some (bt156.1,bt156.2.1,bt156.2.2.1,bt156.2.2.2))))=some (r1,r2,r3,r4):=H
 have A2:=zm A20;clear A20
 by_cases c3 : t155=true
 ·
  subst c3
  have H1 : (some (a0_0,a0_1,l0_2,a0_3))=some (r1,r2,r3,r4):=by rw [if_pos rfl] at H;exact H
  clear H;have H:=H1;clear H1
  simp only [Option.some.injEq,Prod.mk.injEq] at H
  obtain ⟨rfl,rfl,rfl,rfl⟩:=H
  go_enter Try.func60,Try.ntmps60
  go_wp2_with (first|((with_reducible refine gate_dst (N:=1) rfl ?_);refine box_event ?hg (N:=1) ?hd (cs := #[.int .u64 a0_0, .int .u32 a0_1, .slice A0_2 l0_2.length c0_2, .int .i64 a0_3]) (t:=43) ?hr ?_;(case hd=>rfl);(case hg=>rfl);(case hr=>first|(go_simp;done)|(go_simp;rfl));intro gb153 hg w4 hbox hb;have n0_:=zm (Kd.V_below (Kd.V_elderB (by (with_reducible repeat (first|apply zA|apply zB|apply zC));exact HO0_2.out) gb153 (Nat.le_of_eq hg.symm)) hb);have n1_:=zm (zJ (by repeat (first|(with_reducible first|exact HB.out|apply ze|apply zd|apply zf)|exact HB.out)) hb);have n2_:=zm (hbox);have n3_:=zm ((by rw [hg];exact (zE (by repeat (first|(with_reducible first|exact HB.out|apply ze|apply zd|apply zf)|exact HB.out))) : w.heap.size≤gb153));have n4_:=zm ((by rw [hg];exact (zE (by repeat (first|(with_reducible first|exact HB.out|apply ze|apply zd|apply zf)|exact HB.out))) : w.heap.size≤gb153));clear HO0_2;clear HB;have HO0_2:=n0_;have HB:=n1_;have BK153:=n2_;have GW153:=n3_;have GE153:=n4_;clear n0_ n1_ n2_ n3_ n4_;clear hb hbox hg)|((with_reducible refine gate_dst (N:=2) rfl ?_);refine box_event ?hg (N:=2) ?hd (cs := #[.int .u64 0, .int .u32 0, .slice none 0 0, .int .i64 0]) (t:=43) ?hr ?_;(case hd=>rfl);(case hg=>rfl);(case hr=>first|(go_simp;done)|(go_simp;rfl));intro gb154 hg w5 hbox hb;have n0_:=zm (Kd.V_below (Kd.V_elderB (by (with_reducible repeat (first|apply zA|apply zB|apply zC));exact HO0_2.out) gb154 (Nat.le_of_eq hg.symm)) hb);have n1_:=zm (zF (g:=gb153) (o:=.cells #[.int .u64 a0_0, .int .u32 a0_1, .slice A0_2 l0_2.length c0_2, .int .i64 a0_3] 43 (0,0)) (by (with_reducible repeat (first|refine zh ?_ _|refine zj ?_|refine zi ?_ _));exact BK153.out) hb);have n2_:=zm (zJ (by repeat (first|(with_reducible first|exact HB.out|apply ze|apply zd|apply zf|refine zk ?_ GE153.out)|exact HB.out)) hb);have n3_:=zm (hbox);have n4_:=zm ((by rw [hg];exact (zE (by repeat (first|(with_reducible first|exact HB.out|apply ze|apply zd|apply zf|refine zk ?_ GE153.out)|exact HB.out))) : w.heap.size≤gb154));have n5_:=zm ((by rw [hg];exact (zE (by repeat (first|(with_reducible first|exact HB.out|apply ze|apply zd|apply zf|refine zk ?_ GE153.out)|exact HB.out))) : w.heap.size≤gb154));have n6_:=zm ((by rw [hg];exact zn (zD (g:=gb153) (o:=.cells #[.int .u64 a0_0, .int .u32 a0_1, .slice A0_2 l0_2.length c0_2, .int .i64 a0_3] 43 (0,0)) (by (with_reducible repeat (first|refine zh ?_ _|refine zj ?_|refine zi ?_ _));exact BK153.out)) : gb153≠gb154));have n7_:=zm ((by rw [hg];exact zg (zD (g:=gb153) (o:=.cells #[.int .u64 a0_0, .int .u32 a0_1, .slice A0_2 l0_2.length c0_2, .int .i64 a0_3] 43 (0,0)) (by (with_reducible repeat (first|refine zh ?_ _|refine zj ?_|refine zi ?_ _));exact BK153.out)) : gb154≠gb153));clear HO0_2;clear BK153;clear HB;have HO0_2:=n0_;have BK153:=n1_;have HB:=n2_;have BK154:=n3_;have GW154:=n4_;have GE154:=n5_;have NB153_154:=n6_;have NB154_153:=n7_;clear n0_ n1_ n2_ n3_ n4_ n5_ n6_ n7_;clear hb hbox hg;have hnb6:=NB153_154.out;have hnc6:=NB154_153.out;have hcz7_0 : w5.cell? ⟨gb153,0,none⟩=some (.int .u64 a0_0):=(zs BK153.out 0).trans rfl;have hcz7_1 : w5.cell? ⟨gb153,1,none⟩=some (.int .u32 a0_1):=(zs BK153.out 1).trans rfl;have hcz7_2 : w5.cell? ⟨gb153,2,none⟩=some (.slice A0_2 l0_2.length c0_2):=(zs BK153.out 2).trans rfl;have hcz7_3 : w5.cell? ⟨gb153,3,none⟩=some (.int .i64 a0_3):=(zs BK153.out 3).trans rfl;have hfz7_0:=zx BK153.out 0;have hfz7_1:=zx BK153.out 1;have hfz7_2:=zx BK153.out 2;have hfz7_3:=zx BK153.out 3)|((with_reducible refine gate_callee (f:=28) rfl ?_);refine goesL_ (some 4) rfl rfl Try.func28 (by kernel_rfl) rfl #[.agg #[.int .u64 a0_0, .int .u32 a0_1, .slice A0_2 l0_2.length c0_2, .int .i64 a0_3]] rfl (by (try simp only [List.map_toArray,List.map_cons,List.map_nil]);first|done|rfl|(simp only [List.length_drop,List.length_take];rfl)) ?_;(with_reducible refine (coder_RightDec.calls a0_0 a0_1 _ _ l0_2 a0_3 true _ ?side1 ?side2 A2.out).mono ?_);(case side1=>repeat (first|exact (Kd.V_reads' HO0_2.out).2.2|(with_reducible refine Kd.C_alloc ?_ _)|(with_reducible refine Kd.C_drewN ?_ _)|(with_reducible refine Kd.C_drew ?_)));(case side2=>exact (Kd.V_reads' HO0_2.out).2.1);rintro e w8 ⟨rfl,hb⟩;refine ⟨_,rfl, ?_⟩;have n0_:=zm (Kd.V_below (by (with_reducible repeat (first|apply zA|apply zB|apply zC));exact HO0_2.out) hb);have n1_:=zm (zF (g:=gb153) (o:=.cells #[.int .u64 a0_0, .int .u32 a0_1, .slice A0_2 l0_2.length c0_2, .int .i64 a0_3] 43 (0,0)) (by (with_reducible repeat (first|refine zh ?_ _|refine zj ?_|refine zi ?_ _));exact BK153.out) hb);have n2_:=zm (zF (g:=gb154) (o:=.cells #[.int .u64 0, .int .u32 0, .slice none 0 0, .int .i64 0] 43 (0,0)) (by (with_reducible repeat (first|refine zh ?_ _|refine zj ?_|refine zi ?_ _));exact BK154.out) hb);have n3_:=zm (zJ (by repeat (first|(with_reducible first|exact HB.out|apply ze|apply zd|apply zf|refine zk ?_ GE153.out|refine zk ?_ GE154.out)|exact HB.out)) hb);clear HO0_2;clear BK153;clear BK154;clear HB;have HO0_2:=n0_;have BK153:=n1_;have BK154:=n2_;have HB:=n3_;clear n0_ n1_ n2_ n3_;(try clear hb);(try clear hb2);(try clear hk);(try clear hi);have hcz9_0 : w8.cell? ⟨gb153,0,none⟩=some (.int .u64 a0_0):=(zs BK153.out 0).trans rfl;have hcz9_1 : w8.cell? ⟨gb153,1,none⟩=some (.int .u32 a0_1):=(zs BK153.out 1).trans rfl;have hcz9_2 : w8.cell? ⟨gb153,2,none⟩=some (.slice A0_2 l0_2.length c0_2):=(zs BK153.out 2).trans rfl;have hcz9_3 : w8.cell? ⟨gb153,3,none⟩=some (.int .i64 a0_3):=(zs BK153.out 3).trans rfl;have hfz9_0:=zx BK153.out 0;have hfz9_1:=zx BK153.out 1;have hfz9_2:=zx BK153.out 2;have hfz9_3:=zx BK153.out 3;have hcz10_0 : w8.cell? ⟨gb154,0,none⟩=some (.int .u64 0):=(zs BK154.out 0).trans rfl;have hcz10_1 : w8.cell? ⟨gb154,1,none⟩=some (.int .u32 0):=(zs BK154.out 1).trans rfl;have hcz10_2 : w8.cell? ⟨gb154,2,none⟩=some (.slice none 0 0):=(zs BK154.out 2).trans rfl;have hcz10_3 : w8.cell? ⟨gb154,3,none⟩=some (.int .i64 0):=(zs BK154.out 3).trans rfl;have hfz10_0:=zx BK154.out 0;have hfz10_1:=zx BK154.out 1;have hfz10_2:=zx BK154.out 2;have hfz10_3:=zx BK154.out 3))
  refine bodyPost_ret (results_cell_row rfl _ _ gb154 43 #[.int .u64 a0_0, .int .u32 a0_1, .slice A0_2 l0_2.length c0_2, .int .i64 a0_3] (0,0) _ rfl (by (with_reducible repeat (first|refine zh ?_ _|refine zj ?_|refine zi ?_ _));refine zw (cs := #[.int .u64 a0_0, .int .u32 a0_1, .slice A0_2 l0_2.length c0_2, .int .i64 0]) ?_ 3 _ rfl;(with_reducible repeat (first|refine zh ?_ _|refine zj ?_|refine zi ?_ _));refine zw (cs := #[.int .u64 a0_0, .int .u32 a0_1, .slice none 0 0, .int .i64 0]) ?_ 2 _ rfl;(with_reducible repeat (first|refine zh ?_ _|refine zj ?_|refine zi ?_ _));refine zw (cs := #[.int .u64 a0_0, .int .u32 0, .slice none 0 0, .int .i64 0]) ?_ 1 _ rfl;(with_reducible repeat (first|refine zh ?_ _|refine zj ?_|refine zi ?_ _));refine zw (cs := #[.int .u64 0, .int .u32 0, .slice none 0 0, .int .i64 0]) ?_ 0 _ rfl;(with_reducible repeat (first|refine zh ?_ _|refine zj ?_|refine zi ?_ _));exact BK154.out) Try.underlying43 rfl (by kernel_rfl)) rfl ?_
  exact ⟨_,by first|rfl|(simp [errW_none,errW_some] <;> rfl)|(simp [*,errW_none,errW_some] <;> rfl),by (with_reducible repeat (first|apply zA|apply zB|apply zC));exact zy (zI (p:=⟨gb154,3,none⟩) (zI (p:=⟨gb154,2,none⟩) (zI (p:=⟨gb154,1,none⟩) (zI (p:=⟨gb154,0,none⟩) (zy HO0_2.out (fun k_ hk=>(⟨hk,hk.2⟩ : _∧k_≠gb154))) (fun _ hk=>hk.2) (.int .u64 a0_0)) (fun _ hk=>hk.2) (.int .u32 a0_1)) (fun _ hk=>hk.2) (.slice A0_2 l0_2.length c0_2)) (fun _ hk=>hk.2) (.int .i64 a0_3)) (fun _ hk=>hk.1.1.1),by repeat (first|(with_reducible first|exact HB.out|apply ze|apply zd|apply zf|refine zk ?_ GE153.out|refine zk ?_ GE154.out)|exact HB.out)⟩
 ·
  replace c3:=Bool.eq_false_iff.mpr c3
  subst c3
  have H1 : ((coder_Open.f ([] : List Int)).bind fun bt156=>(some (bt156.1,bt156.2.1,bt156.2.2.1,bt156.2.2.2)))=some (r1,r2,r3,r4):=by rw [if_neg (show ¬ (false=true) by decide)] at H;exact H
  clear H;have H:=H1;clear H1
  replace H:=Option.bind_eq_some_iff.mp H
  obtain ⟨⟨t156,t157,t158,t161⟩,A110,H⟩:=H
  replace H : (some (t156,t157,t158,t161))=some (r1,r2,r3,r4):=H
  have A11:=zm A110;clear A110
  simp only [Option.some.injEq,Prod.mk.injEq] at H
  obtain ⟨rfl,rfl,rfl,rfl⟩:=H
  go_enter Try.func60,Try.ntmps60
  go_wp2_with (first|((with_reducible refine gate_dst (N:=1) rfl ?_);refine box_event ?hg (N:=1) ?hd (cs := #[.int .u64 a0_0, .int .u32 a0_1, .slice A0_2 l0_2.length c0_2, .int .i64 a0_3]) (t:=43) ?hr ?_;(case hd=>rfl);(case hg=>rfl);(case hr=>first|(go_simp;done)|(go_simp;rfl));intro gb153 hg w12 hbox hb;have n0_:=zm (Kd.V_below (Kd.V_elderB (by (with_reducible repeat (first|apply zA|apply zB|apply zC));exact HO0_2.out) gb153 (Nat.le_of_eq hg.symm)) hb);have n1_:=zm (zJ (by repeat (first|(with_reducible first|exact HB.out|apply ze|apply zd|apply zf)|exact HB.out)) hb);have n2_:=zm (hbox);have n3_:=zm ((by rw [hg];exact (zE (by repeat (first|(with_reducible first|exact HB.out|apply ze|apply zd|apply zf)|exact HB.out))) : w.heap.size≤gb153));have n4_:=zm ((by rw [hg];exact (zE (by repeat (first|(with_reducible first|exact HB.out|apply ze|apply zd|apply zf)|exact HB.out))) : w.heap.size≤gb153));clear HO0_2;clear HB;have HO0_2:=n0_;have HB:=n1_;have BK153:=n2_;have GW153:=n3_;have GE153:=n4_;clear n0_ n1_ n2_ n3_ n4_;clear hb hbox hg)|((with_reducible refine gate_dst (N:=2) rfl ?_);refine box_event ?hg (N:=2) ?hd (cs := #[.int .u64 0, .int .u32 0, .slice none 0 0, .int .i64 0]) (t:=43) ?hr ?_;(case hd=>rfl);(case hg=>rfl);(case hr=>first|(go_simp;done)|(go_simp;rfl));intro gb154 hg w13 hbox hb;have n0_:=zm (Kd.V_below (Kd.V_elderB (by (with_reducible repeat (first|apply zA|apply zB|apply zC));exact HO0_2.out) gb154 (Nat.le_of_eq hg.symm)) hb);have n1_:=zm (zF (g:=gb153) (o:=.cells #[.int .u64 a0_0, .int .u32 a0_1, .slice A0_2 l0_2.length c0_2, .int .i64 a0_3] 43 (0,0)) (by (with_reducible repeat (first|refine zh ?_ _|refine zj ?_|refine zi ?_ _));exact BK153.out) hb);have n2_:=zm (zJ (by repeat (first|(with_reducible first|exact HB.out|apply ze|apply zd|apply zf|refine zk ?_ GE153.out)|exact HB.out)) hb);have n3_:=zm (hbox);have n4_:=zm ((by rw [hg];exact (zE (by repeat (first|(with_reducible first|exact HB.out|apply ze|apply zd|apply zf|refine zk ?_ GE153.out)|exact HB.out))) : w.heap.size≤gb154));have n5_:=zm ((by rw [hg];exact (zE (by repeat (first|(with_reducible first|exact HB.out|apply ze|apply zd|apply zf|refine zk ?_ GE153.out)|exact HB.out))) : w.heap.size≤gb154));have n6_:=zm ((by rw [hg];exact zn (zD (g:=gb153) (o:=.cells #[.int .u64 a0_0, .int .u32 a0_1, .slice A0_2 l0_2.length c0_2, .int .i64 a0_3] 43 (0,0)) (by (with_reducible repeat (first|refine zh ?_ _|refine zj ?_|refine zi ?_ _));exact BK153.out)) : gb153≠gb154));have n7_:=zm ((by rw [hg];exact zg (zD (g:=gb153) (o:=.cells #[.int .u64 a0_0, .int .u32 a0_1, .slice A0_2 l0_2.length c0_2, .int .i64 a0_3] 43 (0,0)) (by (with_reducible repeat (first|refine zh ?_ _|refine zj ?_|refine zi ?_ _));exact BK153.out)) : gb154≠gb153));clear HO0_2;clear BK153;clear HB;have HO0_2:=n0_;have BK153:=n1_;have HB:=n2_;have BK154:=n3_;have GW154:=n4_;have GE154:=n5_;have NB153_154:=n6_;have NB154_153:=n7_;clear n0_ n1_ n2_ n3_ n4_ n5_ n6_ n7_;clear hb hbox hg;have hnb14:=NB153_154.out;have hnc14:=NB154_153.out;have hcz15_0 : w13.cell? ⟨gb153,0,none⟩=some (.int .u64 a0_0):=(zs BK153.out 0).trans rfl;have hcz15_1 : w13.cell? ⟨gb153,1,none⟩=some (.int .u32 a0_1):=(zs BK153.out 1).trans rfl;have hcz15_2 : w13.cell? ⟨gb153,2,none⟩=some (.slice A0_2 l0_2.length c0_2):=(zs BK153.out 2).trans rfl;have hcz15_3 : w13.cell? ⟨gb153,3,none⟩=some (.int .i64 a0_3):=(zs BK153.out 3).trans rfl;have hfz15_0:=zx BK153.out 0;have hfz15_1:=zx BK153.out 1;have hfz15_2:=zx BK153.out 2;have hfz15_3:=zx BK153.out 3)|((with_reducible refine gate_callee (f:=28) rfl ?_);refine goesL_ (some 4) rfl rfl Try.func28 (by kernel_rfl) rfl #[.agg #[.int .u64 a0_0, .int .u32 a0_1, .slice A0_2 l0_2.length c0_2, .int .i64 a0_3]] rfl (by (try simp only [List.map_toArray,List.map_cons,List.map_nil]);first|done|rfl|(simp only [List.length_drop,List.length_take];rfl)) ?_;(with_reducible refine (coder_RightDec.calls a0_0 a0_1 _ _ l0_2 a0_3 false _ ?side1 ?side2 A2.out).mono ?_);(case side1=>repeat (first|exact (Kd.V_reads' HO0_2.out).2.2|(with_reducible refine Kd.C_alloc ?_ _)|(with_reducible refine Kd.C_drewN ?_ _)|(with_reducible refine Kd.C_drew ?_)));(case side2=>exact (Kd.V_reads' HO0_2.out).2.1);rintro e w16 ⟨rfl,hb⟩;refine ⟨_,rfl, ?_⟩;have n0_:=zm (Kd.V_below (by (with_reducible repeat (first|apply zA|apply zB|apply zC));exact HO0_2.out) hb);have n1_:=zm (zF (g:=gb153) (o:=.cells #[.int .u64 a0_0, .int .u32 a0_1, .slice A0_2 l0_2.length c0_2, .int .i64 a0_3] 43 (0,0)) (by (with_reducible repeat (first|refine zh ?_ _|refine zj ?_|refine zi ?_ _));exact BK153.out) hb);have n2_:=zm (zF (g:=gb154) (o:=.cells #[.int .u64 0, .int .u32 0, .slice none 0 0, .int .i64 0] 43 (0,0)) (by (with_reducible repeat (first|refine zh ?_ _|refine zj ?_|refine zi ?_ _));exact BK154.out) hb);have n3_:=zm (zJ (by repeat (first|(with_reducible first|exact HB.out|apply ze|apply zd|apply zf|refine zk ?_ GE153.out|refine zk ?_ GE154.out)|exact HB.out)) hb);clear HO0_2;clear BK153;clear BK154;clear HB;have HO0_2:=n0_;have BK153:=n1_;have BK154:=n2_;have HB:=n3_;clear n0_ n1_ n2_ n3_;(try clear hb);(try clear hb2);(try clear hk);(try clear hi))|((with_reducible refine gate_callee (f:=26) rfl ?_);refine goesL_ (some 6) rfl rfl Try.func26 (by kernel_rfl) rfl #[.slice none 0 0] rfl (by (try simp only [List.map_toArray,List.map_cons,List.map_nil]);first|done|rfl|(simp only [List.length_drop,List.length_take];rfl)) ?_;(refine (coder_Open.calls (fun k_=>False) _ _ ([] : List Int) t156 t157 t158 t161 _ ?side1 A11.out).mono ?_);(case side1=>exact Kd.V_nil _ _ _ _ _);rintro e w17 ⟨v159,rfl,ho0,hb⟩;refine ⟨_,rfl, ?_⟩;have n0_:=zm (Kd.V_below (by (with_reducible repeat (first|apply zA|apply zB|apply zC));exact HO0_2.out) hb);have n1_:=zm (Kd.V_lower (zy (ok' := fun k_=>(P0_2_ k_∨w.heap.size≤k_)∧k_≠gb153∧k_≠gb154) ho0 (fun k_ hk_=>⟨Or.elim hk_ (fun hs_=>(hs_).elim) (fun hn_=>(.inr (Nat.le_trans (zE (by repeat (first|(with_reducible first|exact HB.out|apply ze|apply zd|apply zf|refine zk ?_ GE153.out|refine zk ?_ GE154.out)|exact HB.out))) hn_))),Or.elim hk_ (fun hs_=>(hs_).elim) (fun hn_=>(Kd.freshB (g:=gb153) (o:=.cells #[.int .u64 a0_0, .int .u32 a0_1, .slice A0_2 l0_2.length c0_2, .int .i64 a0_3] 43 (0,0)) (by (with_reducible repeat (first|refine zh ?_ _|refine zj ?_|refine zi ?_ _));exact BK153.out) k_ hn_)),Or.elim hk_ (fun hs_=>(hs_).elim) (fun hn_=>(Kd.freshB (g:=gb154) (o:=.cells #[.int .u64 0, .int .u32 0, .slice none 0 0, .int .i64 0] 43 (0,0)) (by (with_reducible repeat (first|refine zh ?_ _|refine zj ?_|refine zi ?_ _));exact BK154.out) k_ hn_))⟩)) (zE (by repeat (first|(with_reducible first|exact HB.out|apply ze|apply zd|apply zf|refine zk ?_ GE153.out|refine zk ?_ GE154.out)|exact HB.out))));have n2_:=zm (zF (g:=gb153) (o:=.cells #[.int .u64 a0_0, .int .u32 a0_1, .slice A0_2 l0_2.length c0_2, .int .i64 a0_3] 43 (0,0)) (by (with_reducible repeat (first|refine zh ?_ _|refine zj ?_|refine zi ?_ _));exact BK153.out) hb);have n3_:=zm (zF (g:=gb154) (o:=.cells #[.int .u64 0, .int .u32 0, .slice none 0 0, .int .i64 0] 43 (0,0)) (by (with_reducible repeat (first|refine zh ?_ _|refine zj ?_|refine zi ?_ _));exact BK154.out) hb);have n4_:=zm (zJ (by repeat (first|(with_reducible first|exact HB.out|apply ze|apply zd|apply zf|refine zk ?_ GE153.out|refine zk ?_ GE154.out)|exact HB.out)) hb);clear HO0_2;clear BK153;clear BK154;clear HB;have HO0_2:=n0_;have HO160:=n1_;have BK153:=n2_;have BK154:=n3_;have HB:=n4_;clear n0_ n1_ n2_ n3_ n4_;(try clear hb);(try clear hb2);(try clear hk);(try clear hi);(try clear ho0);have hcz18_0 : w17.cell? ⟨gb154,0,none⟩=some (.int .u64 0):=(zs BK154.out 0).trans rfl;have hcz18_1 : w17.cell? ⟨gb154,1,none⟩=some (.int .u32 0):=(zs BK154.out 1).trans rfl;have hcz18_2 : w17.cell? ⟨gb154,2,none⟩=some (.slice none 0 0):=(zs BK154.out 2).trans rfl;have hcz18_3 : w17.cell? ⟨gb154,3,none⟩=some (.int .i64 0):=(zs BK154.out 3).trans rfl;have hfz18_0:=zx BK154.out 0;have hfz18_1:=zx BK154.out 1;have hfz18_2:=zx BK154.out 2;have hfz18_3:=zx BK154.out 3;obtain ⟨Ao19,co19,eo19⟩:=Kd.V_slice HO160.out;subst eo19))
  refine bodyPost_ret (results_cell_row rfl _ _ gb154 43 #[.int .u64 t156, .int .u32 t157, .slice Ao19 t158.length co19, .int .i64 t161] (0,0) _ rfl (by (with_reducible repeat (first|refine zh ?_ _|refine zj ?_|refine zi ?_ _));refine zw (cs := #[.int .u64 t156, .int .u32 t157, .slice Ao19 t158.length co19, .int .i64 0]) ?_ 3 _ rfl;(with_reducible repeat (first|refine zh ?_ _|refine zj ?_|refine zi ?_ _));refine zw (cs := #[.int .u64 t156, .int .u32 t157, .slice none 0 0, .int .i64 0]) ?_ 2 _ rfl;(with_reducible repeat (first|refine zh ?_ _|refine zj ?_|refine zi ?_ _));refine zw (cs := #[.int .u64 t156, .int .u32 0, .slice none 0 0, .int .i64 0]) ?_ 1 _ rfl;(with_reducible repeat (first|refine zh ?_ _|refine zj ?_|refine zi ?_ _));refine zw (cs := #[.int .u64 0, .int .u32 0, .slice none 0 0, .int .i64 0]) ?_ 0 _ rfl;(with_reducible repeat (first|refine zh ?_ _|refine zj ?_|refine zi ?_ _));exact BK154.out) Try.underlying43 rfl (by kernel_rfl)) rfl ?_
  exact ⟨_,by first|rfl|(simp [errW_none,errW_some] <;> rfl)|(simp [*,errW_none,errW_some] <;> rfl),by (with_reducible repeat (first|apply zA|apply zB|apply zC));exact zy (zI (p:=⟨gb154,3,none⟩) (zI (p:=⟨gb154,2,none⟩) (zI (p:=⟨gb154,1,none⟩) (zI (p:=⟨gb154,0,none⟩) (zy HO160.out (fun k_ hk=>(⟨hk,hk.2.2⟩ : _∧k_≠gb154))) (fun _ hk=>hk.2) (.int .u64 t156)) (fun _ hk=>hk.2) (.int .u32 t157)) (fun _ hk=>hk.2) (.slice Ao19 t158.length co19)) (fun _ hk=>hk.2) (.int .i64 t161)) (fun _ hk=>hk.1.1),by repeat (first|(with_reducible first|exact HB.out|apply ze|apply zd|apply zf|refine zk ?_ GE153.out|refine zk ?_ GE154.out)|exact HB.out)⟩

end Go.Proofs.Ytkaoiblgfpphoaa.Prt

namespace Go.Proofs.Ytkaoiblgfpphoaa.Prt
open Go.RowKit Go.Proofs.YtkaoiblgfpphoaaW.PrintWords Go.Proofs.YtkaoiblgfpphoaaW.PrintLast Go.Proofs.YtkaoiblgfpphoaaW.PrintMore
attribute [local go_sem] max2_int min2_int max_two min_two max_three min_three max_four min_four   -- for this text's walks alone
set_option linter.unusedVariables false
set_option linter.unusedSimpArgs false

/-! ### coder_Take: function 34 -/
def coder_Take.l0 : Nat→Int→Int→Int→List Int→Int→Option (Int × Int × List Int × Int × Int)
 | 0,_,_,_,_,_=>none
 | k+1,x10,x354000,x354001,x354002,x354003=>if x10 < 16777216 then ((coder_at.f x354002 x354003).bind fun t364=>(if x354003 < (x354002.length : Int) then (coder_Take.l0 k ((x10 * 256) % 4294967296) (Go.bits .or .u64 (Go.bits .and .u64 (IntKind.u64.wrap (x354000 * 256)) 4294967295) t364) x354001 x354002 (wrap64 (x354003+1))) else (coder_Take.l0 k ((x10 * 256) % 4294967296) (Go.bits .or .u64 (Go.bits .and .u64 (IntKind.u64.wrap (x354000 * 256)) 4294967295) t364) x354001 x354002 x354003))) else (some (x354000,x10,x354002,x354003,0))
def coder_Take.f (k : Nat) (a0_0 : Int) (a0_1 : Int) (l0_2 : List Int) (a0_3 : Int) (a1 : Int) (a2 : Int) (a3 : Int) : Option (Int × Int × List Int × Int × Int):=(coder_good.f a0_0 a0_1 l0_2 a0_3).bind fun bt355=>((coder_fair.f a1 a2 a3).bind fun t361=>(if t361=true then ((coder_part.f bt355.2.1 a1 a2 a3).bind fun bt362=>(coder_Take.l0 k bt362.1 (IntKind.u64.wrap (bt355.1 - (mn bt355.1 bt362.2))) bt355.2.1 bt355.2.2.1 bt355.2.2.2)) else (some (bt355.1,bt355.2.1,bt355.2.2.1,bt355.2.2.2,1))))
theorem coder_Take.mono_l : ∀ k,(∀ y0 y1 y2 y3 y4,LeO (coder_Take.l0 k y0 y1 y2 y3 y4) (coder_Take.l0 (k+1) y0 y1 y2 y3 y4))
 | 0=>fun _ _ _ _ _ r h=>by simp [coder_Take.l0] at h
 | k+1=>by
  have ih0:=coder_Take.mono_l k
  ·
   intro y0 y1 y2 y3 y4
   unfold coder_Take.l0
   repeat' first
   | (with_reducible exact ih0 _ _ _ _ _)
   | (with_reducible exact LeO.refl _)
   | (with_reducible exact LeO.none _)
   | (with_reducible refine LeO.ite ?_ ?_)
   | (with_reducible refine LeO.bind ?_ (fun _ => ?_))
   | exact ih0 _ _ _ _ _
   | exact LeO.none _
   | refine LeO.ite ?_ ?_
   | refine LeO.bind ?_ (fun _ => ?_)
theorem coder_Take.mono : ∀ a0 a1 a2 a3 a4 a5 a6 k,LeO (coder_Take.f k a0 a1 a2 a3 a4 a5 a6) (coder_Take.f (k+1) a0 a1 a2 a3 a4 a5 a6):=by
 intro a0 a1 a2 a3 a4 a5 a6 k
 have ih0:=coder_Take.mono_l k
 unfold coder_Take.f
 repeat' first
   | (with_reducible exact ih0 _ _ _ _ _)
   | (with_reducible exact LeO.refl _)
   | (with_reducible exact LeO.none _)
   | (with_reducible refine LeO.ite ?_ ?_)
   | (with_reducible refine LeO.bind ?_ (fun _ => ?_))
   | exact ih0 _ _ _ _ _
   | exact LeO.none _
   | refine LeO.ite ?_ ?_
   | refine LeO.bind ?_ (fun _ => ?_)
def coder_Take.T7 : Bool × List (List Nat × List Nat):=(true, [([], []),([0], [0]),([1], [1]),([2], [2]),([], []),([4], [4]),([], []),([6], [6]),([5,7], [5,7]),([3,8], [3,8]),([0,1,2,3,4,5,6,7,8,9], []),([10,9,8,0,1,2,3,4,5,6,7,8,9], [9,10])])
def coder_Take.B7 : List Nat := [0,1,3,7,0,16,0,64,240,511,1023,2047]
theorem coder_Take.tab7 : rtab .any (opsOf Try.f34 7)=coder_Take.T7:=by kernel_rfl
theorem coder_Take.bits7 : waitsOk coder_Take.T7.2 coder_Take.B7=true:=by kernel_rfl
set_option maxHeartbeats 8000000 in
set_option maxRecDepth 100000 in
theorem coder_Take.calls (k : Nat) (a0_0 : Int) (a0_1 : Int) (P0_2_ : Nat→Prop) (A0_2 : Option Addr) (c0_2 : Nat) (l0_2 : List Int) (a0_3 : Int) (a1 : Int) (a2 : Int) (a3 : Int) (r1 : Int) (r2 : Int) (r3 : List Int) (r4 : Int) (r5 : Int) (w : World) (hs0_2 : Kd.V (Kd.int .u8) 5 w w.heap.size (fun k_=>P0_2_ k_) (.slice A0_2 l0_2.length c0_2) l0_2) (h : coder_Take.f k a0_0 a0_1 l0_2 a0_3 a1 a2 a3=some (r1,r2,r3,r4,r5)) :
  Calls Try.prog 34 #[.agg #[.int .u64 a0_0, .int .u32 a0_1, .slice A0_2 l0_2.length c0_2, .int .i64 a0_3], .int .i64 a1, .int .i64 a2, .int .i64 a3] w fun e w' => ∃ v2_ : Value,e=.returned (.tuple #[.agg #[.int .u64 r1, .int .u32 r2,v2_, .int .i64 r4], .int .i64 r5])∧Kd.V (Kd.int .u8) 5 w' w.heap.size (fun k_=>(P0_2_ k_∨w.heap.size≤k_)) v2_ r3∧Below w.heap.size w w' := by
 have hu43:=Try.underlying43
 have HO0_2:=zm (show Kd.V (Kd.int .u8) 5 w w.heap.size (fun k_=>(P0_2_ k_∨w.heap.size≤k_)) (.slice A0_2 l0_2.length c0_2) l0_2 from zy hs0_2 (fun k_ hk => .inl hk))
 have HB:=zm (Below.refl w.heap.size w)
 have H : ((coder_good.f a0_0 a0_1 l0_2 a0_3).bind fun bt355=>((coder_fair.f a1 a2 a3).bind fun t361=>(if t361=true then ((coder_part.f bt355.2.1 a1 a2 a3).bind fun bt362=>(coder_Take.l0 k bt362.1 (IntKind.u64.wrap (bt355.1 - (mn bt355.1 bt362.2))) bt355.2.1 bt355.2.2.1 bt355.2.2.2)) else (some (bt355.1,bt355.2.1,bt355.2.2.1,bt355.2.2.2,1)))))=some (r1,r2,r3,r4,r5):=h
 clear h
 replace H:=Option.bind_eq_some_iff.mp H
 obtain ⟨⟨t355,t356,t357,t360⟩,A50,H⟩:=H
 replace H : ((coder_fair.f a1 a2 a3).bind fun t361=>(if t361=true then ((coder_part.f t356 a1 a2 a3).bind fun bt362=>(coder_Take.l0 k bt362.1 (IntKind.u64.wrap (t355 - (mn t355 bt362.2))) t356 t357 t360)) else (some (t355,t356,t357,t360,1))))=some (r1,r2,r3,r4,r5):=H
 have A5:=zm A50;clear A50
 replace H:=Option.bind_eq_some_iff.mp H
 obtain ⟨t361,A60,H⟩:=H
 replace H : (if t361=true then ((coder_part.f t356 a1 a2 a3).bind fun bt362=>(coder_Take.l0 k bt362.1 (IntKind.u64.wrap (t355 - (mn t355 bt362.2))) t356 t357 t360)) else (some (t355,t356,t357,t360,1)))=some (r1,r2,r3,r4,r5):=H
 have A6:=zm A60;clear A60
 by_cases c7 : t361=true
 ·
  subst c7
  have H1 : ((coder_part.f t356 a1 a2 a3).bind fun bt362=>(coder_Take.l0 k bt362.1 (IntKind.u64.wrap (t355 - (mn t355 bt362.2))) t356 t357 t360))=some (r1,r2,r3,r4,r5):=by rw [if_pos rfl] at H;exact H
  clear H;have H:=H1;clear H1
  replace H:=Option.bind_eq_some_iff.mp H
  obtain ⟨⟨t362,t363⟩,A80,H⟩:=H
  replace H : (coder_Take.l0 k t362 (IntKind.u64.wrap (t355 - (mn t355 t363))) t356 t357 t360)=some (r1,r2,r3,r4,r5):=H
  have A8:=zm A80;clear A80
  obtain ⟨ji9,hji9⟩ : ∃ j_ : Int,(mn t355 t363)=j_:=⟨_,rfl⟩
  replace H : (coder_Take.l0 k t362 (IntKind.u64.wrap (t355 - (ji9))) t356 t357 t360)=some (r1,r2,r3,r4,r5):=by first|(rw [hji9] at H;exact H)|(simp only [hji9] at H ⊢; exact H)
  (try rw [hji9] at A5)
  (try rw [hji9] at A6)
  (try rw [hji9] at A8)
  have hji9_ : (if t363 < t355 then t363 else t355)=ji9:=hji9
  have H' := zm H
  clear H
  go_enter Try.func34,Try.ntmps34
  go_wp2_with (first|((with_reducible refine gate_dst (N:=4) rfl ?_);refine box_event ?hg (N:=4) ?hd (cs := #[.int .u64 a0_0, .int .u32 a0_1, .slice A0_2 l0_2.length c0_2, .int .i64 a0_3]) (t:=43) ?hr ?_;(case hd=>rfl);(case hg=>rfl);(case hr=>first|(go_simp;done)|(go_simp;rfl));intro gb353 hg w10 hbox hb;have n0_:=zm (Kd.V_below (Kd.V_elderB (by (with_reducible repeat (first|apply zA|apply zB|apply zC));exact HO0_2.out) gb353 (Nat.le_of_eq hg.symm)) hb);have n1_:=zm (zJ (by repeat (first|(with_reducible first|exact HB.out|apply ze|apply zd|apply zf)|exact HB.out)) hb);have n2_:=zm (hbox);have n3_:=zm ((by rw [hg];exact (zE (by repeat (first|(with_reducible first|exact HB.out|apply ze|apply zd|apply zf)|exact HB.out))) : w.heap.size≤gb353));have n4_:=zm ((by rw [hg];exact (zE (by repeat (first|(with_reducible first|exact HB.out|apply ze|apply zd|apply zf)|exact HB.out))) : w.heap.size≤gb353));clear HO0_2;clear HB;have HO0_2:=n0_;have HB:=n1_;have BK353:=n2_;have GW353:=n3_;have GE353:=n4_;clear n0_ n1_ n2_ n3_ n4_;clear hb hbox hg)|((with_reducible refine gate_dst (N:=8) rfl ?_);refine box_event ?hg (N:=8) ?hd (cs := #[.int .u64 0, .int .u32 0, .slice none 0 0, .int .i64 0]) (t:=43) ?hr ?_;(case hd=>rfl);(case hg=>rfl);(case hr=>first|(go_simp;done)|(go_simp;rfl));intro gb354 hg w11 hbox hb;have n0_:=zm (Kd.V_below (Kd.V_elderB (by (with_reducible repeat (first|apply zA|apply zB|apply zC));exact HO0_2.out) gb354 (Nat.le_of_eq hg.symm)) hb);have n1_:=zm (zF (g:=gb353) (o:=.cells #[.int .u64 a0_0, .int .u32 a0_1, .slice A0_2 l0_2.length c0_2, .int .i64 a0_3] 43 (0,0)) (by (with_reducible repeat (first|refine zh ?_ _|refine zj ?_|refine zi ?_ _));exact BK353.out) hb);have n2_:=zm (zJ (by repeat (first|(with_reducible first|exact HB.out|apply ze|apply zd|apply zf|refine zk ?_ GE353.out)|exact HB.out)) hb);have n3_:=zm (hbox);have n4_:=zm ((by rw [hg];exact (zE (by repeat (first|(with_reducible first|exact HB.out|apply ze|apply zd|apply zf|refine zk ?_ GE353.out)|exact HB.out))) : w.heap.size≤gb354));have n5_:=zm ((by rw [hg];exact (zE (by repeat (first|(with_reducible first|exact HB.out|apply ze|apply zd|apply zf|refine zk ?_ GE353.out)|exact HB.out))) : w.heap.size≤gb354));have n6_:=zm ((by rw [hg];exact zn (zD (g:=gb353) (o:=.cells #[.int .u64 a0_0, .int .u32 a0_1, .slice A0_2 l0_2.length c0_2, .int .i64 a0_3] 43 (0,0)) (by (with_reducible repeat (first|refine zh ?_ _|refine zj ?_|refine zi ?_ _));exact BK353.out)) : gb353≠gb354));have n7_:=zm ((by rw [hg];exact zg (zD (g:=gb353) (o:=.cells #[.int .u64 a0_0, .int .u32 a0_1, .slice A0_2 l0_2.length c0_2, .int .i64 a0_3] 43 (0,0)) (by (with_reducible repeat (first|refine zh ?_ _|refine zj ?_|refine zi ?_ _));exact BK353.out)) : gb354≠gb353));clear HO0_2;clear BK353;clear HB;have HO0_2:=n0_;have BK353:=n1_;have HB:=n2_;have BK354:=n3_;have GW354:=n4_;have GE354:=n5_;have NB353_354:=n6_;have NB354_353:=n7_;clear n0_ n1_ n2_ n3_ n4_ n5_ n6_ n7_;clear hb hbox hg;have hnb12:=NB353_354.out;have hnc12:=NB354_353.out;have hcz13_0 : w11.cell? ⟨gb353,0,none⟩=some (.int .u64 a0_0):=(zs BK353.out 0).trans rfl;have hcz13_1 : w11.cell? ⟨gb353,1,none⟩=some (.int .u32 a0_1):=(zs BK353.out 1).trans rfl;have hcz13_2 : w11.cell? ⟨gb353,2,none⟩=some (.slice A0_2 l0_2.length c0_2):=(zs BK353.out 2).trans rfl;have hcz13_3 : w11.cell? ⟨gb353,3,none⟩=some (.int .i64 a0_3):=(zs BK353.out 3).trans rfl;have hfz13_0:=zx BK353.out 0;have hfz13_1:=zx BK353.out 1;have hfz13_2:=zx BK353.out 2;have hfz13_3:=zx BK353.out 3)|((with_reducible refine gate_callee (f:=60) rfl ?_);refine goesL_ (some 13) rfl rfl Try.func60 (by kernel_rfl) rfl #[.agg #[.int .u64 a0_0, .int .u32 a0_1, .slice A0_2 l0_2.length c0_2, .int .i64 a0_3]] rfl (by (try simp only [List.map_toArray,List.map_cons,List.map_nil]);first|done|rfl|(simp only [List.length_drop,List.length_take];rfl)) ?_;(with_reducible refine (coder_good.calls a0_0 a0_1 (fun k_=>(((P0_2_ k_∨w.heap.size≤k_)∧k_≠gb353)∧k_≠gb354)) _ _ l0_2 a0_3 t355 t356 t357 t360 _ ?side1 A5.out).mono ?_);(case side1=>exact HO0_2.out);rintro e w14 ⟨v358,rfl,ho0,hb⟩;refine ⟨_,rfl, ?_⟩;have n0_:=zm (Kd.V_below (by (with_reducible repeat (first|apply zA|apply zB|apply zC));exact HO0_2.out) hb);have n1_:=zm (Kd.V_lower (zy (ok' := fun k_=>(P0_2_ k_∨w.heap.size≤k_)∧k_≠gb353∧k_≠gb354) ho0 (fun k_ hk_=>⟨Or.elim hk_ (fun hs_=>hs_.1.1) (fun hn_=>(.inr (Nat.le_trans (zE (by repeat (first|(with_reducible first|exact HB.out|apply ze|apply zd|apply zf|refine zk ?_ GE353.out|refine zk ?_ GE354.out)|exact HB.out))) hn_))),Or.elim hk_ (fun hs_=>hs_.1.2) (fun hn_=>(Kd.freshB (g:=gb353) (o:=.cells #[.int .u64 a0_0, .int .u32 a0_1, .slice A0_2 l0_2.length c0_2, .int .i64 a0_3] 43 (0,0)) (by (with_reducible repeat (first|refine zh ?_ _|refine zj ?_|refine zi ?_ _));exact BK353.out) k_ hn_)),Or.elim hk_ (fun hs_=>hs_.2) (fun hn_=>(Kd.freshB (g:=gb354) (o:=.cells #[.int .u64 0, .int .u32 0, .slice none 0 0, .int .i64 0] 43 (0,0)) (by (with_reducible repeat (first|refine zh ?_ _|refine zj ?_|refine zi ?_ _));exact BK354.out) k_ hn_))⟩)) (zE (by repeat (first|(with_reducible first|exact HB.out|apply ze|apply zd|apply zf|refine zk ?_ GE353.out|refine zk ?_ GE354.out)|exact HB.out))));have n2_:=zm (zF (g:=gb353) (o:=.cells #[.int .u64 a0_0, .int .u32 a0_1, .slice A0_2 l0_2.length c0_2, .int .i64 a0_3] 43 (0,0)) (by (with_reducible repeat (first|refine zh ?_ _|refine zj ?_|refine zi ?_ _));exact BK353.out) hb);have n3_:=zm (zF (g:=gb354) (o:=.cells #[.int .u64 0, .int .u32 0, .slice none 0 0, .int .i64 0] 43 (0,0)) (by (with_reducible repeat (first|refine zh ?_ _|refine zj ?_|refine zi ?_ _));exact BK354.out) hb);have n4_:=zm (zJ (by repeat (first|(with_reducible first|exact HB.out|apply ze|apply zd|apply zf|refine zk ?_ GE353.out|refine zk ?_ GE354.out)|exact HB.out)) hb);clear HO0_2;clear BK353;clear BK354;clear HB;have HO0_2:=n0_;have HO359:=n1_;have BK353:=n2_;have BK354:=n3_;have HB:=n4_;clear n0_ n1_ n2_ n3_ n4_;(try clear hb);(try clear hb2);(try clear hk);(try clear hi);(try clear ho0);have hcz15_0 : w14.cell? ⟨gb353,0,none⟩=some (.int .u64 a0_0):=(zs BK353.out 0).trans rfl;have hcz15_1 : w14.cell? ⟨gb353,1,none⟩=some (.int .u32 a0_1):=(zs BK353.out 1).trans rfl;have hcz15_2 : w14.cell? ⟨gb353,2,none⟩=some (.slice A0_2 l0_2.length c0_2):=(zs BK353.out 2).trans rfl;have hcz15_3 : w14.cell? ⟨gb353,3,none⟩=some (.int .i64 a0_3):=(zs BK353.out 3).trans rfl;have hfz15_0:=zx BK353.out 0;have hfz15_1:=zx BK353.out 1;have hfz15_2:=zx BK353.out 2;have hfz15_3:=zx BK353.out 3;obtain ⟨Ao16,co16,eo16⟩:=Kd.V_slice HO359.out;subst eo16)|((with_reducible refine gate_store (t:=43) (p:=4) rfl ?_);refine store_event (t:=43) (p:=4) (v := ?vo_w17) (w1:=((((w14.setCell ⟨gb353,0,none⟩ (.int .u64 t355)).setCell ⟨gb353,1,none⟩ (.int .u32 t356)).setCell ⟨gb353,2,none⟩ (.slice Ao16 t357.length co16)).setCell ⟨gb353,3,none⟩ (.int .i64 t360))) ?hg ?ho ?hn ?hr ?_;(case ho=>rfl);(case hg=>rfl);(case hn=>rfl);(case hr=>first|(go_simp;done)|(go_simp;rfl));intro w17 hw;have n0_ : Aside0 (Kd.V (Kd.int .u8) 5 w17 w.heap.size (fun k_=>(P0_2_ k_∨w.heap.size≤k_)∧k_≠gb353∧k_≠gb354) (.slice A0_2 l0_2.length c0_2) l0_2):=⟨(by rw [hw];exact (by (with_reducible repeat (first|apply zA|apply zB|apply zC));exact zy (zI (p:=⟨gb353,3,none⟩) (zI (p:=⟨gb353,2,none⟩) (zI (p:=⟨gb353,1,none⟩) (zI (p:=⟨gb353,0,none⟩) (zy HO0_2.out (fun k_ hk=>(⟨hk,hk.1.2⟩ : _∧k_≠gb353))) (fun _ hk=>hk.2) (.int .u64 t355)) (fun _ hk=>hk.2) (.int .u32 t356)) (fun _ hk=>hk.2) (.slice Ao16 t357.length co16)) (fun _ hk=>hk.2) (.int .i64 t360)) (fun _ hk=>⟨hk.1.1.1,⟨hk.1.1.2,hk.1.2⟩⟩)))⟩;have n1_ : Aside0 (Kd.V (Kd.int .u8) 5 w17 w.heap.size (fun k_=>(P0_2_ k_∨w.heap.size≤k_)∧k_≠gb353∧k_≠gb354) (.slice Ao16 t357.length co16) t357):=⟨(by rw [hw];exact (by (with_reducible repeat (first|apply zA|apply zB|apply zC));exact zy (zI (p:=⟨gb353,3,none⟩) (zI (p:=⟨gb353,2,none⟩) (zI (p:=⟨gb353,1,none⟩) (zI (p:=⟨gb353,0,none⟩) (zy HO359.out (fun k_ hk=>(⟨hk,hk.2.1⟩ : _∧k_≠gb353))) (fun _ hk=>hk.2) (.int .u64 t355)) (fun _ hk=>hk.2) (.int .u32 t356)) (fun _ hk=>hk.2) (.slice Ao16 t357.length co16)) (fun _ hk=>hk.2) (.int .i64 t360)) (fun _ hk=>⟨hk.1.1,⟨hk.1.2.1,hk.1.2.2⟩⟩)))⟩;have n2_ : Aside0 (w17.heap[gb353]? = some (.cells #[.int .u64 t355, .int .u32 t356, .slice Ao16 t357.length co16, .int .i64 t360] 43 (0,0))):=⟨(by rw [hw];exact (by (with_reducible repeat (first|refine zh ?_ _|refine zj ?_|refine zi ?_ _));refine zw (cs := #[.int .u64 t355, .int .u32 t356, .slice Ao16 t357.length co16, .int .i64 a0_3]) ?_ 3 _ rfl;(with_reducible repeat (first|refine zh ?_ _|refine zj ?_|refine zi ?_ _));refine zw (cs := #[.int .u64 t355, .int .u32 t356, .slice A0_2 l0_2.length c0_2, .int .i64 a0_3]) ?_ 2 _ rfl;(with_reducible repeat (first|refine zh ?_ _|refine zj ?_|refine zi ?_ _));refine zw (cs := #[.int .u64 t355, .int .u32 a0_1, .slice A0_2 l0_2.length c0_2, .int .i64 a0_3]) ?_ 1 _ rfl;(with_reducible repeat (first|refine zh ?_ _|refine zj ?_|refine zi ?_ _));refine zw (cs := #[.int .u64 a0_0, .int .u32 a0_1, .slice A0_2 l0_2.length c0_2, .int .i64 a0_3]) ?_ 0 _ rfl;(with_reducible repeat (first|refine zh ?_ _|refine zj ?_|refine zi ?_ _));exact BK353.out))⟩;have n3_ : Aside0 (w17.heap[gb354]? = some (.cells #[.int .u64 0, .int .u32 0, .slice none 0 0, .int .i64 0] 43 (0,0))):=⟨(by rw [hw];exact (by (with_reducible repeat (first|refine zh ?_ _|refine zj ?_|refine zi ?_ _|refine zv ?_ NB354_353.out _));exact BK354.out))⟩;have n4_ : Aside0 (Below w.heap.size w w17):=⟨(by rw [hw];exact (by repeat (first|(with_reducible first|exact HB.out|apply ze|apply zd|apply zf|refine zk ?_ GE353.out|refine zk ?_ GE354.out)|exact HB.out)))⟩;clear hw;clear HO0_2;clear HO359;clear BK353;clear BK354;clear HB;have HO0_2:=n0_;have HO359:=n1_;have BK353:=n2_;have BK354:=n3_;have HB:=n4_;clear n0_ n1_ n2_ n3_ n4_)|((with_reducible refine gate_callee (f:=52) rfl ?_);refine goesL_ (some 17) rfl rfl Try.func52 (by kernel_rfl) rfl #[.int .i64 a1, .int .i64 a2, .int .i64 a3] rfl (by (try simp only [List.map_toArray,List.map_cons,List.map_nil]);first|done|rfl|(simp only [List.length_drop,List.length_take];rfl)) ?_;(with_reducible refine (coder_fair.calls a1 a2 a3 true _ A6.out).mono ?_);rintro e w' ⟨rfl,⟨nd,rfl⟩⟩;refine ⟨_,rfl, ?_⟩;(try (rw [drewN_self w17];generalize hq_ : World.drewN w17 _=w17;have n0_ : Aside0 (Kd.V (Kd.int .u8) 5 w17 w.heap.size (fun k_=>(P0_2_ k_∨w.heap.size≤k_)∧k_≠gb353∧k_≠gb354) (.slice A0_2 l0_2.length c0_2) l0_2):=⟨by rw [← hq_];exact (by (with_reducible repeat (first|apply zA|apply zB|apply zC));exact HO0_2.out)⟩;have n1_ : Aside0 (Kd.V (Kd.int .u8) 5 w17 w.heap.size (fun k_=>(P0_2_ k_∨w.heap.size≤k_)∧k_≠gb353∧k_≠gb354) (.slice Ao16 t357.length co16) t357):=⟨by rw [← hq_];exact (by (with_reducible repeat (first|apply zA|apply zB|apply zC));exact HO359.out)⟩;have n2_ : Aside0 (w17.heap[gb353]? = some (.cells #[.int .u64 t355, .int .u32 t356, .slice Ao16 t357.length co16, .int .i64 t360] 43 (0,0))):=⟨by rw [← hq_];exact (by (with_reducible repeat (first|refine zh ?_ _|refine zj ?_|refine zi ?_ _));exact BK353.out)⟩;have n3_ : Aside0 (w17.heap[gb354]? = some (.cells #[.int .u64 0, .int .u32 0, .slice none 0 0, .int .i64 0] 43 (0,0))):=⟨by rw [← hq_];exact (by (with_reducible repeat (first|refine zh ?_ _|refine zj ?_|refine zi ?_ _));exact BK354.out)⟩;have n4_ : Aside0 (Below w.heap.size w w17):=⟨by rw [← hq_];exact (by repeat (first|(with_reducible first|exact HB.out|apply ze|apply zd|apply zf|refine zk ?_ GE353.out|refine zk ?_ GE354.out)|exact HB.out))⟩;clear HO0_2 HO359 BK353 BK354 HB hq_;have HO0_2:=n0_;have HO359:=n1_;have BK353:=n2_;have BK354:=n3_;have HB:=n4_;clear n0_ n1_ n2_ n3_ n4_));have hcz18_0 : w17.cell? ⟨gb353,0,none⟩=some (.int .u64 t355):=(zs BK353.out 0).trans rfl;have hcz18_1 : w17.cell? ⟨gb353,1,none⟩=some (.int .u32 t356):=(zs BK353.out 1).trans rfl;have hcz18_2 : w17.cell? ⟨gb353,2,none⟩=some (.slice Ao16 t357.length co16):=(zs BK353.out 2).trans rfl;have hcz18_3 : w17.cell? ⟨gb353,3,none⟩=some (.int .i64 t360):=(zs BK353.out 3).trans rfl;have hfz18_0:=zx BK353.out 0;have hfz18_1:=zx BK353.out 1;have hfz18_2:=zx BK353.out 2;have hfz18_3:=zx BK353.out 3)|((with_reducible refine gate_callee (f:=53) rfl ?_);refine goesL_ (some 26) rfl rfl Try.func53 (by kernel_rfl) rfl #[.int .u32 t356, .int .i64 a1, .int .i64 a2, .int .i64 a3] rfl (by (try simp only [List.map_toArray,List.map_cons,List.map_nil]);first|done|rfl|(simp only [List.length_drop,List.length_take];rfl)) ?_;(with_reducible refine (coder_part.calls t356 a1 a2 a3 t362 t363 _ A8.out).mono ?_);rintro e w' ⟨rfl,⟨nd,rfl⟩⟩;refine ⟨_,rfl, ?_⟩;(try (rw [drewN_self w17];generalize hq_ : World.drewN w17 _=w17;have n0_ : Aside0 (Kd.V (Kd.int .u8) 5 w17 w.heap.size (fun k_=>(P0_2_ k_∨w.heap.size≤k_)∧k_≠gb353∧k_≠gb354) (.slice A0_2 l0_2.length c0_2) l0_2):=⟨by rw [← hq_];exact (by (with_reducible repeat (first|apply zA|apply zB|apply zC));exact HO0_2.out)⟩;have n1_ : Aside0 (Kd.V (Kd.int .u8) 5 w17 w.heap.size (fun k_=>(P0_2_ k_∨w.heap.size≤k_)∧k_≠gb353∧k_≠gb354) (.slice Ao16 t357.length co16) t357):=⟨by rw [← hq_];exact (by (with_reducible repeat (first|apply zA|apply zB|apply zC));exact HO359.out)⟩;have n2_ : Aside0 (w17.heap[gb353]? = some (.cells #[.int .u64 t355, .int .u32 t356, .slice Ao16 t357.length co16, .int .i64 t360] 43 (0,0))):=⟨by rw [← hq_];exact (by (with_reducible repeat (first|refine zh ?_ _|refine zj ?_|refine zi ?_ _));exact BK353.out)⟩;have n3_ : Aside0 (w17.heap[gb354]? = some (.cells #[.int .u64 0, .int .u32 0, .slice none 0 0, .int .i64 0] 43 (0,0))):=⟨by rw [← hq_];exact (by (with_reducible repeat (first|refine zh ?_ _|refine zj ?_|refine zi ?_ _));exact BK354.out)⟩;have n4_ : Aside0 (Below w.heap.size w w17):=⟨by rw [← hq_];exact (by repeat (first|(with_reducible first|exact HB.out|apply ze|apply zd|apply zf|refine zk ?_ GE353.out|refine zk ?_ GE354.out)|exact HB.out))⟩;clear HO0_2 HO359 BK353 BK354 HB hq_;have HO0_2:=n0_;have HO359:=n1_;have BK353:=n2_;have BK354:=n3_;have HB:=n4_;clear n0_ n1_ n2_ n3_ n4_));have hcz19_0 : w17.cell? ⟨gb353,0,none⟩=some (.int .u64 t355):=(zs BK353.out 0).trans rfl;have hcz19_1 : w17.cell? ⟨gb353,1,none⟩=some (.int .u32 t356):=(zs BK353.out 1).trans rfl;have hcz19_2 : w17.cell? ⟨gb353,2,none⟩=some (.slice Ao16 t357.length co16):=(zs BK353.out 2).trans rfl;have hcz19_3 : w17.cell? ⟨gb353,3,none⟩=some (.int .i64 t360):=(zs BK353.out 3).trans rfl;have hfz19_0:=zx BK353.out 0;have hfz19_1:=zx BK353.out 1;have hfz19_2:=zx BK353.out 2;have hfz19_3:=zx BK353.out 3))
  go_loopg [10] k (fun kq v10 w' => ∃ (x10_1 : Int) (x354000_1 : Int) (x354003_1 : Int),v10=.int .u32 x10_1∧Aside0 (coder_Take.l0 kq x10_1 x354000_1 t356 t357 x354003_1=some (r1,r2,r3,r4,r5))∧Aside0 (kq≤k)∧Aside0 (Kd.V (Kd.int .u8) 5 w' w.heap.size (fun k_=>(P0_2_ k_∨w.heap.size≤k_)∧k_≠gb353∧k_≠gb354) (.slice Ao16 t357.length co16) t357)∧Aside0 (w'.heap[gb353]? = some (.cells #[.int .u64 x354000_1, .int .u32 t356,(.slice Ao16 t357.length co16), .int .i64 x354003_1] 43 (0,0)))∧Aside0 (w'.heap[gb354]? = some (.cells #[.int .u64 0, .int .u32 0,(.slice none 0 0), .int .i64 0] 43 (0,0)))∧Aside0 (Below w.heap.size w w'))
  case atStart=>exact ⟨(t362),(IntKind.u64.wrap (t355 - (ji9))),(t360),(by first|rfl|(simp;done)|(simp [*];done)),H',⟨Nat.le_refl _⟩,⟨by (with_reducible repeat (first|apply zA|apply zB|apply zC));exact zy (zI (p:=⟨gb353,0,none⟩) (zy HO359.out (fun k_ hk=>(⟨hk,hk.2.1⟩ : _∧k_≠gb353))) (fun _ hk=>hk.2) (.int .u64 (IntKind.u64.wrap (t355 - (ji9))))) (fun _ hk=>⟨hk.1.1,⟨hk.1.2.1,hk.1.2.2⟩⟩)⟩,⟨by (with_reducible repeat (first|refine zh ?_ _|refine zj ?_|refine zi ?_ _));refine zw (cs := #[.int .u64 t355, .int .u32 t356, .slice Ao16 t357.length co16, .int .i64 t360]) ?_ 0 _ rfl;(with_reducible repeat (first|refine zh ?_ _|refine zj ?_|refine zi ?_ _));exact BK353.out⟩,⟨by (with_reducible repeat (first|refine zh ?_ _|refine zj ?_|refine zi ?_ _|refine zv ?_ NB354_353.out _));exact BK354.out⟩,⟨by repeat (first|(with_reducible first|exact HB.out|apply ze|apply zd|apply zf|refine zk ?_ GE353.out|refine zk ?_ GE354.out)|exact HB.out)⟩⟩
  case round =>
   clear H'
   try clear c1
   try clear p2
   try clear c3
   try clear c5
   try clear c6
   try clear c7
   try clear c12
   try clear hcz13_0
   try clear hcz13_1
   try clear hcz13_2
   try clear hcz13_3
   try clear hcz15_0
   try clear hcz15_1
   try clear hcz15_2
   try clear hcz15_3
   try clear hcz18_0
   try clear hcz18_1
   try clear hcz18_2
   try clear hcz18_3
   try clear hcz19_0
   try clear hcz19_1
   try clear hcz19_2
   try clear hcz19_3
   try clear hfz13_0
   try clear hfz13_1
   try clear hfz13_2
   try clear hfz13_3
   try clear hfz15_0
   try clear hfz15_1
   try clear hfz15_2
   try clear hfz15_3
   try clear hfz18_0
   try clear hfz18_1
   try clear hfz18_2
   try clear hfz18_3
   try clear hfz19_0
   try clear hfz19_1
   try clear hfz19_2
   try clear hfz19_3
   obtain ⟨x10_1,x354000_1,x354003_1,rfl,HA,HK1,HO_354002,BK353,BK354,HB⟩:=hrel
   cases gk with
   | zero=>exact absurd HA.out (by simp [coder_Take.l0])
   | succ k1 =>
    have H:=HA.out;clear HA
    simp only [coder_Take.l0] at H
    by_cases c20 : x10_1 < 16777216
    ·
     rw [if_pos c20] at H
     have c20b0 : decide (x10_1 < 16777216)=true:=decide_eq_true c20
     clear c20
     replace H:=Option.bind_eq_some_iff.mp H
     obtain ⟨t364,A210,H⟩:=H
     replace H : (if x354003_1 < (t357.length : Int) then (coder_Take.l0 k1 ((x10_1 * 256) % 4294967296) (Go.bits .or .u64 (Go.bits .and .u64 (IntKind.u64.wrap (x354000_1 * 256)) 4294967295) t364) t356 t357 (wrap64 (x354003_1+1))) else (coder_Take.l0 k1 ((x10_1 * 256) % 4294967296) (Go.bits .or .u64 (Go.bits .and .u64 (IntKind.u64.wrap (x354000_1 * 256)) 4294967295) t364) t356 t357 x354003_1))=some (r1,r2,r3,r4,r5):=H
     have A21:=zm A210;clear A210
     by_cases c22 : x354003_1 < (t357.length : Int)
     ·
      rw [if_pos c22] at H
      have c22b0 : decide (x354003_1 < (t357.length : Int))=true:=decide_eq_true c22
      clear c22
      have H' := zm H
      clear H
      try go_wp2
      have n0_:=zm (zC HO_354002.out);have n1_:=zm (zj BK353.out);have n2_:=zm (zj BK354.out);have n3_:=zm (zf HB.out);clear HO_354002;clear BK353;clear BK354;clear HB;have HO_354002:=n0_;have BK353:=n1_;have BK354:=n2_;have HB:=n3_;clear n0_ n1_ n2_ n3_
      refine start_ (n:=12) (S:=fun w' => w'.cell? ⟨gb353,0,none⟩=some (.int .u64 x354000_1)∧w'.cell? ⟨gb353,1,none⟩=some (.int .u32 t356)∧w'.cell? ⟨gb353,2,none⟩=some (.slice Ao16 t357.length co16)∧w'.cell? ⟨gb353,3,none⟩=some (.int .i64 x354003_1)) (ds := [11]) #[false,false,false,false,false,false,false,false,false,false,false,false] (by kernel_rfl) rfl rfl ⟨(zs BK353.out 0).trans rfl,(zs BK353.out 1).trans rfl,(zs BK353.out 2).trans rfl,(zs BK353.out 3).trans rfl⟩ (fun hHeld => ?_);refine with_tabW coder_Take.tab7 coder_Take.bits7 (fun HT_ HW_ => ?_)
      generalize wr.drew=w23 at HO_354002 BK353 BK354 HB hHeld ⊢
      refine pure_ (i:=0) (N:=some 39) (v := ?_) (a' := ?_) #[true,false,false,false,false,false,false,false,false,false,false,false] rfl rfl (any_of HT_.out (by kernel_rfl)) (fun _ _ _ h=>h) (Or.inl ⟨by rfl, ?_⟩) ?_ ?_
      rotate_left
      ·
       intro w'
       go_simp
       with_reducible rfl
      rotate_left
      ·
       simp only [Act.put,List.setIfInBounds_toArray,List.set_cons_zero,List.set_cons_succ,i64_w,i32_w]
       rfl
      refine pure_ (i:=4) (N:=some 43) (v := ?_) (a' := ?_) #[true,false,false,false,true,false,false,false,false,false,false,false] rfl rfl (any_of HT_.out (by kernel_rfl)) (fun _ _ _ h=>h) (Or.inl ⟨by rfl, ?_⟩) ?_ ?_
      rotate_left
      ·
       intro w'
       go_simp
       with_reducible rfl
      rotate_left
      ·
       simp only [Act.put,List.setIfInBounds_toArray,List.set_cons_zero,List.set_cons_succ,i64_w,i32_w]
       rfl
      refine pure_ (i:=6) (N:=some 45) (v := ?_) (a' := ?_) #[true,false,false,false,true,false,true,false,false,false,false,false] rfl rfl (any_of HT_.out (by kernel_rfl)) (fun _ _ _ h=>h) (Or.inl ⟨by rfl, ?_⟩) ?_ ?_
      rotate_left
      ·
       intro w'
       go_simp
       with_reducible rfl
      rotate_left
      ·
       simp only [Act.put,List.setIfInBounds_toArray,List.set_cons_zero,List.set_cons_succ,i64_w,i32_w]
       rfl
      refine take_ (i:=1) (N:=some 40) (v := ?_) (a' := ?_) #[true,true,false,false,true,false,true,false,false,false,false,false] rfl rfl (take_ofW HT_.out HW_.out (by kernel_rfl)) (fun _ _ _ h=>h) (Or.inl ⟨by rfl, ?_⟩) hHeld ?_ ?_
      rotate_left
      ·
       rintro w' ⟨s0,s1,s2,s3⟩
       go_simp
       with_reducible rfl
      rotate_left
      ·
       simp only [Act.put,List.setIfInBounds_toArray,List.set_cons_zero,List.set_cons_succ,i64_w,i32_w]
       rfl
      refine pure_ (i:=2) (N:=some 41) (v := ?_) (a' := ?_) #[true,true,true,false,true,false,true,false,false,false,false,false] rfl rfl (any_of HT_.out (by kernel_rfl)) (fun _ _ _ h=>h) (Or.inl ⟨by rfl, ?_⟩) ?_ ?_
      rotate_left
      ·
       intro w'
       go_simp
       with_reducible rfl
      rotate_left
      ·
       simp only [Act.put,List.setIfInBounds_toArray,List.set_cons_zero,List.set_cons_succ,i64_w,i32_w]
       rfl
      refine pure_ (i:=3) (N:=some 42) (v := ?_) (a' := ?_) #[true,true,true,true,true,false,true,false,false,false,false,false] rfl rfl (any_of HT_.out (by kernel_rfl)) (fun _ _ _ h=>h) (Or.inl ⟨by rfl, ?_⟩) ?_ ?_
      rotate_left
      ·
       intro w'
       go_simp
       with_reducible rfl
      rotate_left
      ·
       simp only [Act.put,List.setIfInBounds_toArray,List.set_cons_zero,List.set_cons_succ,i64_w,i32_w]
       rfl
      refine take_ (i:=5) (N:=some 44) (v := ?_) (a' := ?_) #[true,true,true,true,true,true,true,false,false,false,false,false] rfl rfl (take_ofW HT_.out HW_.out (by kernel_rfl)) (fun _ _ _ h=>h) (Or.inl ⟨by rfl, ?_⟩) hHeld ?_ ?_
      rotate_left
      ·
       rintro w' ⟨s0,s1,s2,s3⟩
       go_simp
       with_reducible rfl
      rotate_left
      ·
       simp only [Act.put,List.setIfInBounds_toArray,List.set_cons_zero,List.set_cons_succ,i64_w,i32_w]
       rfl
      refine take_ (i:=7) (N:=some 46) (v := ?_) (a' := ?_) #[true,true,true,true,true,true,true,true,false,false,false,false] rfl rfl (take_ofW HT_.out HW_.out (by kernel_rfl)) (fun _ _ _ h=>h) (Or.inl ⟨by rfl, ?_⟩) hHeld ?_ ?_
      rotate_left
      ·
       rintro w' ⟨s0,s1,s2,s3⟩
       go_simp
       with_reducible rfl
      rotate_left
      ·
       simp only [Act.put,List.setIfInBounds_toArray,List.set_cons_zero,List.set_cons_succ,i64_w,i32_w]
       rfl
      refine one_ (i:=8) (N:=some 47) #[true,true,true,true,true,true,true,true,true,false,false,false] rfl rfl (one_of HT_.out (by kernel_rfl)) (by decide) (fun K hK => ?_)
      refine goes_ Try.func58 (by kernel_rfl) rfl #[.slice Ao16 t357.length co16, .int .i64 x354003_1] (by rfl) rfl rfl (by (try simp only [List.map_toArray,List.map_cons,List.map_nil]);first|done|rfl|(simp only [List.length_drop,List.length_take];rfl)) ?_
      with_reducible refine (coder_at.calls _ _ t357 x354003_1 t364 _ ?side1 ?side2 A21.out).mono ?_
      (case side1=>repeat (first|exact (Kd.V_reads' HO_354002.out).2.2|(with_reducible refine Kd.C_alloc ?_ _)|(with_reducible refine Kd.C_drewN ?_ _)|(with_reducible refine Kd.C_drew ?_)))
      (case side2=>exact (Kd.V_reads' HO_354002.out).2.1)
      rintro e w' ⟨rfl,⟨nd,rfl⟩⟩
      refine ⟨_,rfl, ?_⟩
      refine hK.out _ _ ⟨(zs BK353.out 0).trans rfl,(zs BK353.out 1).trans rfl,(zs BK353.out 2).trans rfl,(zs BK353.out 3).trans rfl⟩ (fun hHeld => ?_)
      clear hK K
      refine norm_ (a' := ?_) ?_ ?_
      rotate_left
      ·
       show Act.put _ (some 47) _=_
       simp only [Act.put,List.setIfInBounds_toArray,List.set_cons_zero,List.set_cons_succ,i64_w,i32_w]
       rfl
      refine pure_ (i:=9) (N:=some 48) (v := ?_) (a' := ?_) #[true,true,true,true,true,true,true,true,true,true,false,false] rfl rfl (any_of HT_.out (by kernel_rfl)) (fun _ _ _ h=>h) (Or.inl ⟨by rfl, ?_⟩) ?_ ?_
      rotate_left
      ·
       intro w'
       go_simp
       with_reducible rfl
      rotate_left
      ·
       simp only [Act.put,List.setIfInBounds_toArray,List.set_cons_zero,List.set_cons_succ,i64_w,i32_w]
       rfl
      refine pure_ (i:=10) (N:=some 49) (v := ?_) (a' := ?_) #[true,true,true,true,true,true,true,true,true,true,true,false] rfl rfl (any_of HT_.out (by kernel_rfl)) (fun _ _ _ h=>h) (Or.inl ⟨by rfl, ?_⟩) ?_ ?_
      rotate_left
      ·
       intro w'
       go_simp
       with_reducible rfl
      rotate_left
      ·
       simp only [Act.put,List.setIfInBounds_toArray,List.set_cons_zero,List.set_cons_succ,i64_w,i32_w]
       rfl
      refine last_ (i:=11) (N:=none) #[true,true,true,true,true,true,true,true,true,true,true,true] rfl rfl (one_of HT_.out (by kernel_rfl)) (by decide) (fun K hK => ?_)
      have hs24 : w23.cell? ⟨gb353,0,none⟩=some (.int .u64 x354000_1):=(zs BK353.out 0).trans rfl
      have hfs24:=zx BK353.out 0
      have hns24_1:=NB354_353.out;have hms24_1:=NB353_354.out
      refine skip_ (w1 := ?_) (by rfl) rfl ?_ ?_
      rotate_left
      ·
       go_simp
       rfl
      refine hK.out _ _ ?_
      clear hK K
      refine done_ (done_of HT_.out (by kernel_rfl)) ?_
      have hnb25:=NB353_354.out;have hnc25:=NB354_353.out
      have hcz26_0 : w23.cell? ⟨gb353,0,none⟩=some (.int .u64 x354000_1):=(zs BK353.out 0).trans rfl
      have hcz26_1 : w23.cell? ⟨gb353,1,none⟩=some (.int .u32 t356):=(zs BK353.out 1).trans rfl
      have hcz26_2 : w23.cell? ⟨gb353,2,none⟩=some (.slice Ao16 t357.length co16):=(zs BK353.out 2).trans rfl
      have hcz26_3 : w23.cell? ⟨gb353,3,none⟩=some (.int .i64 x354003_1):=(zs BK353.out 3).trans rfl
      have hfz26_0:=zx BK353.out 0
      have hfz26_1:=zx BK353.out 1
      have hfz26_2:=zx BK353.out 2
      have hfz26_3:=zx BK353.out 3
      try go_wp2
      go_roundg k1
      case measure=>have:=HK1.out;omega
      case rel=>exact ⟨((x10_1 * 256) % 4294967296),(Go.bits .or .u64 (Go.bits .and .u64 (IntKind.u64.wrap (x354000_1 * 256)) 4294967295) t364),(wrap64 (x354003_1+1)),(by first|rfl|(simp;done)|(simp [*];done)),H',⟨by have:=HK1.out;omega⟩,⟨by (with_reducible repeat (first|apply zA|apply zB|apply zC));exact zy (zI (p:=⟨gb353,3,none⟩) (zI (p:=⟨gb353,0,none⟩) (zy HO_354002.out (fun k_ hk=>(⟨hk,hk.2.1⟩ : _∧k_≠gb353))) (fun _ hk=>hk.2) (.int .u64 (Go.bits .or .u64 (Go.bits .and .u64 (IntKind.u64.wrap (x354000_1 * 256)) 4294967295) t364))) (fun _ hk=>hk.2) (.int .i64 (wrap64 (x354003_1+1)))) (fun _ hk=>⟨hk.1.1,⟨hk.1.2.1,hk.1.2.2⟩⟩)⟩,⟨by (with_reducible repeat (first|refine zh ?_ _|refine zj ?_|refine zi ?_ _));refine zw (cs := #[.int .u64 (Go.bits .or .u64 (Go.bits .and .u64 (IntKind.u64.wrap (x354000_1 * 256)) 4294967295) t364), .int .u32 t356, .slice Ao16 t357.length co16, .int .i64 x354003_1]) ?_ 3 _ rfl;(with_reducible repeat (first|refine zh ?_ _|refine zj ?_|refine zi ?_ _));refine zw (cs := #[.int .u64 x354000_1, .int .u32 t356, .slice Ao16 t357.length co16, .int .i64 x354003_1]) ?_ 0 _ rfl;(with_reducible repeat (first|refine zh ?_ _|refine zj ?_|refine zi ?_ _));exact BK353.out⟩,⟨by (with_reducible repeat (first|refine zh ?_ _|refine zj ?_|refine zi ?_ _|refine zv ?_ NB354_353.out _));exact BK354.out⟩,⟨by repeat (first|(with_reducible first|exact HB.out|apply ze|apply zd|apply zf|refine zk ?_ GE353.out|refine zk ?_ GE354.out)|exact HB.out)⟩⟩
     ·
      rw [if_neg c22] at H
      have c22b0 : decide (x354003_1 < (t357.length : Int))=false:=decide_eq_false c22
      clear c22
      have H' := zm H
      clear H
      try go_wp2
      have n0_:=zm (zC HO_354002.out);have n1_:=zm (zj BK353.out);have n2_:=zm (zj BK354.out);have n3_:=zm (zf HB.out);clear HO_354002;clear BK353;clear BK354;clear HB;have HO_354002:=n0_;have BK353:=n1_;have BK354:=n2_;have HB:=n3_;clear n0_ n1_ n2_ n3_
      refine start_ (n:=12) (S:=fun w' => w'.cell? ⟨gb353,0,none⟩=some (.int .u64 x354000_1)∧w'.cell? ⟨gb353,1,none⟩=some (.int .u32 t356)∧w'.cell? ⟨gb353,2,none⟩=some (.slice Ao16 t357.length co16)∧w'.cell? ⟨gb353,3,none⟩=some (.int .i64 x354003_1)) (ds := [11]) #[false,false,false,false,false,false,false,false,false,false,false,false] (by kernel_rfl) rfl rfl ⟨(zs BK353.out 0).trans rfl,(zs BK353.out 1).trans rfl,(zs BK353.out 2).trans rfl,(zs BK353.out 3).trans rfl⟩ (fun hHeld => ?_);refine with_tabW coder_Take.tab7 coder_Take.bits7 (fun HT_ HW_ => ?_)
      generalize wr.drew=w27 at HO_354002 BK353 BK354 HB hHeld ⊢
      refine pure_ (i:=0) (N:=some 39) (v := ?_) (a' := ?_) #[true,false,false,false,false,false,false,false,false,false,false,false] rfl rfl (any_of HT_.out (by kernel_rfl)) (fun _ _ _ h=>h) (Or.inl ⟨by rfl, ?_⟩) ?_ ?_
      rotate_left
      ·
       intro w'
       go_simp
       with_reducible rfl
      rotate_left
      ·
       simp only [Act.put,List.setIfInBounds_toArray,List.set_cons_zero,List.set_cons_succ,i64_w,i32_w]
       rfl
      refine pure_ (i:=4) (N:=some 43) (v := ?_) (a' := ?_) #[true,false,false,false,true,false,false,false,false,false,false,false] rfl rfl (any_of HT_.out (by kernel_rfl)) (fun _ _ _ h=>h) (Or.inl ⟨by rfl, ?_⟩) ?_ ?_
      rotate_left
      ·
       intro w'
       go_simp
       with_reducible rfl
      rotate_left
      ·
       simp only [Act.put,List.setIfInBounds_toArray,List.set_cons_zero,List.set_cons_succ,i64_w,i32_w]
       rfl
      refine pure_ (i:=6) (N:=some 45) (v := ?_) (a' := ?_) #[true,false,false,false,true,false,true,false,false,false,false,false] rfl rfl (any_of HT_.out (by kernel_rfl)) (fun _ _ _ h=>h) (Or.inl ⟨by rfl, ?_⟩) ?_ ?_
      rotate_left
      ·
       intro w'
       go_simp
       with_reducible rfl
      rotate_left
      ·
       simp only [Act.put,List.setIfInBounds_toArray,List.set_cons_zero,List.set_cons_succ,i64_w,i32_w]
       rfl
      refine take_ (i:=1) (N:=some 40) (v := ?_) (a' := ?_) #[true,true,false,false,true,false,true,false,false,false,false,false] rfl rfl (take_ofW HT_.out HW_.out (by kernel_rfl)) (fun _ _ _ h=>h) (Or.inl ⟨by rfl, ?_⟩) hHeld ?_ ?_
      rotate_left
      ·
       rintro w' ⟨s0,s1,s2,s3⟩
       go_simp
       with_reducible rfl
      rotate_left
      ·
       simp only [Act.put,List.setIfInBounds_toArray,List.set_cons_zero,List.set_cons_succ,i64_w,i32_w]
       rfl
      refine pure_ (i:=2) (N:=some 41) (v := ?_) (a' := ?_) #[true,true,true,false,true,false,true,false,false,false,false,false] rfl rfl (any_of HT_.out (by kernel_rfl)) (fun _ _ _ h=>h) (Or.inl ⟨by rfl, ?_⟩) ?_ ?_
      rotate_left
      ·
       intro w'
       go_simp
       with_reducible rfl
      rotate_left
      ·
       simp only [Act.put,List.setIfInBounds_toArray,List.set_cons_zero,List.set_cons_succ,i64_w,i32_w]
       rfl
      refine pure_ (i:=3) (N:=some 42) (v := ?_) (a' := ?_) #[true,true,true,true,true,false,true,false,false,false,false,false] rfl rfl (any_of HT_.out (by kernel_rfl)) (fun _ _ _ h=>h) (Or.inl ⟨by rfl, ?_⟩) ?_ ?_
      rotate_left
      ·
       intro w'
       go_simp
       with_reducible rfl
      rotate_left
      ·
       simp only [Act.put,List.setIfInBounds_toArray,List.set_cons_zero,List.set_cons_succ,i64_w,i32_w]
       rfl
      refine take_ (i:=5) (N:=some 44) (v := ?_) (a' := ?_) #[true,true,true,true,true,true,true,false,false,false,false,false] rfl rfl (take_ofW HT_.out HW_.out (by kernel_rfl)) (fun _ _ _ h=>h) (Or.inl ⟨by rfl, ?_⟩) hHeld ?_ ?_
      rotate_left
      ·
       rintro w' ⟨s0,s1,s2,s3⟩
       go_simp
       with_reducible rfl
      rotate_left
      ·
       simp only [Act.put,List.setIfInBounds_toArray,List.set_cons_zero,List.set_cons_succ,i64_w,i32_w]
       rfl
      refine take_ (i:=7) (N:=some 46) (v := ?_) (a' := ?_) #[true,true,true,true,true,true,true,true,false,false,false,false] rfl rfl (take_ofW HT_.out HW_.out (by kernel_rfl)) (fun _ _ _ h=>h) (Or.inl ⟨by rfl, ?_⟩) hHeld ?_ ?_
      rotate_left
      ·
       rintro w' ⟨s0,s1,s2,s3⟩
       go_simp
       with_reducible rfl
      rotate_left
      ·
       simp only [Act.put,List.setIfInBounds_toArray,List.set_cons_zero,List.set_cons_succ,i64_w,i32_w]
       rfl
      refine one_ (i:=8) (N:=some 47) #[true,true,true,true,true,true,true,true,true,false,false,false] rfl rfl (one_of HT_.out (by kernel_rfl)) (by decide) (fun K hK => ?_)
      refine goes_ Try.func58 (by kernel_rfl) rfl #[.slice Ao16 t357.length co16, .int .i64 x354003_1] (by rfl) rfl rfl (by (try simp only [List.map_toArray,List.map_cons,List.map_nil]);first|done|rfl|(simp only [List.length_drop,List.length_take];rfl)) ?_
      with_reducible refine (coder_at.calls _ _ t357 x354003_1 t364 _ ?side1 ?side2 A21.out).mono ?_
      (case side1=>repeat (first|exact (Kd.V_reads' HO_354002.out).2.2|(with_reducible refine Kd.C_alloc ?_ _)|(with_reducible refine Kd.C_drewN ?_ _)|(with_reducible refine Kd.C_drew ?_)))
      (case side2=>exact (Kd.V_reads' HO_354002.out).2.1)
      rintro e w' ⟨rfl,⟨nd,rfl⟩⟩
      refine ⟨_,rfl, ?_⟩
      refine hK.out _ _ ⟨(zs BK353.out 0).trans rfl,(zs BK353.out 1).trans rfl,(zs BK353.out 2).trans rfl,(zs BK353.out 3).trans rfl⟩ (fun hHeld => ?_)
      clear hK K
      refine norm_ (a' := ?_) ?_ ?_
      rotate_left
      ·
       show Act.put _ (some 47) _=_
       simp only [Act.put,List.setIfInBounds_toArray,List.set_cons_zero,List.set_cons_succ,i64_w,i32_w]
       rfl
      refine pure_ (i:=9) (N:=some 48) (v := ?_) (a' := ?_) #[true,true,true,true,true,true,true,true,true,true,false,false] rfl rfl (any_of HT_.out (by kernel_rfl)) (fun _ _ _ h=>h) (Or.inl ⟨by rfl, ?_⟩) ?_ ?_
      rotate_left
      ·
       intro w'
       go_simp
       with_reducible rfl
      rotate_left
      ·
       simp only [Act.put,List.setIfInBounds_toArray,List.set_cons_zero,List.set_cons_succ,i64_w,i32_w]
       rfl
      refine pure_ (i:=10) (N:=some 49) (v := ?_) (a' := ?_) #[true,true,true,true,true,true,true,true,true,true,true,false] rfl rfl (any_of HT_.out (by kernel_rfl)) (fun _ _ _ h=>h) (Or.inl ⟨by rfl, ?_⟩) ?_ ?_
      rotate_left
      ·
       intro w'
       go_simp
       with_reducible rfl
      rotate_left
      ·
       simp only [Act.put,List.setIfInBounds_toArray,List.set_cons_zero,List.set_cons_succ,i64_w,i32_w]
       rfl
      refine last_ (i:=11) (N:=none) #[true,true,true,true,true,true,true,true,true,true,true,true] rfl rfl (one_of HT_.out (by kernel_rfl)) (by decide) (fun K hK => ?_)
      have hs28 : w27.cell? ⟨gb353,0,none⟩=some (.int .u64 x354000_1):=(zs BK353.out 0).trans rfl
      have hfs28:=zx BK353.out 0
      have hns28_1:=NB354_353.out;have hms28_1:=NB353_354.out
      refine skip_ (w1 := ?_) (by rfl) rfl ?_ ?_
      rotate_left
      ·
       go_simp
       rfl
      refine hK.out _ _ ?_
      clear hK K
      refine done_ (done_of HT_.out (by kernel_rfl)) ?_
      have hnb29:=NB353_354.out;have hnc29:=NB354_353.out
      have hcz30_0 : w27.cell? ⟨gb353,0,none⟩=some (.int .u64 x354000_1):=(zs BK353.out 0).trans rfl
      have hcz30_1 : w27.cell? ⟨gb353,1,none⟩=some (.int .u32 t356):=(zs BK353.out 1).trans rfl
      have hcz30_2 : w27.cell? ⟨gb353,2,none⟩=some (.slice Ao16 t357.length co16):=(zs BK353.out 2).trans rfl
      have hcz30_3 : w27.cell? ⟨gb353,3,none⟩=some (.int .i64 x354003_1):=(zs BK353.out 3).trans rfl
      have hfz30_0:=zx BK353.out 0
      have hfz30_1:=zx BK353.out 1
      have hfz30_2:=zx BK353.out 2
      have hfz30_3:=zx BK353.out 3
      try go_wp2
      go_roundg k1
      case measure=>have:=HK1.out;omega
      case rel=>exact ⟨((x10_1 * 256) % 4294967296),(Go.bits .or .u64 (Go.bits .and .u64 (IntKind.u64.wrap (x354000_1 * 256)) 4294967295) t364),(x354003_1),(by first|rfl|(simp;done)|(simp [*];done)),H',⟨by have:=HK1.out;omega⟩,⟨by (with_reducible repeat (first|apply zA|apply zB|apply zC));exact zy (zI (p:=⟨gb353,0,none⟩) (zy HO_354002.out (fun k_ hk=>(⟨hk,hk.2.1⟩ : _∧k_≠gb353))) (fun _ hk=>hk.2) (.int .u64 (Go.bits .or .u64 (Go.bits .and .u64 (IntKind.u64.wrap (x354000_1 * 256)) 4294967295) t364))) (fun _ hk=>⟨hk.1.1,⟨hk.1.2.1,hk.1.2.2⟩⟩)⟩,⟨by (with_reducible repeat (first|refine zh ?_ _|refine zj ?_|refine zi ?_ _));refine zw (cs := #[.int .u64 x354000_1, .int .u32 t356, .slice Ao16 t357.length co16, .int .i64 x354003_1]) ?_ 0 _ rfl;(with_reducible repeat (first|refine zh ?_ _|refine zj ?_|refine zi ?_ _));exact BK353.out⟩,⟨by (with_reducible repeat (first|refine zh ?_ _|refine zj ?_|refine zi ?_ _|refine zv ?_ NB354_353.out _));exact BK354.out⟩,⟨by repeat (first|(with_reducible first|exact HB.out|apply ze|apply zd|apply zf|refine zk ?_ GE353.out|refine zk ?_ GE354.out)|exact HB.out)⟩⟩
    ·
     rw [if_neg c20] at H
     have c20b0 : decide (x10_1 < 16777216)=false:=decide_eq_false c20
     clear c20
     simp only [Option.some.injEq,Prod.mk.injEq] at H
     obtain ⟨rfl,rfl,rfl,rfl,rfl⟩:=H
     have hnb31:=NB353_354.out;have hnc31:=NB354_353.out
     have hcz32_0 : wr.cell? ⟨gb353,0,none⟩=some (.int .u64 x354000_1):=(zs BK353.out 0).trans rfl
     have hcz32_1 : wr.cell? ⟨gb353,1,none⟩=some (.int .u32 t356):=(zs BK353.out 1).trans rfl
     have hcz32_2 : wr.cell? ⟨gb353,2,none⟩=some (.slice Ao16 t357.length co16):=(zs BK353.out 2).trans rfl
     have hcz32_3 : wr.cell? ⟨gb353,3,none⟩=some (.int .i64 x354003_1):=(zs BK353.out 3).trans rfl
     have hfz32_0:=zx BK353.out 0
     have hfz32_1:=zx BK353.out 1
     have hfz32_2:=zx BK353.out 2
     have hfz32_3:=zx BK353.out 3
     have hcz33_0 : wr.cell? ⟨gb354,0,none⟩=some (.int .u64 0):=(zs BK354.out 0).trans rfl
     have hcz33_1 : wr.cell? ⟨gb354,1,none⟩=some (.int .u32 0):=(zs BK354.out 1).trans rfl
     have hcz33_2 : wr.cell? ⟨gb354,2,none⟩=some (.slice none 0 0):=(zs BK354.out 2).trans rfl
     have hcz33_3 : wr.cell? ⟨gb354,3,none⟩=some (.int .i64 0):=(zs BK354.out 3).trans rfl
     have hfz33_0:=zx BK354.out 0
     have hfz33_1:=zx BK354.out 1
     have hfz33_2:=zx BK354.out 2
     have hfz33_3:=zx BK354.out 3
     go_wp2
     refine bodyPost_ret (results_ct rfl _ _ gb354 43 #[.int .u64 x354000_1, .int .u32 x10_1, .slice Ao16 t357.length co16, .int .i64 x354003_1] (0,0) _ rfl (by (with_reducible repeat (first|refine zh ?_ _|refine zj ?_|refine zi ?_ _));refine zw (cs := #[.int .u64 x354000_1, .int .u32 x10_1, .slice Ao16 t357.length co16, .int .i64 0]) ?_ 3 _ rfl;(with_reducible repeat (first|refine zh ?_ _|refine zj ?_|refine zi ?_ _));refine zw (cs := #[.int .u64 x354000_1, .int .u32 x10_1, .slice none 0 0, .int .i64 0]) ?_ 2 _ rfl;(with_reducible repeat (first|refine zh ?_ _|refine zj ?_|refine zi ?_ _));refine zw (cs := #[.int .u64 x354000_1, .int .u32 0, .slice none 0 0, .int .i64 0]) ?_ 1 _ rfl;(with_reducible repeat (first|refine zh ?_ _|refine zj ?_|refine zi ?_ _));refine zw (cs := #[.int .u64 0, .int .u32 0, .slice none 0 0, .int .i64 0]) ?_ 0 _ rfl;(with_reducible repeat (first|refine zh ?_ _|refine zj ?_|refine zi ?_ _|refine zv ?_ NB354_353.out _));exact BK354.out) Try.underlying43 rfl (by kernel_rfl)) rfl ?_
     exact ⟨_,by first|rfl|(simp [errW_none,errW_some] <;> rfl)|(simp only [← hji9];first|rfl|(simp [errW_none,errW_some] <;> rfl))|(simp [*,errW_none,errW_some] <;> rfl),by (with_reducible repeat (first|apply zA|apply zB|apply zC));exact zy (zI (p:=⟨gb354,3,none⟩) (zI (p:=⟨gb354,2,none⟩) (zI (p:=⟨gb354,1,none⟩) (zI (p:=⟨gb354,0,none⟩) (zI (p:=⟨gb353,1,none⟩) (zy (zy HO_354002.out (fun k_ hk=>(⟨hk,hk.2.1⟩ : _∧k_≠gb353))) (fun k_ hk=>(⟨hk,hk.1.2.2⟩ : _∧k_≠gb354))) (fun _ hk=>hk.1.2) (.int .u32 x10_1)) (fun _ hk=>hk.2) (.int .u64 x354000_1)) (fun _ hk=>hk.2) (.int .u32 x10_1)) (fun _ hk=>hk.2) (.slice Ao16 t357.length co16)) (fun _ hk=>hk.2) (.int .i64 x354003_1)) (fun _ hk=>hk.1.1.1),by repeat (first|(with_reducible first|exact HB.out|apply ze|apply zd|apply zf|refine zk ?_ GE353.out|refine zk ?_ GE354.out)|exact HB.out)⟩
 ·
  replace c7:=Bool.eq_false_iff.mpr c7
  subst c7
  have H1 : (some (t355,t356,t357,t360,1))=some (r1,r2,r3,r4,r5):=by rw [if_neg (show ¬ (false=true) by decide)] at H;exact H
  clear H;have H:=H1;clear H1
  simp only [Option.some.injEq,Prod.mk.injEq] at H
  obtain ⟨rfl,rfl,rfl,rfl,rfl⟩:=H
  go_enter Try.func34,Try.ntmps34
  go_wp2_with (first|((with_reducible refine gate_dst (N:=4) rfl ?_);refine box_event ?hg (N:=4) ?hd (cs := #[.int .u64 a0_0, .int .u32 a0_1, .slice A0_2 l0_2.length c0_2, .int .i64 a0_3]) (t:=43) ?hr ?_;(case hd=>rfl);(case hg=>rfl);(case hr=>first|(go_simp;done)|(go_simp;rfl));intro gb353 hg w34 hbox hb;have n0_:=zm (Kd.V_below (Kd.V_elderB (by (with_reducible repeat (first|apply zA|apply zB|apply zC));exact HO0_2.out) gb353 (Nat.le_of_eq hg.symm)) hb);have n1_:=zm (zJ (by repeat (first|(with_reducible first|exact HB.out|apply ze|apply zd|apply zf)|exact HB.out)) hb);have n2_:=zm (hbox);have n3_:=zm ((by rw [hg];exact (zE (by repeat (first|(with_reducible first|exact HB.out|apply ze|apply zd|apply zf)|exact HB.out))) : w.heap.size≤gb353));have n4_:=zm ((by rw [hg];exact (zE (by repeat (first|(with_reducible first|exact HB.out|apply ze|apply zd|apply zf)|exact HB.out))) : w.heap.size≤gb353));clear HO0_2;clear HB;have HO0_2:=n0_;have HB:=n1_;have BK353:=n2_;have GW353:=n3_;have GE353:=n4_;clear n0_ n1_ n2_ n3_ n4_;clear hb hbox hg)|((with_reducible refine gate_dst (N:=8) rfl ?_);refine box_event ?hg (N:=8) ?hd (cs := #[.int .u64 0, .int .u32 0, .slice none 0 0, .int .i64 0]) (t:=43) ?hr ?_;(case hd=>rfl);(case hg=>rfl);(case hr=>first|(go_simp;done)|(go_simp;rfl));intro gb354 hg w35 hbox hb;have n0_:=zm (Kd.V_below (Kd.V_elderB (by (with_reducible repeat (first|apply zA|apply zB|apply zC));exact HO0_2.out) gb354 (Nat.le_of_eq hg.symm)) hb);have n1_:=zm (zF (g:=gb353) (o:=.cells #[.int .u64 a0_0, .int .u32 a0_1, .slice A0_2 l0_2.length c0_2, .int .i64 a0_3] 43 (0,0)) (by (with_reducible repeat (first|refine zh ?_ _|refine zj ?_|refine zi ?_ _));exact BK353.out) hb);have n2_:=zm (zJ (by repeat (first|(with_reducible first|exact HB.out|apply ze|apply zd|apply zf|refine zk ?_ GE353.out)|exact HB.out)) hb);have n3_:=zm (hbox);have n4_:=zm ((by rw [hg];exact (zE (by repeat (first|(with_reducible first|exact HB.out|apply ze|apply zd|apply zf|refine zk ?_ GE353.out)|exact HB.out))) : w.heap.size≤gb354));have n5_:=zm ((by rw [hg];exact (zE (by repeat (first|(with_reducible first|exact HB.out|apply ze|apply zd|apply zf|refine zk ?_ GE353.out)|exact HB.out))) : w.heap.size≤gb354));have n6_:=zm ((by rw [hg];exact zn (zD (g:=gb353) (o:=.cells #[.int .u64 a0_0, .int .u32 a0_1, .slice A0_2 l0_2.length c0_2, .int .i64 a0_3] 43 (0,0)) (by (with_reducible repeat (first|refine zh ?_ _|refine zj ?_|refine zi ?_ _));exact BK353.out)) : gb353≠gb354));have n7_:=zm ((by rw [hg];exact zg (zD (g:=gb353) (o:=.cells #[.int .u64 a0_0, .int .u32 a0_1, .slice A0_2 l0_2.length c0_2, .int .i64 a0_3] 43 (0,0)) (by (with_reducible repeat (first|refine zh ?_ _|refine zj ?_|refine zi ?_ _));exact BK353.out)) : gb354≠gb353));clear HO0_2;clear BK353;clear HB;have HO0_2:=n0_;have BK353:=n1_;have HB:=n2_;have BK354:=n3_;have GW354:=n4_;have GE354:=n5_;have NB353_354:=n6_;have NB354_353:=n7_;clear n0_ n1_ n2_ n3_ n4_ n5_ n6_ n7_;clear hb hbox hg;have hnb36:=NB353_354.out;have hnc36:=NB354_353.out;have hcz37_0 : w35.cell? ⟨gb353,0,none⟩=some (.int .u64 a0_0):=(zs BK353.out 0).trans rfl;have hcz37_1 : w35.cell? ⟨gb353,1,none⟩=some (.int .u32 a0_1):=(zs BK353.out 1).trans rfl;have hcz37_2 : w35.cell? ⟨gb353,2,none⟩=some (.slice A0_2 l0_2.length c0_2):=(zs BK353.out 2).trans rfl;have hcz37_3 : w35.cell? ⟨gb353,3,none⟩=some (.int .i64 a0_3):=(zs BK353.out 3).trans rfl;have hfz37_0:=zx BK353.out 0;have hfz37_1:=zx BK353.out 1;have hfz37_2:=zx BK353.out 2;have hfz37_3:=zx BK353.out 3)|((with_reducible refine gate_callee (f:=60) rfl ?_);refine goesL_ (some 13) rfl rfl Try.func60 (by kernel_rfl) rfl #[.agg #[.int .u64 a0_0, .int .u32 a0_1, .slice A0_2 l0_2.length c0_2, .int .i64 a0_3]] rfl (by (try simp only [List.map_toArray,List.map_cons,List.map_nil]);first|done|rfl|(simp only [List.length_drop,List.length_take];rfl)) ?_;(with_reducible refine (coder_good.calls a0_0 a0_1 (fun k_=>(((P0_2_ k_∨w.heap.size≤k_)∧k_≠gb353)∧k_≠gb354)) _ _ l0_2 a0_3 t355 t356 t357 t360 _ ?side1 A5.out).mono ?_);(case side1=>exact HO0_2.out);rintro e w38 ⟨v358,rfl,ho0,hb⟩;refine ⟨_,rfl, ?_⟩;have n0_:=zm (Kd.V_below (by (with_reducible repeat (first|apply zA|apply zB|apply zC));exact HO0_2.out) hb);have n1_:=zm (Kd.V_lower (zy (ok' := fun k_=>(P0_2_ k_∨w.heap.size≤k_)∧k_≠gb353∧k_≠gb354) ho0 (fun k_ hk_=>⟨Or.elim hk_ (fun hs_=>hs_.1.1) (fun hn_=>(.inr (Nat.le_trans (zE (by repeat (first|(with_reducible first|exact HB.out|apply ze|apply zd|apply zf|refine zk ?_ GE353.out|refine zk ?_ GE354.out)|exact HB.out))) hn_))),Or.elim hk_ (fun hs_=>hs_.1.2) (fun hn_=>(Kd.freshB (g:=gb353) (o:=.cells #[.int .u64 a0_0, .int .u32 a0_1, .slice A0_2 l0_2.length c0_2, .int .i64 a0_3] 43 (0,0)) (by (with_reducible repeat (first|refine zh ?_ _|refine zj ?_|refine zi ?_ _));exact BK353.out) k_ hn_)),Or.elim hk_ (fun hs_=>hs_.2) (fun hn_=>(Kd.freshB (g:=gb354) (o:=.cells #[.int .u64 0, .int .u32 0, .slice none 0 0, .int .i64 0] 43 (0,0)) (by (with_reducible repeat (first|refine zh ?_ _|refine zj ?_|refine zi ?_ _));exact BK354.out) k_ hn_))⟩)) (zE (by repeat (first|(with_reducible first|exact HB.out|apply ze|apply zd|apply zf|refine zk ?_ GE353.out|refine zk ?_ GE354.out)|exact HB.out))));have n2_:=zm (zF (g:=gb353) (o:=.cells #[.int .u64 a0_0, .int .u32 a0_1, .slice A0_2 l0_2.length c0_2, .int .i64 a0_3] 43 (0,0)) (by (with_reducible repeat (first|refine zh ?_ _|refine zj ?_|refine zi ?_ _));exact BK353.out) hb);have n3_:=zm (zF (g:=gb354) (o:=.cells #[.int .u64 0, .int .u32 0, .slice none 0 0, .int .i64 0] 43 (0,0)) (by (with_reducible repeat (first|refine zh ?_ _|refine zj ?_|refine zi ?_ _));exact BK354.out) hb);have n4_:=zm (zJ (by repeat (first|(with_reducible first|exact HB.out|apply ze|apply zd|apply zf|refine zk ?_ GE353.out|refine zk ?_ GE354.out)|exact HB.out)) hb);clear HO0_2;clear BK353;clear BK354;clear HB;have HO0_2:=n0_;have HO359:=n1_;have BK353:=n2_;have BK354:=n3_;have HB:=n4_;clear n0_ n1_ n2_ n3_ n4_;(try clear hb);(try clear hb2);(try clear hk);(try clear hi);(try clear ho0);have hcz39_0 : w38.cell? ⟨gb353,0,none⟩=some (.int .u64 a0_0):=(zs BK353.out 0).trans rfl;have hcz39_1 : w38.cell? ⟨gb353,1,none⟩=some (.int .u32 a0_1):=(zs BK353.out 1).trans rfl;have hcz39_2 : w38.cell? ⟨gb353,2,none⟩=some (.slice A0_2 l0_2.length c0_2):=(zs BK353.out 2).trans rfl;have hcz39_3 : w38.cell? ⟨gb353,3,none⟩=some (.int .i64 a0_3):=(zs BK353.out 3).trans rfl;have hfz39_0:=zx BK353.out 0;have hfz39_1:=zx BK353.out 1;have hfz39_2:=zx BK353.out 2;have hfz39_3:=zx BK353.out 3;obtain ⟨Ao40,co40,eo40⟩:=Kd.V_slice HO359.out;subst eo40)|((with_reducible refine gate_store (t:=43) (p:=4) rfl ?_);refine store_event (t:=43) (p:=4) (v := ?vo_w41) (w1:=((((w38.setCell ⟨gb353,0,none⟩ (.int .u64 t355)).setCell ⟨gb353,1,none⟩ (.int .u32 t356)).setCell ⟨gb353,2,none⟩ (.slice Ao40 t357.length co40)).setCell ⟨gb353,3,none⟩ (.int .i64 t360))) ?hg ?ho ?hn ?hr ?_;(case ho=>rfl);(case hg=>rfl);(case hn=>rfl);(case hr=>first|(go_simp;done)|(go_simp;rfl));intro w41 hw;have n0_ : Aside0 (Kd.V (Kd.int .u8) 5 w41 w.heap.size (fun k_=>(P0_2_ k_∨w.heap.size≤k_)∧k_≠gb353∧k_≠gb354) (.slice A0_2 l0_2.length c0_2) l0_2):=⟨(by rw [hw];exact (by (with_reducible repeat (first|apply zA|apply zB|apply zC));exact zy (zI (p:=⟨gb353,3,none⟩) (zI (p:=⟨gb353,2,none⟩) (zI (p:=⟨gb353,1,none⟩) (zI (p:=⟨gb353,0,none⟩) (zy HO0_2.out (fun k_ hk=>(⟨hk,hk.1.2⟩ : _∧k_≠gb353))) (fun _ hk=>hk.2) (.int .u64 t355)) (fun _ hk=>hk.2) (.int .u32 t356)) (fun _ hk=>hk.2) (.slice Ao40 t357.length co40)) (fun _ hk=>hk.2) (.int .i64 t360)) (fun _ hk=>⟨hk.1.1.1,⟨hk.1.1.2,hk.1.2⟩⟩)))⟩;have n1_ : Aside0 (Kd.V (Kd.int .u8) 5 w41 w.heap.size (fun k_=>(P0_2_ k_∨w.heap.size≤k_)∧k_≠gb353∧k_≠gb354) (.slice Ao40 t357.length co40) t357):=⟨(by rw [hw];exact (by (with_reducible repeat (first|apply zA|apply zB|apply zC));exact zy (zI (p:=⟨gb353,3,none⟩) (zI (p:=⟨gb353,2,none⟩) (zI (p:=⟨gb353,1,none⟩) (zI (p:=⟨gb353,0,none⟩) (zy HO359.out (fun k_ hk=>(⟨hk,hk.2.1⟩ : _∧k_≠gb353))) (fun _ hk=>hk.2) (.int .u64 t355)) (fun _ hk=>hk.2) (.int .u32 t356)) (fun _ hk=>hk.2) (.slice Ao40 t357.length co40)) (fun _ hk=>hk.2) (.int .i64 t360)) (fun _ hk=>⟨hk.1.1,⟨hk.1.2.1,hk.1.2.2⟩⟩)))⟩;have n2_ : Aside0 (w41.heap[gb353]? = some (.cells #[.int .u64 t355, .int .u32 t356, .slice Ao40 t357.length co40, .int .i64 t360] 43 (0,0))):=⟨(by rw [hw];exact (by (with_reducible repeat (first|refine zh ?_ _|refine zj ?_|refine zi ?_ _));refine zw (cs := #[.int .u64 t355, .int .u32 t356, .slice Ao40 t357.length co40, .int .i64 a0_3]) ?_ 3 _ rfl;(with_reducible repeat (first|refine zh ?_ _|refine zj ?_|refine zi ?_ _));refine zw (cs := #[.int .u64 t355, .int .u32 t356, .slice A0_2 l0_2.length c0_2, .int .i64 a0_3]) ?_ 2 _ rfl;(with_reducible repeat (first|refine zh ?_ _|refine zj ?_|refine zi ?_ _));refine zw (cs := #[.int .u64 t355, .int .u32 a0_1, .slice A0_2 l0_2.length c0_2, .int .i64 a0_3]) ?_ 1 _ rfl;(with_reducible repeat (first|refine zh ?_ _|refine zj ?_|refine zi ?_ _));refine zw (cs := #[.int .u64 a0_0, .int .u32 a0_1, .slice A0_2 l0_2.length c0_2, .int .i64 a0_3]) ?_ 0 _ rfl;(with_reducible repeat (first|refine zh ?_ _|refine zj ?_|refine zi ?_ _));exact BK353.out))⟩;have n3_ : Aside0 (w41.heap[gb354]? = some (.cells #[.int .u64 0, .int .u32 0, .slice none 0 0, .int .i64 0] 43 (0,0))):=⟨(by rw [hw];exact (by (with_reducible repeat (first|refine zh ?_ _|refine zj ?_|refine zi ?_ _|refine zv ?_ NB354_353.out _));exact BK354.out))⟩;have n4_ : Aside0 (Below w.heap.size w w41):=⟨(by rw [hw];exact (by repeat (first|(with_reducible first|exact HB.out|apply ze|apply zd|apply zf|refine zk ?_ GE353.out|refine zk ?_ GE354.out)|exact HB.out)))⟩;clear hw;clear HO0_2;clear HO359;clear BK353;clear BK354;clear HB;have HO0_2:=n0_;have HO359:=n1_;have BK353:=n2_;have BK354:=n3_;have HB:=n4_;clear n0_ n1_ n2_ n3_ n4_)|((with_reducible refine gate_callee (f:=52) rfl ?_);refine goesL_ (some 17) rfl rfl Try.func52 (by kernel_rfl) rfl #[.int .i64 a1, .int .i64 a2, .int .i64 a3] rfl (by (try simp only [List.map_toArray,List.map_cons,List.map_nil]);first|done|rfl|(simp only [List.length_drop,List.length_take];rfl)) ?_;(with_reducible refine (coder_fair.calls a1 a2 a3 false _ A6.out).mono ?_);rintro e w' ⟨rfl,⟨nd,rfl⟩⟩;refine ⟨_,rfl, ?_⟩;(try (rw [drewN_self w41];generalize hq_ : World.drewN w41 _=w41;have n0_ : Aside0 (Kd.V (Kd.int .u8) 5 w41 w.heap.size (fun k_=>(P0_2_ k_∨w.heap.size≤k_)∧k_≠gb353∧k_≠gb354) (.slice A0_2 l0_2.length c0_2) l0_2):=⟨by rw [← hq_];exact (by (with_reducible repeat (first|apply zA|apply zB|apply zC));exact HO0_2.out)⟩;have n1_ : Aside0 (Kd.V (Kd.int .u8) 5 w41 w.heap.size (fun k_=>(P0_2_ k_∨w.heap.size≤k_)∧k_≠gb353∧k_≠gb354) (.slice Ao40 t357.length co40) t357):=⟨by rw [← hq_];exact (by (with_reducible repeat (first|apply zA|apply zB|apply zC));exact HO359.out)⟩;have n2_ : Aside0 (w41.heap[gb353]? = some (.cells #[.int .u64 t355, .int .u32 t356, .slice Ao40 t357.length co40, .int .i64 t360] 43 (0,0))):=⟨by rw [← hq_];exact (by (with_reducible repeat (first|refine zh ?_ _|refine zj ?_|refine zi ?_ _));exact BK353.out)⟩;have n3_ : Aside0 (w41.heap[gb354]? = some (.cells #[.int .u64 0, .int .u32 0, .slice none 0 0, .int .i64 0] 43 (0,0))):=⟨by rw [← hq_];exact (by (with_reducible repeat (first|refine zh ?_ _|refine zj ?_|refine zi ?_ _));exact BK354.out)⟩;have n4_ : Aside0 (Below w.heap.size w w41):=⟨by rw [← hq_];exact (by repeat (first|(with_reducible first|exact HB.out|apply ze|apply zd|apply zf|refine zk ?_ GE353.out|refine zk ?_ GE354.out)|exact HB.out))⟩;clear HO0_2 HO359 BK353 BK354 HB hq_;have HO0_2:=n0_;have HO359:=n1_;have BK353:=n2_;have BK354:=n3_;have HB:=n4_;clear n0_ n1_ n2_ n3_ n4_));have hcz42_0 : w41.cell? ⟨gb353,0,none⟩=some (.int .u64 t355):=(zs BK353.out 0).trans rfl;have hcz42_1 : w41.cell? ⟨gb353,1,none⟩=some (.int .u32 t356):=(zs BK353.out 1).trans rfl;have hcz42_2 : w41.cell? ⟨gb353,2,none⟩=some (.slice Ao40 t357.length co40):=(zs BK353.out 2).trans rfl;have hcz42_3 : w41.cell? ⟨gb353,3,none⟩=some (.int .i64 t360):=(zs BK353.out 3).trans rfl;have hfz42_0:=zx BK353.out 0;have hfz42_1:=zx BK353.out 1;have hfz42_2:=zx BK353.out 2;have hfz42_3:=zx BK353.out 3;have hcz43_0 : w41.cell? ⟨gb354,0,none⟩=some (.int .u64 0):=(zs BK354.out 0).trans rfl;have hcz43_1 : w41.cell? ⟨gb354,1,none⟩=some (.int .u32 0):=(zs BK354.out 1).trans rfl;have hcz43_2 : w41.cell? ⟨gb354,2,none⟩=some (.slice none 0 0):=(zs BK354.out 2).trans rfl;have hcz43_3 : w41.cell? ⟨gb354,3,none⟩=some (.int .i64 0):=(zs BK354.out 3).trans rfl;have hfz43_0:=zx BK354.out 0;have hfz43_1:=zx BK354.out 1;have hfz43_2:=zx BK354.out 2;have hfz43_3:=zx BK354.out 3))
  refine bodyPost_ret (results_ct rfl _ _ gb354 43 #[.int .u64 t355, .int .u32 t356, .slice Ao40 t357.length co40, .int .i64 t360] (0,0) _ rfl (by (with_reducible repeat (first|refine zh ?_ _|refine zj ?_|refine zi ?_ _));refine zw (cs := #[.int .u64 t355, .int .u32 t356, .slice Ao40 t357.length co40, .int .i64 0]) ?_ 3 _ rfl;(with_reducible repeat (first|refine zh ?_ _|refine zj ?_|refine zi ?_ _));refine zw (cs := #[.int .u64 t355, .int .u32 t356, .slice none 0 0, .int .i64 0]) ?_ 2 _ rfl;(with_reducible repeat (first|refine zh ?_ _|refine zj ?_|refine zi ?_ _));refine zw (cs := #[.int .u64 t355, .int .u32 0, .slice none 0 0, .int .i64 0]) ?_ 1 _ rfl;(with_reducible repeat (first|refine zh ?_ _|refine zj ?_|refine zi ?_ _));refine zw (cs := #[.int .u64 0, .int .u32 0, .slice none 0 0, .int .i64 0]) ?_ 0 _ rfl;(with_reducible repeat (first|refine zh ?_ _|refine zj ?_|refine zi ?_ _));exact BK354.out) Try.underlying43 rfl (by kernel_rfl)) rfl ?_
  exact ⟨_,by first|rfl|(simp [errW_none,errW_some] <;> rfl)|(simp [*,errW_none,errW_some] <;> rfl),by (with_reducible repeat (first|apply zA|apply zB|apply zC));exact zy (zI (p:=⟨gb354,3,none⟩) (zI (p:=⟨gb354,2,none⟩) (zI (p:=⟨gb354,1,none⟩) (zI (p:=⟨gb354,0,none⟩) (zy HO359.out (fun k_ hk=>(⟨hk,hk.2.2⟩ : _∧k_≠gb354))) (fun _ hk=>hk.2) (.int .u64 t355)) (fun _ hk=>hk.2) (.int .u32 t356)) (fun _ hk=>hk.2) (.slice Ao40 t357.length co40)) (fun _ hk=>hk.2) (.int .i64 t360)) (fun _ hk=>hk.1.1),by repeat (first|(with_reducible first|exact HB.out|apply ze|apply zd|apply zf|refine zk ?_ GE353.out|refine zk ?_ GE354.out)|exact HB.out)⟩

end Go.Proofs.Ytkaoiblgfpphoaa.Prt

namespace Go.Proofs.Ytkaoiblgfpphoaa.Prt
open Go.RowKit Go.Proofs.YtkaoiblgfpphoaaW.PrintWords Go.Proofs.YtkaoiblgfpphoaaW.PrintLast Go.Proofs.YtkaoiblgfpphoaaW.PrintMore
attribute [local go_sem] max2_int min2_int max_two min_two max_three min_three max_four min_four   -- for this text's walks alone
set_option linter.unusedVariables false
set_option linter.unusedSimpArgs false

/-! ### num_Clamp: function 61 -/
def num_Clamp.f (a0 : Int) (a1 : Int) (a2 : Int) : Option (Int):=if a0 < a1 then (some a1) else (if a0 > a2 then (some a2) else (some a0))
set_option maxHeartbeats 8000000 in
set_option maxRecDepth 100000 in
theorem num_Clamp.calls (a0 : Int) (a1 : Int) (a2 : Int) (r : Int) (w : World) (h : num_Clamp.f a0 a1 a2=some r) :
  Calls Try.prog 61 #[.int .i64 a0, .int .i64 a1, .int .i64 a2] w fun e w' => e=.returned (.int .i64 r)∧Drawn0 w w' := by
 have H : (if a0 < a1 then (some a1) else (if a0 > a2 then (some a2) else (some a0)))=some r:=h
 clear h
 by_cases c4 : a0 < a1
 ·
  rw [if_pos c4] at H
  have c4b0 : decide (a0 < a1)=true:=decide_eq_true c4
  clear c4
  obtain rfl:=Option.some.inj H
  go_enter Try.func61,Try.ntmps61
  go_wp2
  go_ret
  exact ⟨by first|rfl|(simp;done)|(simp [*];done),by repeat (first|exact Drawn0.refl _|apply Drawn0.step)⟩
 ·
  rw [if_neg c4] at H
  have c4b0 : decide (a0 < a1)=false:=decide_eq_false c4
  clear c4
  by_cases c5 : a0 > a2
  ·
   rw [if_pos c5] at H
   have c5b0 : decide (a2 < a0)=true:=decide_eq_true c5
   clear c5
   obtain rfl:=Option.some.inj H
   go_enter Try.func61,Try.ntmps61
   go_wp2
   go_ret
   exact ⟨by first|rfl|(simp;done)|(simp [*];done),by repeat (first|exact Drawn0.refl _|apply Drawn0.step)⟩
  ·
   rw [if_neg c5] at H
   have c5b0 : decide (a2 < a0)=false:=decide_eq_false c5
   clear c5
   obtain rfl:=Option.some.inj H
   go_enter Try.func61,Try.ntmps61
   go_wp2
   go_ret
   exact ⟨by first|rfl|(simp;done)|(simp [*];done),by repeat (first|exact Drawn0.refl _|apply Drawn0.step)⟩

end Go.Proofs.Ytkaoiblgfpphoaa.Prt
