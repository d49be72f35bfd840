-- Functions of the program and of the document as plain Lean, each with the proof that the code comes to it. Written by a program of this session (wip/tools/myprint.py, pack.py) over the kit's printer; Lean checks it.
import Derived.Test.YtnmbndkojpjkmaaZPackWritesPrt0
import Derived.Test.YtnmbndkojpjkmaaZPackWritesM1
import Derived.Test.YtnmbndkojpjkmaaZPackWritesM2
import Derived.Test.YtnmbndkojpjkmaaZPackWritesSh
namespace Go.Proofs.Ytnmbndkojpjkmaa.Prt
open Go.RowKit Go.Proofs.YtnmbndkojpjkmaaW.PrintWords Go.Proofs.YtnmbndkojpjkmaaW.PrintLast Go.Proofs.YtnmbndkojpjkmaaW.PrintMore
attribute [local go_sem] max2_int min2_int max_two min_two max_three min_three max_four min_four   -- for this text's walks alone
set_option linter.unusedVariables false
set_option linter.unusedSimpArgs false


mutual
def cpack_Read.j0 : Nat→Int→Int→List (List Int)→Bool→Int→Int→List Int→Int→Bool→Option (Bool × (List (List Int)) × (List (List (List Int))) × Int)
 | 0,_,_,_,_,_,_,_,_,_=>none
 | k+1,x0,x1,x3,x65,x510000,x510001,x510002,x510003,x520000=>if x65=true then (some (false,([] : List (List Int)),([] : List (List (List Int))),1)) else (cpack_Read.l0 k x0 x1 x3 x1 0 x510000 x510001 x510002 x510003 x520000 ([] : List (List Int)))
def cpack_Read.l0 : Nat→Int→Int→List (List Int)→Int→Int→Int→Int→List Int→Int→Bool→List (List Int)→Option (Bool × (List (List Int)) × (List (List (List Int))) × Int)
 | 0,_,_,_,_,_,_,_,_,_,_,_=>none
 | k+1,x0,x1,x3,x67,x68,x510000,x510001,x510002,x510003,x520000,x520001=>if x68 < x67 then ((cpack_of.f x3 x68).bind fun t521=>((gain_Take.f k x510000 x510001 x510002 x510003 t521 x520000).bind fun bt524=>(if x520001.length < 5864062014805 then (cpack_Read.l0 k x0 x1 x3 x67 (wrap64 (x68+1)) bt524.1 bt524.2.1 bt524.2.2.1 bt524.2.2.2.1 x520000 (x520001 ++ [bt524.2.2.2.2.1])) else (none)))) else ((alloc_Pulses.f k x0 x1 x520001).bind fun bt538=>(cpack_Read.l1 k bt538.1 x1 0 x510000 x510001 x510002 x510003 x520000 x520001 ([] : List (List (List Int)))))
def cpack_Read.l1 : Nat→List (List Int)→Int→Int→Int→Int→List Int→Int→Bool→List (List Int)→List (List (List Int))→Option (Bool × (List (List Int)) × (List (List (List Int))) × Int)
 | 0,_,_,_,_,_,_,_,_,_,_=>none
 | k+1,x18,x98,x99,x510000,x510001,x510002,x510003,x520000,x520001,x520002=>if x99 < x98 then (cpack_Read.l2 k x18 x99 ([] : List (List Int)) x98 x99 0 x510000 x510001 x510002 x510003 x520000 x520001 x520002) else (some (x520000,x520001,x520002,0))
def cpack_Read.l2 : Nat→List (List Int)→Int→List (List Int)→Int→Int→Int→Int→Int→List Int→Int→Bool→List (List Int)→List (List (List Int))→Option (Bool × (List (List Int)) × (List (List (List Int))) × Int)
 | 0,_,_,_,_,_,_,_,_,_,_,_,_,_=>none
 | k+1,x18,x20,x21,x98,x99,x102,x510000,x510001,x510002,x510003,x520000,x520001,x520002=>if x102 < 5 then ((band_Width.f x102).bind fun t545=>(if 0≤t545 then (if (t545 : Int).toNat≤35184372088832 then (if 0≤x20 then (if x20 < (x18.length : Int) then (if 0≤x102 then (if x102 < ((rd_L1 x18 x20).length : Int) then (if (rd (rd_L1 x18 x20) x102) > 0 then ((band_Width.f x102).bind fun t551=>((comb_Count.f t551 (rd (rd_L1 x18 x20) x102)).bind fun bt554=>((coder_TakeNum.f k x510000 x510001 x510002 x510003 bt554.1).bind fun bt556=>((band_Width.f x102).bind fun t565=>((comb_Vector.f k t565 (rd (rd_L1 x18 x20) x102) bt556.2.2.2.2.1).bind fun bt568=>(if x21.length < 5864062014805 then (cpack_Read.l2 k x18 x20 (x21 ++ [bt568.1]) x98 x99 (wrap64 (x102+1)) bt556.1 bt556.2.1 bt556.2.2.1 bt556.2.2.2.1 x520000 x520001 x520002) else (none))))))) else (if x21.length < 5864062014805 then (cpack_Read.l2 k x18 x20 (x21 ++ [(List.replicate (t545 : Int).toNat 0)]) x98 x99 (wrap64 (x102+1)) x510000 x510001 x510002 x510003 x520000 x520001 x520002) else (none))) else (none)) else (none)) else (none)) else (none)) else (none)) else (none))) else (if x520002.length < 5864062014805 then (cpack_Read.l1 k x18 x98 (wrap64 (x99+1)) x510000 x510001 x510002 x510003 x520000 x520001 (x520002 ++ [x21])) else (none))
end
def cpack_Read.f (k : Nat) (a0 : Int) (a1 : Int) (l2 : List Int) (l3 : List (List Int)) : Option (Bool × (List (List Int)) × (List (List (List Int))) × Int):=(alloc_Right.f a0 a1).bind fun t502=>(if t502=true then (if (l2.length : Int)=a0 then ((coder_Open.f l2).bind fun bt503=>((coder_Get.f bt503.1 bt503.2.1 bt503.2.2.1 bt503.2.2.2 2).bind fun bt510=>((coder_Take.f k bt503.1 bt503.2.1 bt503.2.2.1 bt503.2.2.2 bt510.1 (wrap64 (bt510.1+1)) 2).bind fun bt512=>(if bt510.1=1 then (cpack_Read.j0 k a0 a1 l3 false bt512.1 bt512.2.1 bt512.2.2.1 bt512.2.2.2.1 (bt510.1 == 1)) else ((cpack_gains.f k a1 l3).bind fun t520=>(cpack_Read.j0 k a0 a1 l3 (!t520) bt512.1 bt512.2.1 bt512.2.2.1 bt512.2.2.2.1 (bt510.1 == 1))))))) else (some (false,([] : List (List Int)),([] : List (List (List Int))),2))) else (some (false,([] : List (List Int)),([] : List (List (List Int))),1)))
theorem cpack_Read.mono_l : ∀ k,(∀ y0 y1 y2 y3 y4 y5 y6 y7 y8,LeO (cpack_Read.j0 k y0 y1 y2 y3 y4 y5 y6 y7 y8) (cpack_Read.j0 (k+1) y0 y1 y2 y3 y4 y5 y6 y7 y8))∧(∀ y0 y1 y2 y3 y4 y5 y6 y7 y8 y9 y10,LeO (cpack_Read.l0 k y0 y1 y2 y3 y4 y5 y6 y7 y8 y9 y10) (cpack_Read.l0 (k+1) y0 y1 y2 y3 y4 y5 y6 y7 y8 y9 y10))∧(∀ y0 y1 y2 y3 y4 y5 y6 y7 y8 y9,LeO (cpack_Read.l1 k y0 y1 y2 y3 y4 y5 y6 y7 y8 y9) (cpack_Read.l1 (k+1) y0 y1 y2 y3 y4 y5 y6 y7 y8 y9))∧(∀ y0 y1 y2 y3 y4 y5 y6 y7 y8 y9 y10 y11 y12,LeO (cpack_Read.l2 k y0 y1 y2 y3 y4 y5 y6 y7 y8 y9 y10 y11 y12) (cpack_Read.l2 (k+1) y0 y1 y2 y3 y4 y5 y6 y7 y8 y9 y10 y11 y12))
 | 0=>⟨fun _ _ _ _ _ _ _ _ _ r h=>by simp [cpack_Read.j0] at h,fun _ _ _ _ _ _ _ _ _ _ _ r h=>by simp [cpack_Read.l0] at h,fun _ _ _ _ _ _ _ _ _ _ r h=>by simp [cpack_Read.l1] at h,fun _ _ _ _ _ _ _ _ _ _ _ _ _ r h=>by simp [cpack_Read.l2] at h⟩
 | k+1=>by
  obtain ⟨ih0,ih1,ih2,ih3⟩:=cpack_Read.mono_l k
  refine ⟨?_, ?_, ?_, ?_⟩
  ·
   intro y0 y1 y2 y3 y4 y5 y6 y7 y8
   unfold cpack_Read.j0
   repeat' with_reducible first|apply ih0|apply ih1|apply ih2|apply ih3|apply alloc_Pulses.mono|apply coder_Take.mono|apply coder_TakeNum.mono|apply comb_Vector.mono|apply cpack_gains.mono|apply gain_Take.mono|apply yLr|apply yLn|apply yLi|apply yLb|intro _
  ·
   intro y0 y1 y2 y3 y4 y5 y6 y7 y8 y9 y10
   unfold cpack_Read.l0
   repeat' with_reducible first|apply ih0|apply ih1|apply ih2|apply ih3|apply alloc_Pulses.mono|apply coder_Take.mono|apply coder_TakeNum.mono|apply comb_Vector.mono|apply cpack_gains.mono|apply gain_Take.mono|apply yLr|apply yLn|apply yLi|apply yLb|intro _
  ·
   intro y0 y1 y2 y3 y4 y5 y6 y7 y8 y9
   unfold cpack_Read.l1
   repeat' with_reducible first|apply ih0|apply ih1|apply ih2|apply ih3|apply alloc_Pulses.mono|apply coder_Take.mono|apply coder_TakeNum.mono|apply comb_Vector.mono|apply cpack_gains.mono|apply gain_Take.mono|apply yLr|apply yLn|apply yLi|apply yLb|intro _
  ·
   intro y0 y1 y2 y3 y4 y5 y6 y7 y8 y9 y10 y11 y12
   unfold cpack_Read.l2
   repeat' with_reducible first|apply ih0|apply ih1|apply ih2|apply ih3|apply alloc_Pulses.mono|apply coder_Take.mono|apply coder_TakeNum.mono|apply comb_Vector.mono|apply cpack_gains.mono|apply gain_Take.mono|apply yLr|apply yLn|apply yLi|apply yLb|intro _
theorem cpack_Read.mono : ∀ a0 a1 a2 a3 k,LeO (cpack_Read.f k a0 a1 a2 a3) (cpack_Read.f (k+1) a0 a1 a2 a3):=by
 intro a0 a1 a2 a3 k
 obtain ⟨ih0,ih1,ih2,ih3⟩:=cpack_Read.mono_l k
 unfold cpack_Read.f
 repeat' with_reducible first|apply ih0|apply ih1|apply ih2|apply ih3|apply alloc_Pulses.mono|apply coder_Take.mono|apply coder_TakeNum.mono|apply comb_Vector.mono|apply cpack_gains.mono|apply gain_Take.mono|apply yLr|apply yLn|apply yLi|apply yLb|intro _
def cpack_Read.T14 : Bool × List (List Nat × List Nat):=(true, [([], []),([], []),([], []),([1,2], [1,2]),([], []),([4], [4]),([0,3,5,3], [0,3,5]),([6], [6]),([7], [7]),([7], [7]),([7], [7]),([], []),([11,8,6,0,1,2,3,4,5,6,7,8,11], [8,11]),([9,12,0,1,2,3,4,5,6,7,8,9,11,12], [9]),([10,13,0,1,2,3,4,5,6,7,8,9,10,11,12,13], [10])])
def cpack_Read.B14 : List Nat := [0,0,0,6,0,16,63,127,255,255,255,0,2559,7167,16383]
theorem cpack_Read.tab14 : rtab .any (opsOf Try.f20 14)=cpack_Read.T14:=by kernel_rfl
theorem cpack_Read.bits14 : waitsOk cpack_Read.T14.2 cpack_Read.B14=true:=by kernel_rfl
def cpack_Read.T15 : Bool × List (List Nat × List Nat):=(true, [([], []),([], []),([1], [1]),([], []),([3], [3]),([2,4], [2,4]),([0,5,0], [0]),([0,1,2,3,4,5,6], []),([7,5,6,0,1,2,3,4,5,6], [5,7])])
def cpack_Read.B15 : List Nat := [0,0,2,0,8,30,63,127,255]
theorem cpack_Read.tab15 : rtab .any (opsOf Try.f20 15)=cpack_Read.T15:=by kernel_rfl
theorem cpack_Read.bits15 : waitsOk cpack_Read.T15.2 cpack_Read.B15=true:=by kernel_rfl
def cpack_Read.T27 : Bool × List (List Nat × List Nat):=(true, [([], []),([0], [0]),([], []),([], []),([2,3], [2,3]),([4], [4]),([], []),([5,6], [5,6]),([7], [7]),([1,8,1], [1,8]),([9], [9]),([10], [10]),([10], [10]),([11,9,0,1,2,3,4,5,6,7,8,9,10,11], [11]),([12,13,0,1,2,3,4,5,6,7,8,9,10,11,12,13], [12])])
def cpack_Read.B27 : List Nat := [0,1,0,0,12,28,0,124,252,511,1023,2047,2047,4095,16383]
theorem cpack_Read.tab27 : rtab .any (opsOf Try.f20 27)=cpack_Read.T27:=by kernel_rfl
theorem cpack_Read.bits27 : waitsOk cpack_Read.T27.2 cpack_Read.B27=true:=by kernel_rfl
def cpack_Read.T30 : Bool × List (List Nat × List Nat):=(true, [([], []),([0], [0]),([], []),([], []),([2,3], [2,3]),([4], [4]),([], []),([5,6], [5,6]),([7], [7]),([], []),([1,8,9,1], [1,8,9]),([10], [10]),([11], [11]),([11], [11]),([12,10,0,1,2,3,4,5,6,7,8,9,10,11,12], [12])])
def cpack_Read.B30 : List Nat := [0,1,0,0,12,28,0,124,252,0,1023,2047,4095,4095,8191]
theorem cpack_Read.tab30 : rtab .any (opsOf Try.f20 30)=cpack_Read.T30:=by kernel_rfl
theorem cpack_Read.bits30 : waitsOk cpack_Read.T30.2 cpack_Read.B30=true:=by kernel_rfl
set_option maxHeartbeats 8000000 in
set_option maxRecDepth 100000 in
theorem cpack_Read.calls (k : Nat) (a0 : Int) (a1 : Int) (A2 : Option Addr) (c2 : Nat) (l2 : List Int) (A3 : Option Addr) (c3 : Nat) (l3 : List (List Int)) (r1 : Bool) (r2 : List (List Int)) (r3 : List (List (List Int))) (r4 : Int) (w : World) (hr2 : Kd.C (Kd.int .u8) w A2 l2.length l2) (hc2 : l2.length≤c2) (hr3 : Kd.C (Kd.slice 3 (Kd.int .i64)) w A3 l3.length l3) (hc3 : l3.length≤c3) (h : cpack_Read.f k a0 a1 l2 l3=some (r1,r2,r3,r4)) :
  Calls Try.prog 20 #[.int .i64 a0, .int .i64 a1, .slice A2 l2.length c2, .slice A3 l3.length c3] w fun e w' => ∃ v1_ v2_ : Value,e=.returned (.tuple #[.agg #[.bool r1,v1_,v2_], .int .i64 r4])∧Kd.S (Kd.slice 3 (Kd.int .i64)) 49 w' w.heap.size (fun _=>True) v1_ r2∧Kd.R (Kd.slice 49 (Kd.slice 3 (Kd.int .i64))) 22 w' w.heap.size (fun k_=>some k_≠(v1_ : Value).ownBlock) v2_ r3∧Below w.heap.size w w' := by
 have hu25:=Try.underlying25;have hu82:=Try.underlying82;have HR2:=zm hr2;have HC2:=zm hc2;clear hr2 hc2;have HR3:=zm hr3;have HC3:=zm hc3;clear hr3 hc3;have HB:=zm (Below.refl w.heap.size w)
 have H : ((alloc_Right.f a0 a1).bind fun t502=>(if t502=true then (if (l2.length : Int)=a0 then ((coder_Open.f l2).bind fun bt503=>((coder_Get.f bt503.1 bt503.2.1 bt503.2.2.1 bt503.2.2.2 2).bind fun bt510=>((coder_Take.f k bt503.1 bt503.2.1 bt503.2.2.1 bt503.2.2.2 bt510.1 (wrap64 (bt510.1+1)) 2).bind fun bt512=>(if bt510.1=1 then (cpack_Read.j0 k a0 a1 l3 false bt512.1 bt512.2.1 bt512.2.2.1 bt512.2.2.2.1 (bt510.1 == 1)) else ((cpack_gains.f k a1 l3).bind fun t520=>(cpack_Read.j0 k a0 a1 l3 (!t520) bt512.1 bt512.2.1 bt512.2.2.1 bt512.2.2.2.1 (bt510.1 == 1))))))) else (some (false,([] : List (List Int)),([] : List (List (List Int))),2))) else (some (false,([] : List (List Int)),([] : List (List (List Int))),1))))=some (r1,r2,r3,r4):=h
 clear h
 obtain ⟨t502,A5,H⟩:=ybi H
 by_cases c6 : t502=true
 ·
  subst c6
  rw [if_pos rfl] at H
  by_cases c7 : (l2.length : Int)=a0
  ·
   rw [if_pos c7] at H
   have c7b0 : ((l2.length : Int) == a0)=true:=beq_iff_eq.mpr c7
   have c7b1 : ((l2.length : Int) != a0)=false:=bne_eq_false_iff_eq.mpr c7
   clear c7
   obtain ⟨⟨t503,t504,t505,t508⟩,A8,H⟩:=ybi H
   try dsimp only at H
   obtain ⟨⟨t510,t511⟩,A9,H⟩:=ybi H
   try dsimp only at H
   obtain ⟨⟨t512,t513,t514,t517,t518⟩,A10,H⟩:=ybi H
   try dsimp only at H
   have HC11:=zm H;clear H
   go_enter Try.func20,Try.ntmps20
   go_upto_region 9 with (first|((with_reducible refine gate_dst (N:=8) rfl ?_);refine ybx 8 #[.bool false, .slice none 0 0, .slice none 0 0] 25 ?_;intro gb501 hg w12 hbox hb;have BK501:=zm (hbox);have GW501:=ygw hg;have GE501:=ygw hg;replace HB:=ybs hb;clear hb hbox hg)|((with_reducible refine gate_callee (f:=48) rfl ?_);refine ygl 31 Try.func48 #[.int .i64 a0, .int .i64 a1] ?_;(with_reducible refine (alloc_Right.calls a0 a1 true _ A5.out).mono ?_);rintro e w' ⟨rfl,⟨nd,rfl⟩⟩;refine ⟨_,rfl, ?_⟩;(try (rw [drewN_self w12];generalize hq_ : World.drewN w12 _=w12;have n0_ : Aside0 (w12.heap[gb501]? = some (.cells #[.bool false, .slice none 0 0, .slice none 0 0] 25 (0,0))):=⟨by rw [← hq_];exact (yk BK501)⟩;have n1_ : Aside0 (Below w.heap.size w w12):=⟨by rw [← hq_];exact yhb⟩;clear BK501 HB hq_;have BK501:=n0_;have HB:=n1_;clear n0_ n1_)))|((with_reducible refine gate_callee (f:=49) rfl ?_);refine ygl 40 Try.func49 #[.slice A2 l2.length c2] ?_;(with_reducible refine (coder_Open.calls (fun k_=>k_ < w.heap.size) _ _ l2 t503 t504 t505 t508 _ ?side1 A8.out).mono ?_);(case side1=>exact Kd.V_mk HC2.out (Kd.F_below (Kd.C_F (Kd.heap_int .u8) HR2.out) yhb));rintro e w13 ⟨v506,rfl,ho0,hb⟩;refine ⟨_,rfl, ?_⟩;have HO507:=yho (fun k_=>k_≠gb501) ho0 (fun k_ hk_=>yoB BK501 hk_);replace BK501:=ybb BK501 hb;replace HB:=ybs hb;(try clear hb);(try clear ho0))|((with_reducible refine gate_dst (N:=10) rfl ?_);refine ybx 10 #[.int .u64 0, .int .u32 0, .slice none 0 0, .int .i64 0] 82 ?_;intro gb509 hg w14 hbox hb;replace HO507:=yVe HO507 hg hb;have BK509:=zm (hbox);have GW509:=ygw hg;have GE509:=ygw hg;replace HB:=ybs hb;have NB501_509:=ynl BK501 hg;have NB509_501:=yng BK501 hg;replace BK501:=ybb BK501 hb;clear hb hbox hg;have:=NB509_501.out;have:=NB501_509.out;obtain ⟨hcz16_0,hcz16_1,hcz16_2,hcz16_3,hfz16_0,hfz16_1,hfz16_2,hfz16_3⟩:=yc4 BK509;obtain ⟨Ao17,co17,eo17⟩:=Kd.V_slice HO507.out;subst eo17)|((with_reducible refine gate_callee (f:=50) rfl ?_);refine ygl 43 Try.func50 #[.agg #[.int .u64 t503, .int .u32 t504, .slice Ao17 t505.length co17, .int .i64 t508], .int .i64 2] ?_;(with_reducible refine (coder_Get.calls t503 t504 _ _ t505 t508 2 t510 t511 _ ?side1 ?side2 A9.out).mono ?_);(case side1=>refine (Kd.V_reads' (e:=5) (base:=w.heap.size) (ok:=fun k_=>(k_≠gb501∧k_≠gb509)) (n:=t505.length) (c:=co17) ?_).2.2;exact (yV0 HO507));(case side2=>exact (Kd.V_reads' HO507.out).2.1);rintro e w18 ⟨rfl,hb⟩;refine ⟨_,rfl, ?_⟩;replace HO507:=zm (Kd.V_below (yV0 HO507) hb);replace BK501:=ybb BK501 hb;replace BK509:=zm (zF (g:=gb509) (o:=.cells #[.int .u64 t503, .int .u32 t504, .slice Ao17 t505.length co17, .int .i64 t508] 82 (0,0)) (ykp BK509) hb);replace HB:=ybs hb;(try clear hb);obtain ⟨hcz19_0,hcz19_1,hcz19_2,hcz19_3,hfz19_0,hfz19_1,hfz19_2,hfz19_3⟩:=yc4 BK509)|((with_reducible refine gate_callee (f:=51) rfl ?_);refine ygl 51 Try.func51 #[.agg #[.int .u64 t503, .int .u32 t504, .slice Ao17 t505.length co17, .int .i64 t508], .int .i64 t510, .int .i64 (wrap64 (t510+1)), .int .i64 2] ?_;(with_reducible refine (coder_Take.calls k t503 t504 (fun k_=>(k_≠gb501∧k_≠gb509)) _ _ t505 t508 t510 (wrap64 (t510+1)) 2 t512 t513 t514 t517 t518 _ HO507.out A10.out).mono ?_);rintro e w20 ⟨v515,rfl,ho0,hb⟩;refine ⟨_,rfl, ?_⟩;replace HO507:=yVb HO507 hb;have HO516:=yho (fun k_=>k_≠gb501∧k_≠gb509) ho0 (fun k_ hk_=>⟨yoB BK501 hk_,yoB BK509 hk_⟩);replace BK501:=ybb BK501 hb;replace BK509:=ybb BK509 hb;replace HB:=ybs hb;(try clear hb);(try clear ho0);obtain ⟨hcz21_0,hcz21_1,hcz21_2,hcz21_3,hfz21_0,hfz21_1,hfz21_2,hfz21_3⟩:=yc4 BK509;obtain ⟨Ao22,co22,eo22⟩:=Kd.V_slice HO516.out;subst eo22)|((with_reducible refine gate_dst (N:=13) rfl ?_);refine ybx 13 #[.bool false, .slice none 0 0, .slice none 0 0] 25 ?_;intro gb519 hg w23 hbox hb;replace HO507:=zm (Kd.V_below (Kd.V_elderB (yV0 HO507) gb519 (Nat.le_of_eq hg.symm)) hb);replace HO516:=zm (Kd.V_below (Kd.V_elderB (yV0 HO516) gb519 (Nat.le_of_eq hg.symm)) hb);have BK519:=zm (hbox);have GW519:=ygw hg;have GE519:=ygw hg;replace HB:=ybs hb;have NB501_519:=ynl BK501 hg;have NB519_501:=yng BK501 hg;replace BK501:=ybb BK501 hb;have NB509_519:=zm ((by rw [hg];exact zn (zD (g:=gb509) (o:=.cells #[.int .u64 t512, .int .u32 t513, .slice Ao22 t514.length co22, .int .i64 t517] 82 (0,0)) (ykp BK509)) : gb509≠gb519));have NB519_509:=zm ((by rw [hg];exact zg (zD (g:=gb509) (o:=.cells #[.int .u64 t512, .int .u32 t513, .slice Ao22 t514.length co22, .int .i64 t517] 82 (0,0)) (ykp BK509)) : gb519≠gb509));replace BK509:=zm (zF (g:=gb509) (o:=.cells #[.int .u64 t512, .int .u32 t513, .slice Ao22 t514.length co22, .int .i64 t517] 82 (0,0)) (ykp BK509) hb);clear hb hbox hg;have:=NB519_501.out;have:=NB501_519.out;have:=NB519_509.out;have:=NB509_519.out;obtain ⟨hcz26_0,hcz26_1,hcz26_2,hfz26_0,hfz26_1,hfz26_2⟩:=yc3 BK519))
   (try simp only [Act.put,List.setIfInBounds_toArray,List.set_cons_zero,List.set_cons_succ])
   go_cut [65] (fun v65 wc => ∃ (kq : Nat) (x65_10 : Bool),v65=.bool x65_10∧Aside0 (cpack_Read.j0 kq a0 a1 l3 x65_10 t512 t513 t514 t517 (t510 == 1)=some (r1,r2,r3,r4))∧Aside0 (kq≤k)∧Aside0 (Kd.V (Kd.int .u8) 5 wc w.heap.size (fun k_=>k_≠gb501∧k_≠gb509∧k_≠gb519) (.slice Ao22 t514.length co22) t514)∧Aside0 (wc.heap[gb501]? = some (.cells #[.bool false,(.slice none 0 0),(.slice none 0 0)] 25 (0,0)))∧Aside0 (wc.heap[gb509]? = some (.cells #[.int .u64 t512, .int .u32 t513,(.slice Ao22 t514.length co22), .int .i64 t517] 82 (0,0)))∧Aside0 (wc.heap[gb519]? = some (.cells #[.bool (t510 == 1),(.slice none 0 0),(.slice none 0 0)] 25 (0,0)))∧Aside0 (Below w.heap.size w wc))
   case first =>
    have H:=HC11.out;clear HC11
    by_cases c27 : t510=1
    ·
     rw [if_pos c27] at H
     have c27b0 : (t510 == 1)=true:=beq_iff_eq.mpr c27
     have c27b1 : (t510 != 1)=false:=bne_eq_false_iff_eq.mpr c27
     clear c27
     (first|rw [c27b0]|(simp only [i64_w,i32_w];rw [c27b0])|skip)
     have H' := zm H
     clear H
     have:=NB519_501.out
     have:=NB501_519.out
     have:=NB519_509.out
     have:=NB509_519.out
     obtain ⟨_,_,_,_,_,_⟩:=yc3 BK519
     go_wp2
     go_meet
     case rel=>exact ⟨_,(false),yq,H',⟨yo⟩,⟨yV0 HO516⟩,⟨yk BK501⟩,⟨yk BK509⟩,⟨by rw [c27b0];(with_reducible repeat (first|refine zh ?_ _|refine zj ?_|refine zi ?_ _));refine zw (cs := #[.bool true, .slice none 0 0, .slice none 0 0]) ?_ 2 _ rfl;(with_reducible repeat (first|refine zh ?_ _|refine zj ?_|refine zi ?_ _));refine zw (cs := #[.bool true, .slice none 0 0, .slice none 0 0]) ?_ 1 _ rfl;(with_reducible repeat (first|refine zh ?_ _|refine zj ?_|refine zi ?_ _));refine zw (cs := #[.bool false, .slice none 0 0, .slice none 0 0]) ?_ 0 _ rfl;(with_reducible repeat (first|refine zh ?_ _|refine zj ?_|refine zi ?_ _));exact BK519.out⟩,⟨yhb⟩⟩
    ·
     rw [if_neg c27] at H
     have c27b0 : (t510 == 1)=false:=beq_eq_false_iff_ne.mpr c27
     have c27b1 : (t510 != 1)=true:=bne_iff_ne.mpr c27
     (first|rw [c27b0]|(simp only [i64_w,i32_w];rw [c27b0])|skip)
     obtain ⟨t520,A31,H⟩:=ybi H
     have H' := zm H
     clear H
     have:=NB519_501.out
     have:=NB501_519.out
     have:=NB519_509.out
     have:=NB509_519.out
     obtain ⟨_,_,_,_,_,_⟩:=yc3 BK519
     go_wp2_with (first|(go_at_call 25;(with_reducible refine (cpack_gains.calls k a1 _ _ l3 t520 _ ?side1 HC3.out A31.out).mono ?_);(case side1=>exact Kd.C_below HR3.out yhb);rintro e w' ⟨rfl,⟨nd,rfl⟩⟩))
     go_meet
     case rel=>exact ⟨_,(!t520),yq,H',⟨yo⟩,⟨yV0 HO516⟩,⟨yk BK501⟩,⟨yk BK509⟩,⟨by rw [c27b0];(with_reducible repeat (first|refine zh ?_ _|refine zj ?_|refine zi ?_ _));refine zw (cs := #[.bool false, .slice none 0 0, .slice none 0 0]) ?_ 2 _ rfl;(with_reducible repeat (first|refine zh ?_ _|refine zj ?_|refine zi ?_ _));refine zw (cs := #[.bool false, .slice none 0 0, .slice none 0 0]) ?_ 1 _ rfl;(with_reducible repeat (first|refine zh ?_ _|refine zj ?_|refine zi ?_ _));refine zw (cs := #[.bool false, .slice none 0 0, .slice none 0 0]) ?_ 0 _ rfl;(with_reducible repeat (first|refine zh ?_ _|refine zj ?_|refine zi ?_ _));exact BK519.out⟩,⟨yhb⟩⟩
   case rest =>
    clear HC11
    try clear c2
    try clear c3
    try clear c7b0
    try clear c7b1
    try clear hcz16_0
    try clear hcz16_1
    try clear hcz16_2
    try clear hcz16_3
    try clear hcz19_0
    try clear hcz19_1
    try clear hcz19_2
    try clear hcz19_3
    try clear hcz21_0
    try clear hcz21_1
    try clear hcz21_2
    try clear hcz21_3
    try clear hcz26_0
    try clear hcz26_1
    try clear hcz26_2
    try clear hfz16_0
    try clear hfz16_1
    try clear hfz16_2
    try clear hfz16_3
    try clear hfz19_0
    try clear hfz19_1
    try clear hfz19_2
    try clear hfz19_3
    try clear hfz21_0
    try clear hfz21_1
    try clear hfz21_2
    try clear hfz21_3
    try clear hfz26_0
    try clear hfz26_1
    try clear hfz26_2
    obtain ⟨kq,x65_10,rfl,HA,HJ10,HO_510002,BK501,BK509,BK519,HB⟩:=hcut
    obtain ⟨kj10,rfl⟩:=ysu kq (fun h=>by subst h;exact absurd HA.out (by simp [cpack_Read.j0]))
    have H:=HA.out;clear HA
    simp only [cpack_Read.j0] at H
    by_cases c35 : x65_10=true
    ·
     subst c35
     rw [if_pos rfl] at H
     simp only [Option.some.injEq,Prod.mk.injEq] at H
     obtain ⟨rfl,rfl,rfl,rfl⟩:=H
     have:=NB501_509.out
     have:=NB509_501.out
     have:=NB501_519.out
     have:=NB519_501.out
     obtain ⟨hcz38_0,hcz38_1,hcz38_2,hfz38_0,hfz38_1,hfz38_2⟩:=yc3 BK501
     go_wp2
     refine bodyPost_ret (results_ct rfl _ _ gb501 25 #[.bool false, .slice none 0 0, .slice none 0 0] (0,0) _ rfl (ykp BK501) Try.underlying25 rfl (by kernel_rfl)) rfl ?_
     exact ⟨_,_,ye,yn,yn,yhb⟩
    ·
     replace c35:=Bool.eq_false_iff.mpr c35
     subst c35
     rw [ynf] at H
     have H' := zm H
     clear H
     go_wp2
     go_loopg [68] kj10 (fun kq v68 w' => ∃ (x68_2 : Int) (x510000_2 : Int) (x510001_2 : Int) (x510002_2 : List Int) (x510003_2 : Int) (x520001_2 : List (List Int)) (u510002 : Value) (u520001 : Value),v68=.int .i64 x68_2∧Aside0 (cpack_Read.l0 kq a0 a1 l3 a1 x68_2 x510000_2 x510001_2 x510002_2 x510003_2 (t510 == 1) x520001_2=some (r1,r2,r3,r4))∧Aside0 (kq≤kj10)∧Aside0 (Kd.V (Kd.int .u8) 5 w' w.heap.size (fun k_=>some k_≠(u520001 : Value).ownBlock∧k_≠gb501∧k_≠gb509∧k_≠gb519) u510002 x510002_2)∧Aside0 (Kd.S (Kd.slice 3 (Kd.int .i64)) 49 w' w.heap.size (fun _=>True) u520001 x520001_2)∧Aside0 (w'.heap[gb501]? = some (.cells #[.bool false,(.slice none 0 0),(.slice none 0 0)] 25 (0,0)))∧Aside0 (w'.heap[gb509]? = some (.cells #[.int .u64 x510000_2, .int .u32 x510001_2,u510002, .int .i64 x510003_2] 82 (0,0)))∧Aside0 (w'.heap[gb519]? = some (.cells #[.bool (t510 == 1),u520001,(.slice none 0 0)] 25 (0,0)))∧Aside0 (Below w.heap.size w w'))
     case atStart=>exact ⟨(0),(t512),(t513),(t514),(t517),(([] : List (List Int))),(.slice Ao22 t514.length co22),(.slice none 0 0),yq,H',⟨Nat.le_refl _⟩,⟨yV0 HO_510002⟩,⟨yn⟩,⟨yk BK501⟩,⟨yk BK509⟩,⟨yk BK519⟩,⟨yhb⟩⟩
     case round =>
      clear H'
      try clear hcz38_0
      try clear hcz38_1
      try clear hcz38_2
      try clear hfz38_0
      try clear hfz38_1
      try clear hfz38_2
      obtain ⟨x68_2,x510000_2,x510001_2,x510002_2,x510003_2,x520001_2,u510002,u520001,rfl,HA,HK2,HO_510002,HO_520001,BK501,BK509,BK519,HB⟩:=hrel
      obtain ⟨k2,rfl⟩:=ysu gk (fun h=>by subst h;exact absurd HA.out (by simp [cpack_Read.l0]))
      have H:=HA.out;clear HA
      simp only [cpack_Read.l0] at H
      by_cases c39 : x68_2 < a1
      ·
       rw [if_pos c39] at H
       have c39b0 : decide (x68_2 < a1)=true:=decide_eq_true c39
       clear c39
       obtain ⟨t521,A40,H⟩:=ybi H
       obtain ⟨⟨t524,t525,t526,t529,t530,t533⟩,A41,H⟩:=ybi H
       try dsimp only at H
       obtain ⟨c42,H⟩:=yif H
       have LMc42:=zm c42;clear c42
       obtain ⟨y535,hy535⟩ : ∃ y_ : List (List Int),y_=(x520001_2 ++ [t530]):=⟨_,rfl⟩
       replace H : (cpack_Read.l0 k2 a0 a1 l3 a1 (wrap64 (x68_2+1)) t524 t525 t526 t529 (t510 == 1) y535)=some (r1,r2,r3,r4):=yrw hy535 H
       have Ny535:=zm hy535;clear hy535
       have H' := zm H
       clear H
       obtain ⟨Ao43,co43,eo43⟩:=Kd.V_slice HO_510002.out
       subst eo43
       try go_wp2
       replace HO_510002:=zm (zC HO_510002.out)
       replace HO_520001:=zm (Kd.S_drew HO_520001.out)
       replace BK501:=zm (zj BK501.out)
       replace BK509:=zm (zj BK509.out)
       replace BK519:=zm (zj BK519.out)
       replace HB:=zm (zf HB.out)
       refine yst (fun w' => w'.cell? ⟨gb509,0,none⟩=some (.int .u64 x510000_2)∧w'.cell? ⟨gb509,1,none⟩=some (.int .u32 x510001_2)∧w'.cell? ⟨gb509,2,none⟩=some (.slice Ao43 x510002_2.length co43)∧w'.cell? ⟨gb509,3,none⟩=some (.int .i64 x510003_2)∧w'.cell? ⟨gb519,0,none⟩=some (.bool (t510 == 1))∧w'.cell? ⟨gb519,1,none⟩=some (u520001)∧w'.cell? ⟨gb519,2,none⟩=some (.slice none 0 0)) [] 15 cpack_Read.tab14 cpack_Read.bits14 (fun hHeld HT_ HW_ => ?_)
       generalize wr.drew=w44 at HO_510002 HO_520001 BK501 BK509 BK519 HB hHeld ⊢
       refine yp 1 73 HT_ ?_
       refine yp 2 74 HT_ ?_
       refine yp 4 76 HT_ ?_
       refine yl 0 72 HT_ HW_ hHeld ?_
       refine yl 5 77 HT_ HW_ hHeld ?_
       refine join_ (σ:=Value × Value × Value × Nat) 3 #[true,true,true,true,true,true,true,true,true,true,true,true,false,false,false] (fun s_ => [(75,s_.1),(78, .tuple #[.agg #[.int .u64 t524, .int .u32 t525,s_.2.1, .int .i64 t529],s_.2.2.1, .int .i64 t533]),(15, .pointer (some ⟨s_.2.2.2,0,none⟩)),(71, .tuple #[.agg #[.int .u64 t524, .int .u32 t525,s_.2.1, .int .i64 t529],s_.2.2.1, .int .i64 t533]),(79, .agg #[.int .u64 t524, .int .u32 t525,s_.2.1, .int .i64 t529]),(80,s_.2.2.1),(81, .int .i64 t533)]) (fun s_ w' => (w'.cell? ⟨gb509,0,none⟩=some (.int .u64 x510000_2)∧w'.cell? ⟨gb509,1,none⟩=some (.int .u32 x510001_2)∧w'.cell? ⟨gb509,2,none⟩=some (.slice Ao43 x510002_2.length co43)∧w'.cell? ⟨gb509,3,none⟩=some (.int .i64 x510003_2)∧w'.cell? ⟨gb519,0,none⟩=some (.bool (t510 == 1))∧w'.cell? ⟨gb519,1,none⟩=some (u520001)∧w'.cell? ⟨gb519,2,none⟩=some (.slice none 0 0))∧(Kd.V (Kd.int .i64) 3 w' w.heap.size (fun k_=>some k_≠(s_.2.2.1 : Value).ownBlock∧some k_≠(u520001 : Value).ownBlock∧k_≠gb501∧k_≠gb509∧k_≠gb519∧k_≠s_.2.2.2) s_.1 t521)∧(Kd.V (Kd.int .u8) 5 w' w.heap.size (fun k_=>some k_≠(s_.2.2.1 : Value).ownBlock∧some k_≠(u520001 : Value).ownBlock∧k_≠gb501∧k_≠gb509∧k_≠gb519∧k_≠s_.2.2.2) s_.2.1 t526)∧(Kd.R (Kd.int .i64) 3 w' w.heap.size (fun _=>True) s_.2.2.1 t530)∧(Kd.V (Kd.int .u8) 5 w' w.heap.size (fun k_=>some k_≠(s_.2.2.1 : Value).ownBlock∧some k_≠(u520001 : Value).ownBlock∧k_≠gb501∧k_≠gb509∧k_≠gb519∧k_≠s_.2.2.2) (.slice Ao43 x510002_2.length co43) x510002_2)∧(Kd.S (Kd.slice 3 (Kd.int .i64)) 49 w' w.heap.size (fun k_=>some k_≠(s_.2.2.1 : Value).ownBlock) u520001 x520001_2)∧(w'.heap[gb501]? = some (.cells #[.bool false, .slice none 0 0, .slice none 0 0] 25 (0,0)))∧(w'.heap[gb509]? = some (.cells #[.int .u64 x510000_2, .int .u32 x510001_2, .slice Ao43 x510002_2.length co43, .int .i64 x510003_2] 82 (0,0)))∧(w'.heap[gb519]? = some (.cells #[.bool (t510 == 1),u520001, .slice none 0 0] 25 (0,0)))∧(w'.heap[s_.2.2.2]? = some (.cells #[.int .u64 0, .int .u32 0, .slice none 0 0, .int .i64 0] 82 (0,0)))∧(w.heap.size≤s_.2.2.2)∧(w.heap.size≤s_.2.2.2)∧(gb501≠s_.2.2.2)∧(s_.2.2.2≠gb501)∧(gb509≠s_.2.2.2)∧(s_.2.2.2≠gb509)∧(gb519≠s_.2.2.2)∧(s_.2.2.2≠gb519)∧(Below w.heap.size w w')) ?_ ?_
       rotate_left
       ·
        intro hCont
        refine two_ (i:=3) (j:=11) (Ni:=some 75) (Nj:=some 15) #[true,true,true,true,true,true,false,false,false,false,false,false,false,false,false] #[true,true,true,false,true,true,false,false,false,false,false,true,false,false,false] rfl rfl rfl rfl (two_of HT_.out (by kernel_rfl)) (by decide) (by decide) (fun K hK => ?_) (fun K hK => ?_)
        ·
         skip
         refine ygs Try.func29 #[.slice A3 l3.length c3, .int .i64 x68_2] ?_
         with_reducible refine (cpack_of.calls (fun k_=>k_ < w.heap.size) _ _ l3 x68_2 t521 _ ?side1 A40.out).mono ?_
         (case side1=>exact Kd.V_mk HC3.out (Kd.F_below (Kd.C_F (Kd.heap_slice 3 (Kd.heap_int .i64)) HR3.out) yhb))
         rintro e w45 ⟨v522,rfl,ho0,hb⟩
         refine ⟨_,rfl, ?_⟩
         replace HO_510002:=yVb HO_510002 hb
         have HO523:=yho (fun k_=>some k_≠(u520001 : Value).ownBlock∧k_≠gb501∧k_≠gb509∧k_≠gb519) ho0 (fun k_ hk_=>⟨yoS HO_520001 hk_,yoB BK501 hk_,yoB BK509 hk_,yoB BK519 hk_⟩)
         replace HO_520001:=ySb HO_520001 hb
         replace BK501:=ybb BK501 hb
         replace BK509:=ybb BK509 hb
         replace BK519:=ybb BK519 hb
         replace HB:=ybs hb
         (try clear hb)
         (try clear ho0)
         obtain ⟨Ao46,co46,eo46⟩:=Kd.V_slice HO523.out
         (first|subst eo46|(injection eo46 with f1_ f2_ f3_;have f4_:=f1_.symm;have f5_:=f3_.symm;clear f1_ f2_ f3_;subst f4_;subst f5_))
         refine hK.out _ _ yH (fun hHeld => ?_)
         clear hK K
         refine ym (some 75) ?_
         refine two_ (i:=6) (j:=11) (Ni:=some 78) (Nj:=some 15) #[true,true,true,true,true,true,true,false,false,false,false,false,false,false,false] #[true,true,true,true,true,true,false,false,false,false,false,true,false,false,false] rfl rfl rfl rfl (two_of HT_.out (by kernel_rfl)) (by decide) (by decide) (fun K hK => ?_) (fun K hK => ?_)
         ·
          skip
          refine ygs Try.func52 #[.agg #[.int .u64 x510000_2, .int .u32 x510001_2, .slice Ao43 x510002_2.length co43, .int .i64 x510003_2], .slice Ao46 t521.length co46, .bool (t510 == 1)] ?_
          with_reducible refine (gain_Take.calls k2 x510000_2 x510001_2 (fun k_=>(some k_≠(u520001 : Value).ownBlock∧(k_≠gb501∧(k_≠gb509∧k_≠gb519)))) _ _ x510002_2 x510003_2 _ _ t521 (t510 == 1) t524 t525 t526 t529 t530 t533 _ ?side1 ?side2 ?side3 A41.out).mono ?_
          (case side1=>exact HO_510002.out)
          (case side2=>exact yce (Kd.V_reads' HO523.out).2.2)
          (case side3=>exact (Kd.V_reads' HO523.out).2.1)
          rintro e w47 ⟨v527,v531,rfl,ho0,ho1,hb⟩
          refine ⟨_,rfl, ?_⟩
          replace HO_510002:=zm (Kd.V_elder' (yr HO_510002) (Kd.R_base ho1) hb)
          replace HO523:=zm (Kd.V_elder' (yr HO523) (Kd.R_base ho1) hb)
          have HO528:=yho (fun k_=>some k_≠(v531 : Value).ownBlock∧some k_≠(u520001 : Value).ownBlock∧k_≠gb501∧k_≠gb509∧k_≠gb519) ho0 (fun k_ hk_=>⟨hk_.2,Or.elim hk_.1 (fun hs_=>hs_.1) (fun hn_=>(Kd.fresh' (Kd.S_lt (yr HO_520001)) k_ hn_)),Or.elim hk_.1 (fun hs_=>hs_.2.1) (fun hn_=>(Kd.freshB (yk BK501) k_ hn_)),Or.elim hk_.1 (fun hs_=>hs_.2.2.1) (fun hn_=>(Kd.freshB (yk BK509) k_ hn_)),Or.elim hk_.1 (fun hs_=>hs_.2.2.2) (fun hn_=>(Kd.freshB (yk BK519) k_ hn_))⟩)
          replace HO_520001:=zm (Kd.S_elder' (yr HO_520001) (Kd.R_base ho1) hb)
          have HO532:=zm (Kd.R_lower (zG (ok' := fun k_=>True) ho1 (fun _ hk_=>trivial)) (zE yhb))
          replace BK501:=ybb BK501 hb
          replace BK509:=ybb BK509 hb
          replace BK519:=ybb BK519 hb
          replace HB:=ybs hb
          (try clear hb)
          (try clear ho0)
          (try clear ho1)
          refine hK.out _ _ yH (fun hHeld => ?_)
          clear hK K
          refine ym (some 78) ?_
          refine yp 7 71 HT_ ?_
          refine yp 8 79 HT_ ?_
          refine yp 9 80 HT_ ?_
          refine yp 10 81 HT_ ?_
          refine yw 11 15 HT_ (fun K hK => ?_)
          refine box_step ?hg (N:=15) ?hd (cs := #[.int .u64 0, .int .u32 0, .slice none 0 0, .int .i64 0]) (t:=82) ?hr ?_;(case hd=>rfl);(case hg=>rfl);(case hr=>first|(go_simp;done)|(go_simp;rfl))
          intro gb534 hg w48 hbox hb
          replace HO_510002:=yVe HO_510002 hg hb
          replace HO_520001:=ySb HO_520001 hb
          replace HO523:=yVe HO523 hg hb
          replace HO528:=yVe HO528 hg hb
          replace HO532:=yRb HO532 hb
          have BK534:=zm (hbox)
          have GW534:=ygw hg
          have GE534:=ygw hg
          replace HB:=ybs hb
          have NB501_534:=ynl BK501 hg
          have NB534_501:=yng BK501 hg
          replace BK501:=ybb BK501 hb
          have NB509_534:=ynl BK509 hg
          have NB534_509:=yng BK509 hg
          replace BK509:=ybb BK509 hb
          have NB519_534:=ynl BK519 hg
          have NB534_519:=yng BK519 hg
          replace BK519:=ybb BK519 hb
          clear hb hbox hg
          refine hK.out _ _ yH (fun hHeld => ?_)
          clear hK K
          refine ym (some 15) ?_
          exact norm_ (by simp only [putAll,Act.put,List.setIfInBounds_toArray,List.set_cons_zero,List.set_cons_succ]) (hCont (.slice Ao46 t521.length co46,v527,v531,gb534) _ ⟨hHeld,(yV0 HO523),(yV0 HO528),(yr HO532),(yV0 HO_510002),(yS0 HO_520001),(yk BK501),(yk BK509),(yk BK519),(yk BK534),GW534.out,GE534.out,NB501_534.out,NB534_501.out,NB509_534.out,NB534_509.out,NB519_534.out,NB534_519.out,yhb⟩)
         ·
          skip
          refine box_step ?hg (N:=15) ?hd (cs := #[.int .u64 0, .int .u32 0, .slice none 0 0, .int .i64 0]) (t:=82) ?hr ?_;(case hd=>rfl);(case hg=>rfl);(case hr=>first|(go_simp;done)|(go_simp;rfl))
          intro gb534 hg w46 hbox hb
          replace HO_510002:=yVe HO_510002 hg hb
          replace HO_520001:=ySb HO_520001 hb
          replace HO523:=yVe HO523 hg hb
          have BK534:=zm (hbox)
          have GW534:=ygw hg
          have GE534:=ygw hg
          replace HB:=ybs hb
          have NB501_534:=ynl BK501 hg
          have NB534_501:=yng BK501 hg
          replace BK501:=ybb BK501 hb
          have NB509_534:=ynl BK509 hg
          have NB534_509:=yng BK509 hg
          replace BK509:=ybb BK509 hb
          have NB519_534:=ynl BK519 hg
          have NB534_519:=yng BK519 hg
          replace BK519:=ybb BK519 hb
          clear hb hbox hg
          obtain ⟨Ao47,co47,eo47⟩:=Kd.V_slice HO523.out
          (first|subst eo47|(injection eo47 with f1_ f2_ f3_;have f4_:=f1_.symm;have f5_:=f3_.symm;clear f1_ f2_ f3_;subst f4_;subst f5_))
          refine hK.out _ _ yH (fun hHeld => ?_)
          clear hK K
          refine ym (some 15) ?_
          refine yw 6 78 HT_ (fun K hK => ?_)
          refine ygs Try.func52 #[.agg #[.int .u64 x510000_2, .int .u32 x510001_2, .slice Ao43 x510002_2.length co43, .int .i64 x510003_2], .slice Ao47 t521.length co47, .bool (t510 == 1)] ?_
          with_reducible refine (gain_Take.calls k2 x510000_2 x510001_2 (fun k_=>((some k_≠(u520001 : Value).ownBlock∧(k_≠gb501∧(k_≠gb509∧k_≠gb519)))∧k_≠gb534)) _ _ x510002_2 x510003_2 _ _ t521 (t510 == 1) t524 t525 t526 t529 t530 t533 _ ?side1 ?side2 ?side3 A41.out).mono ?_
          (case side1=>exact HO_510002.out)
          (case side2=>exact yce (Kd.V_reads' HO523.out).2.2)
          (case side3=>exact (Kd.V_reads' HO523.out).2.1)
          rintro e w48 ⟨v527,v531,rfl,ho0,ho1,hb⟩
          refine ⟨_,rfl, ?_⟩
          replace HO_510002:=zm (Kd.V_elder' (yr HO_510002) (Kd.R_base ho1) hb)
          replace HO523:=zm (Kd.V_elder' (yr HO523) (Kd.R_base ho1) hb)
          have HO528:=yho (fun k_=>some k_≠(v531 : Value).ownBlock∧some k_≠(u520001 : Value).ownBlock∧k_≠gb501∧k_≠gb509∧k_≠gb519∧k_≠gb534) ho0 (fun k_ hk_=>⟨hk_.2,Or.elim hk_.1 (fun hs_=>hs_.1.1) (fun hn_=>(Kd.fresh' (Kd.S_lt (yr HO_520001)) k_ hn_)),Or.elim hk_.1 (fun hs_=>hs_.1.2.1) (fun hn_=>(Kd.freshB (yk BK501) k_ hn_)),Or.elim hk_.1 (fun hs_=>hs_.1.2.2.1) (fun hn_=>(Kd.freshB (yk BK509) k_ hn_)),Or.elim hk_.1 (fun hs_=>hs_.1.2.2.2) (fun hn_=>(Kd.freshB (yk BK519) k_ hn_)),Or.elim hk_.1 (fun hs_=>hs_.2) (fun hn_=>(Kd.freshB (yk BK534) k_ hn_))⟩)
          replace HO_520001:=zm (Kd.S_elder' (yr HO_520001) (Kd.R_base ho1) hb)
          have HO532:=zm (Kd.R_lower (zG (ok' := fun k_=>True) ho1 (fun _ hk_=>trivial)) (zE yhb))
          replace BK501:=ybb BK501 hb
          replace BK509:=ybb BK509 hb
          replace BK519:=ybb BK519 hb
          replace BK534:=ybb BK534 hb
          replace HB:=ybs hb
          (try clear hb)
          (try clear ho0)
          (try clear ho1)
          refine hK.out _ _ yH (fun hHeld => ?_)
          clear hK K
          refine ym (some 78) ?_
          refine yp 7 71 HT_ ?_
          refine yp 8 79 HT_ ?_
          refine yp 9 80 HT_ ?_
          refine yp 10 81 HT_ ?_
          exact norm_ (by simp only [putAll,Act.put,List.setIfInBounds_toArray,List.set_cons_zero,List.set_cons_succ]) (hCont (.slice Ao47 t521.length co47,v527,v531,gb534) _ ⟨hHeld,(yV0 HO523),(yr HO528),(yr HO532),(yV0 HO_510002),(yS0 HO_520001),(yk BK501),(yk BK509),(yk BK519),(yk BK534),GW534.out,GE534.out,NB501_534.out,NB534_501.out,NB509_534.out,NB534_509.out,NB519_534.out,NB534_519.out,yhb⟩)
        ·
         skip
         refine box_step ?hg (N:=15) ?hd (cs := #[.int .u64 0, .int .u32 0, .slice none 0 0, .int .i64 0]) (t:=82) ?hr ?_;(case hd=>rfl);(case hg=>rfl);(case hr=>first|(go_simp;done)|(go_simp;rfl))
         intro gb534 hg w45 hbox hb
         replace HO_510002:=yVe HO_510002 hg hb
         replace HO_520001:=ySb HO_520001 hb
         have BK534:=zm (hbox)
         have GW534:=ygw hg
         have GE534:=ygw hg
         replace HB:=ybs hb
         have NB501_534:=ynl BK501 hg
         have NB534_501:=yng BK501 hg
         replace BK501:=ybb BK501 hb
         have NB509_534:=ynl BK509 hg
         have NB534_509:=yng BK509 hg
         replace BK509:=ybb BK509 hb
         have NB519_534:=ynl BK519 hg
         have NB534_519:=yng BK519 hg
         replace BK519:=ybb BK519 hb
         clear hb hbox hg
         refine hK.out _ _ yH (fun hHeld => ?_)
         clear hK K
         refine ym (some 15) ?_
         refine yw 3 75 HT_ (fun K hK => ?_)
         refine ygs Try.func29 #[.slice A3 l3.length c3, .int .i64 x68_2] ?_
         with_reducible refine (cpack_of.calls (fun k_=>k_ < w.heap.size) _ _ l3 x68_2 t521 _ ?side1 A40.out).mono ?_
         (case side1=>exact Kd.V_mk HC3.out (Kd.F_below (Kd.C_F (Kd.heap_slice 3 (Kd.heap_int .i64)) HR3.out) yhb))
         rintro e w46 ⟨v522,rfl,ho0,hb⟩
         refine ⟨_,rfl, ?_⟩
         replace HO_510002:=yVb HO_510002 hb
         have HO523:=yho (fun k_=>some k_≠(u520001 : Value).ownBlock∧k_≠gb501∧k_≠gb509∧k_≠gb519∧k_≠gb534) ho0 (fun k_ hk_=>⟨yoS HO_520001 hk_,yoB BK501 hk_,yoB BK509 hk_,yoB BK519 hk_,yoB BK534 hk_⟩)
         replace HO_520001:=ySb HO_520001 hb
         replace BK501:=ybb BK501 hb
         replace BK509:=ybb BK509 hb
         replace BK519:=ybb BK519 hb
         replace BK534:=ybb BK534 hb
         replace HB:=ybs hb
         (try clear hb)
         (try clear ho0)
         obtain ⟨Ao47,co47,eo47⟩:=Kd.V_slice HO523.out
         (first|subst eo47|(injection eo47 with f1_ f2_ f3_;have f4_:=f1_.symm;have f5_:=f3_.symm;clear f1_ f2_ f3_;subst f4_;subst f5_))
         refine hK.out _ _ yH (fun hHeld => ?_)
         clear hK K
         refine ym (some 75) ?_
         refine yw 6 78 HT_ (fun K hK => ?_)
         refine ygs Try.func52 #[.agg #[.int .u64 x510000_2, .int .u32 x510001_2, .slice Ao43 x510002_2.length co43, .int .i64 x510003_2], .slice Ao47 t521.length co47, .bool (t510 == 1)] ?_
         with_reducible refine (gain_Take.calls k2 x510000_2 x510001_2 (fun k_=>((some k_≠(u520001 : Value).ownBlock∧(k_≠gb501∧(k_≠gb509∧k_≠gb519)))∧k_≠gb534)) _ _ x510002_2 x510003_2 _ _ t521 (t510 == 1) t524 t525 t526 t529 t530 t533 _ ?side1 ?side2 ?side3 A41.out).mono ?_
         (case side1=>exact HO_510002.out)
         (case side2=>exact yce (Kd.V_reads' HO523.out).2.2)
         (case side3=>exact (Kd.V_reads' HO523.out).2.1)
         rintro e w48 ⟨v527,v531,rfl,ho0,ho1,hb⟩
         refine ⟨_,rfl, ?_⟩
         replace HO_510002:=zm (Kd.V_elder' (yr HO_510002) (Kd.R_base ho1) hb)
         replace HO523:=zm (Kd.V_elder' (yr HO523) (Kd.R_base ho1) hb)
         have HO528:=yho (fun k_=>some k_≠(v531 : Value).ownBlock∧some k_≠(u520001 : Value).ownBlock∧k_≠gb501∧k_≠gb509∧k_≠gb519∧k_≠gb534) ho0 (fun k_ hk_=>⟨hk_.2,Or.elim hk_.1 (fun hs_=>hs_.1.1) (fun hn_=>(Kd.fresh' (Kd.S_lt (yr HO_520001)) k_ hn_)),Or.elim hk_.1 (fun hs_=>hs_.1.2.1) (fun hn_=>(Kd.freshB (yk BK501) k_ hn_)),Or.elim hk_.1 (fun hs_=>hs_.1.2.2.1) (fun hn_=>(Kd.freshB (yk BK509) k_ hn_)),Or.elim hk_.1 (fun hs_=>hs_.1.2.2.2) (fun hn_=>(Kd.freshB (yk BK519) k_ hn_)),Or.elim hk_.1 (fun hs_=>hs_.2) (fun hn_=>(Kd.freshB (yk BK534) k_ hn_))⟩)
         replace HO_520001:=zm (Kd.S_elder' (yr HO_520001) (Kd.R_base ho1) hb)
         have HO532:=zm (Kd.R_lower (zG (ok' := fun k_=>True) ho1 (fun _ hk_=>trivial)) (zE yhb))
         replace BK501:=ybb BK501 hb
         replace BK509:=ybb BK509 hb
         replace BK519:=ybb BK519 hb
         replace BK534:=ybb BK534 hb
         replace HB:=ybs hb
         (try clear hb)
         (try clear ho0)
         (try clear ho1)
         refine hK.out _ _ yH (fun hHeld => ?_)
         clear hK K
         refine ym (some 78) ?_
         refine yp 7 71 HT_ ?_
         refine yp 8 79 HT_ ?_
         refine yp 9 80 HT_ ?_
         refine yp 10 81 HT_ ?_
         exact norm_ (by simp only [putAll,Act.put,List.setIfInBounds_toArray,List.set_cons_zero,List.set_cons_succ]) (hCont (.slice Ao47 t521.length co47,v527,v531,gb534) _ ⟨hHeld,(yV0 HO523),(yr HO528),(yr HO532),(yV0 HO_510002),(yS0 HO_520001),(yk BK501),(yk BK509),(yk BK519),(yk BK534),GW534.out,GE534.out,NB501_534.out,NB534_501.out,NB509_534.out,NB534_509.out,NB519_534.out,NB534_519.out,yhb⟩)
       rintro ⟨v522,v527,v531,gb534⟩ w49 ⟨hS_,h0_,h1_,h2_,h3_,h4_,h5_,h6_,h7_,h8_,h9_,h10_,h11_,h12_,h13_,h14_,h15_,h16_,h17_⟩
       have n0_ : Aside0 (Kd.V (Kd.int .i64) 3 w49 w.heap.size (fun k_=>some k_≠(v531 : Value).ownBlock∧some k_≠(u520001 : Value).ownBlock∧k_≠gb501∧k_≠gb509∧k_≠gb519∧k_≠gb534) v522 t521):=⟨h0_⟩
       have n1_ : Aside0 (Kd.V (Kd.int .u8) 5 w49 w.heap.size (fun k_=>some k_≠(v531 : Value).ownBlock∧some k_≠(u520001 : Value).ownBlock∧k_≠gb501∧k_≠gb509∧k_≠gb519∧k_≠gb534) v527 t526):=⟨h1_⟩
       have n2_ : Aside0 (Kd.R (Kd.int .i64) 3 w49 w.heap.size (fun _=>True) v531 t530):=⟨h2_⟩
       have n3_ : Aside0 (Kd.V (Kd.int .u8) 5 w49 w.heap.size (fun k_=>some k_≠(v531 : Value).ownBlock∧some k_≠(u520001 : Value).ownBlock∧k_≠gb501∧k_≠gb509∧k_≠gb519∧k_≠gb534) (.slice Ao43 x510002_2.length co43) x510002_2):=⟨h3_⟩
       have n4_ : Aside0 (Kd.S (Kd.slice 3 (Kd.int .i64)) 49 w49 w.heap.size (fun k_=>some k_≠(v531 : Value).ownBlock) u520001 x520001_2):=⟨h4_⟩
       have n5_ : Aside0 (w49.heap[gb501]? = some (.cells #[.bool false, .slice none 0 0, .slice none 0 0] 25 (0,0))):=⟨h5_⟩
       have n6_ : Aside0 (w49.heap[gb509]? = some (.cells #[.int .u64 x510000_2, .int .u32 x510001_2, .slice Ao43 x510002_2.length co43, .int .i64 x510003_2] 82 (0,0))):=⟨h6_⟩
       have n7_ : Aside0 (w49.heap[gb519]? = some (.cells #[.bool (t510 == 1),u520001, .slice none 0 0] 25 (0,0))):=⟨h7_⟩
       have n8_ : Aside0 (w49.heap[gb534]? = some (.cells #[.int .u64 0, .int .u32 0, .slice none 0 0, .int .i64 0] 82 (0,0))):=⟨h8_⟩
       have n9_ : Aside0 (w.heap.size≤gb534):=⟨h9_⟩
       have n10_ : Aside0 (w.heap.size≤gb534):=⟨h10_⟩
       have n11_ : Aside0 (gb501≠gb534):=⟨h11_⟩
       have n12_ : Aside0 (gb534≠gb501):=⟨h12_⟩
       have n13_ : Aside0 (gb509≠gb534):=⟨h13_⟩
       have n14_ : Aside0 (gb534≠gb509):=⟨h14_⟩
       have n15_ : Aside0 (gb519≠gb534):=⟨h15_⟩
       have n16_ : Aside0 (gb534≠gb519):=⟨h16_⟩
       have n17_ : Aside0 (Below w.heap.size w w49):=⟨h17_⟩
       clear HO_510002;clear HO_520001;clear BK501;clear BK509;clear BK519;clear HB;clear h0_ h1_ h2_ h3_ h4_ h5_ h6_ h7_ h8_ h9_ h10_ h11_ h12_ h13_ h14_ h15_ h16_ h17_;have HO523:=n0_;have HO528:=n1_;have HO532:=n2_;have HO_510002:=n3_;have HO_520001:=n4_;have BK501:=n5_;have BK509:=n6_;have BK519:=n7_;have BK534:=n8_;have GW534:=n9_;have GE534:=n10_;have NB501_534:=n11_;have NB534_501:=n12_;have NB509_534:=n13_;have NB534_509:=n14_;have NB519_534:=n15_;have NB534_519:=n16_;have HB:=n17_;clear n0_ n1_ n2_ n3_ n4_ n5_ n6_ n7_ n8_ n9_ n10_ n11_ n12_ n13_ n14_ n15_ n16_ n17_
       have hHeld : w49.cell? ⟨gb509,0,none⟩=some (.int .u64 x510000_2)∧w49.cell? ⟨gb509,1,none⟩=some (.int .u32 x510001_2)∧w49.cell? ⟨gb509,2,none⟩=some (.slice Ao43 x510002_2.length co43)∧w49.cell? ⟨gb509,3,none⟩=some (.int .i64 x510003_2)∧w49.cell? ⟨gb519,0,none⟩=some (.bool (t510 == 1))∧w49.cell? ⟨gb519,1,none⟩=some (u520001)∧w49.cell? ⟨gb519,2,none⟩=some (.slice none 0 0):=hS_
       obtain ⟨Ao52,co52,eo52⟩:=Kd.V_slice HO528.out
       (first|subst eo52|(injection eo52 with f1_ f2_ f3_;have f4_:=f1_.symm;have f5_:=f3_.symm;clear f1_ f2_ f3_;subst f4_;subst f5_))
       refine norm_ (a' := ?_) ?_ ?_
       rotate_left
       ·
        simp only [putAll,Act.put,List.setIfInBounds_toArray,List.set_cons_zero,List.set_cons_succ]
        rfl
       refine yv 12 HT_ (fun K hK => ?_)
       have hs50 : w49.cell? ⟨gb534,0,none⟩=some (.int .u64 0):=(zs BK534.out 0).trans rfl
       have hfs50:=zx BK534.out 0
       have:=NB501_534.out
       have:=NB509_534.out
       have:=NB519_534.out
       have:=NB534_501.out
       have:=NB534_509.out
       have:=NB534_519.out
       have hs51 : w49.cell? ⟨gb534,1,none⟩=some (.int .u32 0):=(zs BK534.out 1).trans rfl
       have hfs51:=zx BK534.out 1
       have:=NB501_534.out
       have:=NB509_534.out
       have:=NB519_534.out
       have:=NB534_501.out
       have:=NB534_509.out
       have:=NB534_519.out
       have hs53 : w49.cell? ⟨gb534,2,none⟩=some (.slice none 0 0):=(zs BK534.out 2).trans rfl
       have hfs53:=zx BK534.out 2
       have:=NB501_534.out
       have:=NB509_534.out
       have:=NB519_534.out
       have:=NB534_501.out
       have:=NB534_509.out
       have:=NB534_519.out
       have hs54 : w49.cell? ⟨gb534,3,none⟩=some (.int .i64 0):=(zs BK534.out 3).trans rfl
       have hfs54:=zx BK534.out 3
       have:=NB501_534.out
       have:=NB509_534.out
       have:=NB519_534.out
       have:=NB534_501.out
       have:=NB534_509.out
       have:=NB534_519.out
       refine skip_ (w1 := ?_) (by rfl) rfl ?_ ?_
       rotate_left
       ·
        go_simp
        rfl
       refine hK.out _ _ yH (fun hHeld => ?_)
       clear hK K
       refine yp 13 16 HT_ ?_
       refine yp 14 17 HT_ ?_
       refine done_ (done_of HT_.out (by kernel_rfl)) ?_
       try go_wp2
       obtain ⟨w55,hw_⟩ : ∃ x,x=((((w49.setCell ⟨gb534,0,none⟩ (.int .u64 t524)).setCell ⟨gb534,1,none⟩ (.int .u32 t525)).setCell ⟨gb534,2,none⟩ (.slice Ao52 t526.length co52)).setCell ⟨gb534,3,none⟩ (.int .i64 t529)):=⟨_,rfl⟩
       rw [← hw_]
       replace HO_510002 : Aside0 (Kd.V (Kd.int .u8) 5 w55 w.heap.size (fun k_=>some k_≠(u520001 : Value).ownBlock∧some k_≠(v531 : Value).ownBlock∧k_≠gb501∧k_≠gb509∧k_≠gb519∧k_≠gb534) (.slice Ao43 x510002_2.length co43) x510002_2):=⟨by rw [hw_];exact (yV0 HO_510002)⟩
       replace HO_520001 : Aside0 (Kd.S (Kd.slice 3 (Kd.int .i64)) 49 w55 w.heap.size (fun k_=>some k_≠(v531 : Value).ownBlock) u520001 x520001_2):=⟨by rw [hw_];exact (yS1 HO_520001 BK534)⟩
       replace HO523 : Aside0 (Kd.V (Kd.int .i64) 3 w55 w.heap.size (fun k_=>some k_≠(u520001 : Value).ownBlock∧some k_≠(v531 : Value).ownBlock∧k_≠gb501∧k_≠gb509∧k_≠gb519∧k_≠gb534) v522 t521):=⟨by rw [hw_];exact (yV0 HO523)⟩
       replace HO528 : Aside0 (Kd.V (Kd.int .u8) 5 w55 w.heap.size (fun k_=>some k_≠(u520001 : Value).ownBlock∧some k_≠(v531 : Value).ownBlock∧k_≠gb501∧k_≠gb509∧k_≠gb519∧k_≠gb534) (.slice Ao52 t526.length co52) t526):=⟨by rw [hw_];exact (yV0 HO528)⟩
       replace HO532 : Aside0 (Kd.R (Kd.int .i64) 3 w55 w.heap.size (fun _=>True) v531 t530):=⟨by rw [hw_];exact (yR1 HO532 BK534)⟩
       replace BK501 : Aside0 (w55.heap[gb501]? = some (.cells #[.bool false, .slice none 0 0, .slice none 0 0] 25 (0,0))):=⟨by rw [hw_];exact (yk BK501)⟩
       replace BK509 : Aside0 (w55.heap[gb509]? = some (.cells #[.int .u64 x510000_2, .int .u32 x510001_2, .slice Ao43 x510002_2.length co43, .int .i64 x510003_2] 82 (0,0))):=⟨by rw [hw_];exact (yk BK509)⟩
       replace BK519 : Aside0 (w55.heap[gb519]? = some (.cells #[.bool (t510 == 1),u520001, .slice none 0 0] 25 (0,0))):=⟨by rw [hw_];exact (yk BK519)⟩
       replace BK534 : Aside0 (w55.heap[gb534]? = some (.cells #[.int .u64 t524, .int .u32 t525, .slice Ao52 t526.length co52, .int .i64 t529] 82 (0,0))):=⟨by rw [hw_];exact (ykp BK534)⟩
       replace HB : Aside0 (Below w.heap.size w w55):=⟨by rw [hw_];exact (yhb)⟩
       clear hw_
       replace HO_510002:=zm (zC HO_510002.out)
       replace HO_520001:=zm (Kd.S_drew HO_520001.out)
       replace HO523:=zm (zC HO523.out)
       replace HO528:=zm (zC HO528.out)
       replace HO532:=zm (zq HO532.out)
       replace BK501:=zm (zj BK501.out)
       replace BK509:=zm (zj BK509.out)
       replace BK519:=zm (zj BK519.out)
       replace BK534:=zm (zj BK534.out)
       replace HB:=zm (zf HB.out)
       obtain ⟨Ao58,co58,eo58⟩:=Kd.R_slice HO532.out
       (first|subst eo58|(injection eo58 with f1_ f2_ f3_;have f4_:=f1_.symm;have f5_:=f3_.symm;clear f1_ f2_ f3_;subst f4_;subst f5_))
       refine yst (fun w' => w'.cell? ⟨gb534,0,none⟩=some (.int .u64 t524)∧w'.cell? ⟨gb534,1,none⟩=some (.int .u32 t525)∧w'.cell? ⟨gb534,2,none⟩=some (.slice Ao52 t526.length co52)∧w'.cell? ⟨gb534,3,none⟩=some (.int .i64 t529)∧w'.cell? ⟨gb519,0,none⟩=some (.bool (t510 == 1))∧w'.cell? ⟨gb519,1,none⟩=some (u520001)∧w'.cell? ⟨gb519,2,none⟩=some (.slice none 0 0)) [8] 9 cpack_Read.tab15 cpack_Read.bits15 (fun hHeld HT_ HW_ => ?_)
       generalize w55.drew=w56 at HO_510002 HO_520001 HO523 HO528 HO532 BK501 BK509 BK519 BK534 HB hHeld ⊢
       refine yp 1 83 HT_ ?_
       refine yp 3 85 HT_ ?_
       refine yl 0 82 HT_ HW_ hHeld ?_
       refine yl 2 84 HT_ HW_ hHeld ?_
       refine yw 4 86 HT_ (fun K hK => ?_)
       refine value_ (w1 := ?_) (v := ?_) (by rfl) rfl ?_ ?_
       rotate_left 2
       ·
        go_simp
        constructor
        ·
         rfl
        ·
         rfl
       refine hK.out _ _ ⟨(zs (zi BK534.out _) 0).trans rfl,(zs (zi BK534.out _) 1).trans rfl,(zs (zi BK534.out _) 2).trans rfl,(zs (zi BK534.out _) 3).trans rfl,(zs (zi BK519.out _) 0).trans rfl,(zs (zi BK519.out _) 1).trans rfl,(zs (zi BK519.out _) 2).trans rfl⟩ (fun hHeld => ?_)
       clear hK K
       refine ym (some 86) ?_
       refine yw 5 87 HT_ (fun K hK => ?_)
       refine Kd.S_append_step (Kd.slice 3 (Kd.int .i64)) (w0:=w) w.heap.size (by rfl) (.tmp 84) (.tmp 86) 22 49 (.slice none 0 0) 24 rfl Try.underlying22 info49 rfl (by decide) (by omega) u520001 x520001_2 t530 [.slice Ao58 t530.length co58] (fun _=>True) (fun k_=>some k_=(.slice Ao58 t530.length co58 : Value).ownBlock) rfl rfl ?aP (fun k_ hk_=>((zG (ok' := fun k_=>((fun _=>True)) k_∧some k_≠(u520001 : Value).ownBlock) (Kd.R_apart' (HO532.out) (Kd.S_typed HO_520001.out) (by decide)) (fun k_ hk=>⟨trivial,hk.2⟩))).1 k_ hk_.symm) ?aF ?aO ?aB ?aS ?aL ?_
       (case aP=>exact Kd.M_row (zG (Kd.R_tight rfl (zG (ok' := fun k_=>((fun _=>True)) k_∧some k_≠(u520001 : Value).ownBlock) (Kd.R_apart' (HO532.out) (Kd.S_typed HO_520001.out) (by decide)) (fun k_ hk=>⟨trivial,hk.2⟩))) (fun _ h_=>h_)))
       (case aB=>exact yhb)
       (case aF=>exact (fun _ _=>trivial))
       (case aO=>exact (yS0 HO_520001))
       (case aS=>exact (zE yhb))
       (case aL=>have:=LMc42.out;omega)
       intro v536 w57 ho hb hg hat
       rw [← Ny535.out] at ho
       replace HO_510002:=zm (Kd.V_afterv (ok:=(fun k_=>some k_≠(.slice Ao58 t530.length co58 : Value).ownBlock∧k_≠gb501∧k_≠gb509∧k_≠gb519∧k_≠gb534)) (yV0 HO_510002) hg hat)
       replace BK501:=zm (blk_grown (yk BK501) hg (Kd.S_ne HO_520001.out BK501.out (by decide)))
       replace BK509:=zm (blk_grown (yk BK509) hg (Kd.S_ne HO_520001.out BK509.out (by decide)))
       replace BK519:=zm (blk_grown (yk BK519) hg (Kd.S_ne HO_520001.out BK519.out (by decide)))
       replace HO523:=zm (Kd.V_afterv (ok:=(fun k_=>some k_≠(.slice Ao58 t530.length co58 : Value).ownBlock∧k_≠gb501∧k_≠gb509∧k_≠gb519∧k_≠gb534)) (yV0 HO523) hg hat)
       replace HO528:=zm (Kd.V_afterv (ok:=(fun k_=>some k_≠(.slice Ao58 t530.length co58 : Value).ownBlock∧k_≠gb501∧k_≠gb509∧k_≠gb519∧k_≠gb534)) (yV0 HO528) hg hat)
       replace BK534:=zm (blk_grown (yk BK534) hg (Kd.S_ne HO_520001.out BK534.out (by decide)))
       replace HB:=zm (hb)
       have HO537:=zm (ho);clear HO_520001;clear HO532;clear ho hb hg hat
       obtain ⟨Ao63,co63,eo63⟩:=Kd.S_slice HO537.out
       (first|subst eo63|(injection eo63 with f1_ f2_ f3_;have f4_:=f1_.symm;have f5_:=f3_.symm;clear f1_ f2_ f3_;subst f4_;subst f5_))
       refine hK.out _ _ yH (fun hHeld => ?_)
       clear hK K
       refine ym (some 87) ?_
       refine yv 6 HT_ (fun K hK => ?_)
       have hs59 : w57.cell? ⟨gb509,0,none⟩=some (.int .u64 x510000_2):=(zs BK509.out 0).trans rfl
       have hfs59:=zx BK509.out 0
       have:=NB501_509.out
       have:=NB519_509.out
       have:=NB534_509.out
       have:=NB509_501.out
       have:=NB509_519.out
       have:=NB509_534.out
       have hs60 : w57.cell? ⟨gb509,1,none⟩=some (.int .u32 x510001_2):=(zs BK509.out 1).trans rfl
       have hfs60:=zx BK509.out 1
       have:=NB501_509.out
       have:=NB519_509.out
       have:=NB534_509.out
       have:=NB509_501.out
       have:=NB509_519.out
       have:=NB509_534.out
       have hs61 : w57.cell? ⟨gb509,2,none⟩=some (.slice Ao43 x510002_2.length co43):=(zs BK509.out 2).trans rfl
       have hfs61:=zx BK509.out 2
       have:=NB501_509.out
       have:=NB519_509.out
       have:=NB534_509.out
       have:=NB509_501.out
       have:=NB509_519.out
       have:=NB509_534.out
       have hs62 : w57.cell? ⟨gb509,3,none⟩=some (.int .i64 x510003_2):=(zs BK509.out 3).trans rfl
       have hfs62:=zx BK509.out 3
       have:=NB501_509.out
       have:=NB519_509.out
       have:=NB534_509.out
       have:=NB509_501.out
       have:=NB509_519.out
       have:=NB509_534.out
       refine skip_ (w1 := ?_) (by rfl) rfl ?_ ?_
       rotate_left
       ·
        go_simp
        rfl
       refine hK.out _ _ yH (fun hHeld => ?_)
       clear hK K
       refine yp 7 88 HT_ ?_
       refine last_ (i:=8) (N:=none) #[true,true,true,true,true,true,true,true,true] rfl rfl (one_of HT_.out (by kernel_rfl)) (by decide) (fun K hK => ?_)
       have hs64 : w57.cell? ⟨gb519,1,none⟩=some (u520001):=(zs BK519.out 1).trans rfl
       have hfs64:=zx BK519.out 1
       have:=NB501_519.out
       have:=NB509_519.out
       have:=NB534_519.out
       have:=NB519_501.out
       have:=NB519_509.out
       have:=NB519_534.out
       refine skip_ (w1 := ?_) (by rfl) rfl ?_ ?_
       rotate_left
       ·
        go_simp
        rfl
       refine hK.out _ _ ?_
       clear hK K
       refine done_ (done_of HT_.out (by kernel_rfl)) ?_
       try go_wp2
       go_roundg k2
       case measure=>exact yom2 HJ10 HK2
       case rel=>exact ⟨(wrap64 (x68_2+1)),(t524),(t525),(t526),(t529),(y535),(.slice Ao52 t526.length co52),(.slice Ao63 y535.length co63),yq,H',⟨yom2 HJ10 HK2⟩,⟨yV0 HO528⟩,⟨yS2 HO537 BK509 BK519⟩,⟨yk BK501⟩,⟨ykp BK509⟩,⟨ykp BK519⟩,⟨yhb⟩⟩
      ·
       rw [if_neg c39] at H
       have c39b0 : decide (x68_2 < a1)=false:=decide_eq_false c39
       clear c39
       obtain ⟨⟨t538,t539⟩,A65,H⟩:=ybi H
       try dsimp only at H
       have H' := zm H
       clear H
       have:=NB519_501.out
       have:=NB501_519.out
       have:=NB519_509.out
       have:=NB509_519.out
       obtain ⟨hcz68_0,hcz68_1,hcz68_2,hfz68_0,hfz68_1,hfz68_2⟩:=yc3 BK519
       obtain ⟨Ao69,co69,eo69⟩:=Kd.S_slice HO_520001.out
       subst eo69
       go_wp2_with (first|((with_reducible refine gate_callee (f:=30) rfl ?_);refine ygl 95 Try.func30 #[.int .i64 a0, .int .i64 a1, .slice Ao69 x520001_2.length co69] ?_;(with_reducible refine (alloc_Pulses.calls k2 a0 a1 _ _ x520001_2 t538 t539 _ ?side1 ?side2 A65.out).mono ?_);(case side1=>exact yce (Kd.S_reads' HO_520001.out).2.2);(case side2=>exact (Kd.S_reads' HO_520001.out).2.1);rintro e w70 ⟨v540,rfl,ho0,hb⟩;refine ⟨_,rfl, ?_⟩;replace HO_510002:=zm (Kd.V_elder' (yr HO_510002) (Kd.S_base ho0) hb);have HO541:=zm (Kd.S_lower (Kd.S_new' ho0 (Kd.S_lt (yr HO_520001))) (zE yhb));replace HO_520001:=zm (Kd.S_elder' (yr HO_520001) (Kd.S_base ho0) hb);replace BK501:=ybb BK501 hb;replace BK509:=ybb BK509 hb;replace BK519:=ybb BK519 hb;replace HB:=ybs hb;(try clear hb);(try clear ho0)))
       go_loopg [99] k2 (fun kq v99 w' => ∃ (x99_3 : Int) (x510000_3 : Int) (x510001_3 : Int) (x510002_3 : List Int) (x510003_3 : Int) (x520002_3 : List (List (List Int))) (u510002 : Value) (u520002 : Value),v99=.int .i64 x99_3∧Aside0 (cpack_Read.l1 kq t538 a1 x99_3 x510000_3 x510001_3 x510002_3 x510003_3 (t510 == 1) x520001_2 x520002_3=some (r1,r2,r3,r4))∧Aside0 (kq≤k2)∧Aside0 (Kd.S (Kd.slice 3 (Kd.int .i64)) 49 w' w.heap.size (fun k_=>some k_≠((.slice Ao69 x520001_2.length co69) : Value).ownBlock) v540 t538)∧Aside0 (Kd.V (Kd.int .u8) 5 w' w.heap.size (fun k_=>some k_≠(v540 : Value).ownBlock∧some k_≠((.slice Ao69 x520001_2.length co69) : Value).ownBlock∧some k_≠(u520002 : Value).ownBlock∧k_≠gb501∧k_≠gb509∧k_≠gb519) u510002 x510002_3)∧Aside0 (Kd.S (Kd.slice 3 (Kd.int .i64)) 49 w' w.heap.size (fun k_=>some k_≠(v540 : Value).ownBlock) (.slice Ao69 x520001_2.length co69) x520001_2)∧Aside0 (Kd.R (Kd.slice 49 (Kd.slice 3 (Kd.int .i64))) 22 w' w.heap.size (fun k_=>some k_≠(v540 : Value).ownBlock∧some k_≠((.slice Ao69 x520001_2.length co69) : Value).ownBlock) u520002 x520002_3)∧Aside0 (w'.heap[gb501]? = some (.cells #[.bool false,(.slice none 0 0),(.slice none 0 0)] 25 (0,0)))∧Aside0 (w'.heap[gb509]? = some (.cells #[.int .u64 x510000_3, .int .u32 x510001_3,u510002, .int .i64 x510003_3] 82 (0,0)))∧Aside0 (w'.heap[gb519]? = some (.cells #[.bool (t510 == 1),(.slice Ao69 x520001_2.length co69),u520002] 25 (0,0)))∧Aside0 (Below w.heap.size w w'))
       case atStart=>exact ⟨(0),(x510000_2),(x510001_2),(x510002_2),(x510003_2),(([] : List (List (List Int)))),(u510002),(.slice none 0 0),yq,H',⟨Nat.le_refl _⟩,⟨yS0 HO541⟩,⟨yV0 HO_510002⟩,⟨yS0 HO_520001⟩,⟨yn⟩,⟨yk BK501⟩,⟨yk BK509⟩,⟨yk BK519⟩,⟨yhb⟩⟩
       case round =>
        clear H'
        try clear c39b0
        try clear hcz68_0
        try clear hcz68_1
        try clear hcz68_2
        try clear hfz68_0
        try clear hfz68_1
        try clear hfz68_2
        obtain ⟨x99_3,x510000_3,x510001_3,x510002_3,x510003_3,x520002_3,u510002,u520002,rfl,HA,HK3,HO_18,HO_510002,HO_520001,HO_520002,BK501,BK509,BK519,HB⟩:=hrel
        obtain ⟨k3,rfl⟩:=ysu gk (fun h=>by subst h;exact absurd HA.out (by simp [cpack_Read.l1]))
        have H:=HA.out;clear HA
        simp only [cpack_Read.l1] at H
        by_cases c71 : x99_3 < a1
        ·
         rw [if_pos c71] at H
         have c71b0 : decide (x99_3 < a1)=true:=decide_eq_true c71
         clear c71
         have H' := zm H
         clear H
         go_wp2
         go_loopg [21,102] k3 (fun kq v21 v102 w' => ∃ (x21_4 : List (List Int)) (x102_4 : Int) (x510000_4 : Int) (x510001_4 : Int) (x510002_4 : List Int) (x510003_4 : Int) (u510002 : Value),v102=.int .i64 x102_4∧Aside0 (cpack_Read.l2 kq t538 x99_3 x21_4 a1 x99_3 x102_4 x510000_4 x510001_4 x510002_4 x510003_4 (t510 == 1) x520001_2 x520002_3=some (r1,r2,r3,r4))∧Aside0 (kq≤k3)∧Aside0 (Kd.S (Kd.slice 3 (Kd.int .i64)) 49 w' w.heap.size (fun k_=>some k_≠(v21 : Value).ownBlock∧some k_≠((.slice Ao69 x520001_2.length co69) : Value).ownBlock) v540 t538)∧Aside0 (Kd.S (Kd.slice 3 (Kd.int .i64)) 49 w' w.heap.size (fun k_=>some k_≠(v540 : Value).ownBlock∧some k_≠((.slice Ao69 x520001_2.length co69) : Value).ownBlock) v21 x21_4)∧Aside0 (Kd.V (Kd.int .u8) 5 w' w.heap.size (fun k_=>some k_≠(v540 : Value).ownBlock∧some k_≠(v21 : Value).ownBlock∧some k_≠((.slice Ao69 x520001_2.length co69) : Value).ownBlock∧some k_≠(u520002 : Value).ownBlock∧k_≠gb501∧k_≠gb509∧k_≠gb519) u510002 x510002_4)∧Aside0 (Kd.S (Kd.slice 3 (Kd.int .i64)) 49 w' w.heap.size (fun k_=>some k_≠(v540 : Value).ownBlock∧some k_≠(v21 : Value).ownBlock) (.slice Ao69 x520001_2.length co69) x520001_2)∧Aside0 (Kd.R (Kd.slice 49 (Kd.slice 3 (Kd.int .i64))) 22 w' w.heap.size (fun k_=>some k_≠(v540 : Value).ownBlock∧some k_≠(v21 : Value).ownBlock∧some k_≠((.slice Ao69 x520001_2.length co69) : Value).ownBlock) u520002 x520002_3)∧Aside0 (w'.heap[gb501]? = some (.cells #[.bool false,(.slice none 0 0),(.slice none 0 0)] 25 (0,0)))∧Aside0 (w'.heap[gb509]? = some (.cells #[.int .u64 x510000_4, .int .u32 x510001_4,u510002, .int .i64 x510003_4] 82 (0,0)))∧Aside0 (w'.heap[gb519]? = some (.cells #[.bool (t510 == 1),(.slice Ao69 x520001_2.length co69),u520002] 25 (0,0)))∧Aside0 (Below w.heap.size w w'))
         case atStart=>exact ⟨(([] : List (List Int))),(0),(x510000_3),(x510001_3),(x510002_3),(x510003_3),(u510002),yq,H',⟨Nat.le_refl _⟩,⟨yS0 HO_18⟩,⟨yn⟩,⟨yV0 HO_510002⟩,⟨yS0 HO_520001⟩,⟨yR0 HO_520002⟩,⟨yk BK501⟩,⟨yk BK509⟩,⟨yk BK519⟩,⟨yhb⟩⟩
         case round =>
          clear H'
          try clear c71b0
          obtain ⟨x21_4,x102_4,x510000_4,x510001_4,x510002_4,x510003_4,u510002,rfl,HA,HK4,HO_18,HO_21,HO_510002,HO_520001,HO_520002,BK501,BK509,BK519,HB⟩:=hrel
          obtain ⟨k4,rfl⟩:=ysu gk (fun h=>by subst h;exact absurd HA.out (by simp [cpack_Read.l2]))
          have H:=HA.out;clear HA
          simp only [cpack_Read.l2] at H
          by_cases c72 : x102_4 < 5
          ·
           rw [if_pos c72] at H
           have c72b0 : decide (x102_4 < 5)=true:=decide_eq_true c72
           clear c72
           obtain ⟨t545,A73,H⟩:=ybi H
           obtain ⟨c74,H⟩:=yif H
           have c74b0:=eq_true c74
           have c74b1 : decide (0≤t545)=true:=decide_eq_true c74
           clear c74
           obtain ⟨c75,H⟩:=yif H
           have c75b0:=eq_true c75
           have c75b1 : decide ((t545 : Int).toNat≤35184372088832)=true:=decide_eq_true c75
           clear c75
           obtain ⟨y546,hy546⟩ : ∃ y_ : List Int,y_=(List.replicate (t545 : Int).toNat 0):=⟨_,rfl⟩
           replace H : (if 0≤x99_3 then (if x99_3 < (t538.length : Int) then (if 0≤x102_4 then (if x102_4 < ((rd_L1 t538 x99_3).length : Int) then (if (rd (rd_L1 t538 x99_3) x102_4) > 0 then ((band_Width.f x102_4).bind fun t551=>((comb_Count.f t551 (rd (rd_L1 t538 x99_3) x102_4)).bind fun bt554=>((coder_TakeNum.f k4 x510000_4 x510001_4 x510002_4 x510003_4 bt554.1).bind fun bt556=>((band_Width.f x102_4).bind fun t565=>((comb_Vector.f k4 t565 (rd (rd_L1 t538 x99_3) x102_4) bt556.2.2.2.2.1).bind fun bt568=>(if x21_4.length < 5864062014805 then (cpack_Read.l2 k4 t538 x99_3 (x21_4 ++ [bt568.1]) a1 x99_3 (wrap64 (x102_4+1)) bt556.1 bt556.2.1 bt556.2.2.1 bt556.2.2.2.1 (t510 == 1) x520001_2 x520002_3) else (none))))))) else (if x21_4.length < 5864062014805 then (cpack_Read.l2 k4 t538 x99_3 (x21_4 ++ [y546]) a1 x99_3 (wrap64 (x102_4+1)) x510000_4 x510001_4 x510002_4 x510003_4 (t510 == 1) x520001_2 x520002_3) else (none))) else (none)) else (none)) else (none)) else (none))=some (r1,r2,r3,r4):=yrw hy546 H
           have Ny546:=zm hy546;clear hy546
           obtain ⟨c76,H⟩:=yif H
           have c76b0 : decide (0≤x99_3)=true:=decide_eq_true c76
           clear c76
           obtain ⟨c77,H⟩:=yif H
           have c77b0 : decide (x99_3 < (t538.length : Int))=true:=decide_eq_true c77
           clear c77
           obtain ⟨c78,H⟩:=yif H
           have c78b0 : decide (0≤x102_4)=true:=decide_eq_true c78
           clear c78
           obtain ⟨c79,H⟩:=yif H
           have c79b0 : decide (x102_4 < ((rd_L1 t538 x99_3).length : Int))=true:=decide_eq_true c79
           clear c79
           by_cases c80 : (rd (rd_L1 t538 x99_3) x102_4) > 0
           ·
            rw [if_pos c80] at H
            have c80b0 : decide (0 < (rd (rd_L1 t538 x99_3) x102_4))=true:=decide_eq_true c80
            clear c80
            obtain ⟨t551,A81,H⟩:=ybi H
            obtain ⟨⟨t554,t555⟩,A82,H⟩:=ybi H
            try dsimp only at H
            obtain ⟨⟨t556,t557,t558,t561,t562,t563⟩,A83,H⟩:=ybi H
            try dsimp only at H
            obtain ⟨t565,A84,H⟩:=ybi H
            obtain ⟨⟨t568,t569⟩,A85,H⟩:=ybi H
            try dsimp only at H
            obtain ⟨c86,H⟩:=yif H
            have LMc86:=zm c86;clear c86
            obtain ⟨y572,hy572⟩ : ∃ y_ : List (List Int),y_=(x21_4 ++ [t568]):=⟨_,rfl⟩
            replace H : (cpack_Read.l2 k4 t538 x99_3 y572 a1 x99_3 (wrap64 (x102_4+1)) t556 t557 t558 t561 (t510 == 1) x520001_2 x520002_3)=some (r1,r2,r3,r4):=yrw hy572 H
            have Ny572:=zm hy572;clear hy572
            have H' := zm H
            clear H
            try go_wp2_with (first|((with_reducible refine gate_callee (f:=32) rfl ?_);refine ygl 106 Try.func32 #[.int .i64 x102_4] ?_;(with_reducible refine (band_Width.calls x102_4 t545 _ A73.out).mono ?_);rintro e w87 ⟨rfl,hb⟩;refine ⟨_,rfl, ?_⟩;replace HO_18:=ySb HO_18 hb;replace HO_21:=ySb HO_21 hb;replace HO_510002:=yVb HO_510002 hb;replace HO_520001:=ySb HO_520001 hb;replace HO_520002:=yRb HO_520002 hb;replace BK501:=ybb BK501 hb;replace BK509:=ybb BK509 hb;replace BK519:=ybb BK519 hb;replace HB:=ybs hb;(try clear hb))|((with_reducible refine gate_dst (N:=107) rfl ?_);refine Kd.R_make (Kd.int .i64) _ 3 rfl (N:=107) rfl 49 _ _ rfl t545 rfl rfl Try.underlying49 (.int .i64 0) 8 info3 rfl (by decide) (by omega) 0 (ok:=fun _=>True) (okp:=fun _=>True) rfl (fun _ hk=>hk) trivial (yt) (Nat.le_trans (Nat.mul_le_mul_right _ (yt : t545.toNat≤35184372088832)) (by omega)) (Below.refl _ _) (Nat.le_refl _) ?_;intro v547 w88 ho89 hb hg_ hnew_;clear hg_ hnew_;(first|rw [← Ny546.out] at ho89|(simp only [Int.reduceToNat] at ho89;rw [← Ny546.out] at ho89));replace HO_18:=zm (Kd.S_elder' (yr HO_18) (Kd.R_base ho89) hb);replace HO_21:=zm (Kd.S_elder' (yr HO_21) (Kd.R_base ho89) hb);replace HO_510002:=zm (Kd.V_elder' (yr HO_510002) (Kd.R_base ho89) hb);replace HO_520001:=zm (Kd.S_elder' (yr HO_520001) (Kd.R_base ho89) hb);replace HO_520002:=zm (Kd.R_elder' (yr HO_520002) (Kd.R_base ho89) hb);have HO548:=zm (Kd.R_lower ho89 (zE yhb));replace BK501:=ybb BK501 hb;replace BK509:=ybb BK509 hb;replace BK519:=ybb BK519 hb;replace HB:=ybs hb;clear hb ho89;obtain ⟨Ao90,co90,eo90⟩:=Kd.S_slice HO_18.out;subst eo90;have p549 : 0≤(x99_3 : Int):=yt;have q549 : x99_3 < (t538.length : Int):=yt;obtain ⟨ad549,A549_0,c549_0,e549,hx549_0,hl549_0,hi549_0⟩:=at_L1 (Kd.S_reads' HO_18.out).2.2 x99_3 p549 q549;cases e549;obtain ⟨ce549,hce549,hMe549,hcc549⟩:=Kd.S_get HO_18.out [] x99_3 p549 (by first|exact q549|exact yt|(have e_:=(Kd.S_reads' HO_18.out).1;omega));obtain ⟨ve549_0,rfl,ge549_0⟩:=hMe549;have hv549_0:=hcc549 0 _ rfl;rw [Nat.add_zero,show ((Kd.slice 3 (Kd.int .i64))).sz=1 from rfl,Nat.mul_one] at hv549_0;replace hv549_0:=Option.some.inj (hv549_0.symm.trans hx549_0);rw [hv549_0] at ge549_0;have HL549_0:=zm (show Kd.R (Kd.int .i64) 3 _ _ _ _ (rd_L1 t538 x99_3) from ge549_0);clear hv549_0 ge549_0;clear hcc549 hce549;have HR549_0:=zm hi549_0;have HC549_0:=zm hl549_0;clear hi549_0 hl549_0;replace p549:=eq_true p549;replace q549:=eq_true q549;obtain ⟨ad550,e550,hx550_0,p550,q550⟩:=yai HR549_0 x102_4;cases e550))
            replace HO_18:=zm (Kd.S_drew HO_18.out)
            replace HO_21:=zm (Kd.S_drew HO_21.out)
            replace HO_510002:=zm (zC HO_510002.out)
            replace HO_520001:=zm (Kd.S_drew HO_520001.out)
            replace HO_520002:=zm (zq HO_520002.out)
            replace HO548:=zm (zq HO548.out)
            replace HL549_0:=zm (zq HL549_0.out)
            replace BK501:=zm (zj BK501.out)
            replace BK509:=zm (zj BK509.out)
            replace BK519:=zm (zj BK519.out)
            replace HR549_0:=zm (Kd.C_drew HR549_0.out)
            replace HB:=zm (zf HB.out)
            have p552 : 0≤(x99_3 : Int):=yt
            have q552 : x99_3 < (t538.length : Int):=yt
            obtain ⟨ad552,A552_0,c552_0,e552,hx552_0,hl552_0,hi552_0⟩:=at_L1 (Kd.S_reads' HO_18.out).2.2 x99_3 p552 q552
            obtain rfl : ad549=ad552:=(by injection e552)
            obtain ⟨ce552,hce552,hMe552,hcc552⟩:=Kd.S_get HO_18.out [] x99_3 p552 (by first|exact q552|exact yt|(have e_:=(Kd.S_reads' HO_18.out).1;omega))
            obtain ⟨ve552_0,rfl,ge552_0⟩:=hMe552
            have hv552_0:=hcc552 0 _ rfl
            rw [Nat.add_zero,show ((Kd.slice 3 (Kd.int .i64))).sz=1 from rfl,Nat.mul_one] at hv552_0
            replace hv552_0:=Option.some.inj (hv552_0.symm.trans hx552_0)
            rw [hv552_0] at ge552_0
            have HL552_0:=zm (show Kd.R (Kd.int .i64) 3 _ _ _ _ (rd_L1 t538 x99_3) from ge552_0)
            clear hv552_0 ge552_0;clear hcc552 hce552;have HR552_0:=zm hi552_0;have HC552_0:=zm hl552_0;clear hi552_0 hl552_0
            replace p552:=eq_true p552
            replace q552:=eq_true q552
            obtain ⟨ad553,e553,hx553_0,p553,q553⟩:=yai HR552_0 x102_4
            cases e553
            refine yst (fun w' => w'.cell? (ad549.add (x99_3).toNat)=some (.slice (some ad553) (rd_L1 t538 x99_3).length c552_0)∧w'.cell? (ad553.add (x102_4).toNat)=some (.int .i64 (rd (rd_L1 t538 x99_3) x102_4))) [] 15 cpack_Read.tab27 cpack_Read.bits27 (fun hHeld HT_ HW_ => ?_)
            generalize w88.drew=w91 at HO_18 HO_21 HO_510002 HO_520001 HO_520002 HO548 HL549_0 BK501 BK509 BK519 HR549_0 HB HL552_0 HR552_0 hx552_0 hx553_0 hHeld ⊢
            refine yp 0 117 HT_ ?_
            refine yp 2 119 HT_ ?_
            refine yp 3 120 HT_ ?_
            refine yp 4 121 HT_ ?_
            refine yp 6 123 HT_ ?_
            refine yl 5 122 HT_ HW_ hHeld ?_
            refine yp 7 124 HT_ ?_
            refine yl 8 125 HT_ HW_ hHeld ?_
            refine yw 1 118 HT_ (fun K hK => ?_)
            refine ygs Try.func32 #[.int .i64 x102_4] ?_
            with_reducible refine (band_Width.calls x102_4 t551 _ A81.out).mono ?_
            rintro e w92 ⟨rfl,hb⟩
            have HS0_:=yhs hb hHeld.1
            have HS1_:=yhs hb hHeld.2
            refine ⟨_,rfl, ?_⟩
            replace HO_18:=ySb HO_18 hb
            replace HO_21:=ySb HO_21 hb
            replace HO_510002:=yVb HO_510002 hb
            replace HO_520001:=ySb HO_520001 hb
            replace HO_520002:=yRb HO_520002 hb
            replace HO548:=yRb HO548 hb
            replace HL549_0:=yRb HL549_0 hb
            replace HL552_0:=yRb HL552_0 hb
            replace BK501:=ybb BK501 hb
            replace BK509:=ybb BK509 hb
            replace BK519:=ybb BK519 hb
            replace HR549_0:=yCb HR549_0 hb
            replace HR552_0:=yCb HR552_0 hb
            replace HB:=ybs hb
            (try clear hb)
            refine hK.out _ _ yH (fun hHeld => ?_)
            clear hK K
            refine ym (some 118) ?_
            refine yw 9 126 HT_ (fun K hK => ?_)
            refine ygs Try.func31 #[.int .i64 t551, .int .i64 (rd (rd_L1 t538 x99_3) x102_4)] ?_
            with_reducible refine (comb_Count.calls t551 (rd (rd_L1 t538 x99_3) x102_4) t554 t555 _ A82.out).mono ?_
            rintro e w93 ⟨rfl,hb⟩
            have HS0_:=yhs hb hHeld.1
            have HS1_:=yhs hb hHeld.2
            refine ⟨_,rfl, ?_⟩
            replace HO_18:=ySb HO_18 hb
            replace HO_21:=ySb HO_21 hb
            replace HO_510002:=yVb HO_510002 hb
            replace HO_520001:=ySb HO_520001 hb
            replace HO_520002:=yRb HO_520002 hb
            replace HO548:=yRb HO548 hb
            replace HL549_0:=yRb HL549_0 hb
            replace HL552_0:=yRb HL552_0 hb
            replace BK501:=ybb BK501 hb
            replace BK509:=ybb BK509 hb
            replace BK519:=ybb BK519 hb
            replace HR549_0:=yCb HR549_0 hb
            replace HR552_0:=yCb HR552_0 hb
            replace HB:=ybs hb
            (try clear hb)
            refine hK.out _ _ yH (fun hHeld => ?_)
            clear hK K
            refine ym (some 126) ?_
            refine yp 10 116 HT_ ?_
            refine yp 11 127 HT_ ?_
            refine yp 12 128 HT_ ?_
            refine yp 13 24 HT_ ?_
            refine yp 14 25 HT_ ?_
            refine done_ (done_of HT_.out (by kernel_rfl)) ?_
            have:=NB509_501.out
            have:=NB501_509.out
            have:=NB509_519.out
            have:=NB519_509.out
            obtain ⟨_,_,_,_,_,_,_,_⟩:=yc4 BK509
            obtain ⟨Ao97,co97,eo97⟩:=Kd.V_slice HO_510002.out
            subst eo97
            try go_wp2_with (first|((with_reducible refine gate_callee (f:=53) rfl ?_);refine ygl 132 Try.func53 #[.agg #[.int .u64 x510000_4, .int .u32 x510001_4, .slice Ao97 x510002_4.length co97, .int .i64 x510003_4], .int .u64 t554] ?_;(with_reducible refine (coder_TakeNum.calls k4 x510000_4 x510001_4 (fun k_=>((some k_≠(.slice (some ad549) t538.length co90 : Value).ownBlock∧(some k_≠(u21 : Value).ownBlock∧(some k_≠(.slice Ao69 x520001_2.length co69 : Value).ownBlock∧(some k_≠(u520002 : Value).ownBlock∧(k_≠gb501∧(k_≠gb509∧k_≠gb519))))))∧some k_≠(v547 : Value).ownBlock)) _ _ x510002_4 x510003_4 t554 t556 t557 t558 t561 t562 t563 _ HO_510002.out A83.out).mono ?_);rintro e w98 ⟨v559,rfl,ho0,hb⟩;refine ⟨_,rfl, ?_⟩;replace HO_510002:=yVb HO_510002 hb;replace HL549_0:=yRb HL549_0 hb;replace HL552_0:=yRb HL552_0 hb;have HO560:=yho (fun k_=>some k_≠(.slice (some ad549) t538.length co90 : Value).ownBlock∧some k_≠(u21 : Value).ownBlock∧some k_≠(.slice Ao69 x520001_2.length co69 : Value).ownBlock∧some k_≠(u520002 : Value).ownBlock∧some k_≠(v547 : Value).ownBlock∧k_≠gb501∧k_≠gb509∧k_≠gb519) ho0 (fun k_ hk_=>⟨yoS HO_18 hk_,yoS HO_21 hk_,yoS HO_520001 hk_,yoR HO_520002 hk_,yoR HO548 hk_,yoB BK501 hk_,yoB BK509 hk_,yoB BK519 hk_⟩);replace HO_18:=ySb HO_18 hb;replace HO_21:=ySb HO_21 hb;replace HO_520001:=ySb HO_520001 hb;replace HO_520002:=yRb HO_520002 hb;replace HO548:=yRb HO548 hb;replace BK501:=ybb BK501 hb;replace BK509:=ybb BK509 hb;replace BK519:=ybb BK519 hb;replace HR549_0:=yCb HR549_0 hb;replace HR552_0:=yCb HR552_0 hb;replace HB:=ybs hb;(try clear hb);(try clear ho0))|((with_reducible refine gate_dst (N:=26) rfl ?_);refine ybx 26 #[.int .u64 0, .int .u32 0, .slice none 0 0, .int .i64 0] 82 ?_;intro gb564 hg w99 hbox hb;replace HO_18:=ySb HO_18 hb;replace HO_21:=ySb HO_21 hb;replace HO_510002:=yVe HO_510002 hg hb;replace HO_520001:=ySb HO_520001 hb;replace HO_520002:=yRb HO_520002 hb;replace HO548:=yRb HO548 hb;replace HL549_0:=yRb HL549_0 hb;replace HL552_0:=yRb HL552_0 hb;replace HO560:=yVe HO560 hg hb;replace HR549_0:=yCb HR549_0 hb;replace HR552_0:=yCb HR552_0 hb;have BK564:=zm (hbox);have GW564:=ygw hg;have GE564:=ygw hg;replace HB:=ybs hb;have NB501_564:=ynl BK501 hg;have NB564_501:=yng BK501 hg;replace BK501:=ybb BK501 hb;have NB509_564:=ynl BK509 hg;have NB564_509:=yng BK509 hg;replace BK509:=ybb BK509 hb;have NB519_564:=ynl BK519 hg;have NB564_519:=yng BK519 hg;replace BK519:=ybb BK519 hb;clear hb hbox hg;have:=NB564_501.out;have:=NB501_564.out;have:=NB564_509.out;have:=NB509_564.out;have:=NB564_519.out;have:=NB519_564.out;obtain ⟨_,_,_,_,_,_,_,_⟩:=yc4 BK564;obtain ⟨Ao104,co104,eo104⟩:=Kd.V_slice HO560.out;subst eo104;obtain ⟨_,_,_,_,_,_,_,_⟩:=yc4 BK509))
            obtain ⟨w106,hw_⟩ : ∃ x,x=((((((((w99.setCell ⟨gb564,0,none⟩ (.int .u64 t556)).setCell ⟨gb564,1,none⟩ (.int .u32 t557)).setCell ⟨gb564,2,none⟩ (.slice Ao104 t558.length co104)).setCell ⟨gb564,3,none⟩ (.int .i64 t561)).setCell ⟨gb509,0,none⟩ (.int .u64 t556)).setCell ⟨gb509,1,none⟩ (.int .u32 t557)).setCell ⟨gb509,2,none⟩ (.slice Ao104 t558.length co104)).setCell ⟨gb509,3,none⟩ (.int .i64 t561)):=⟨_,rfl⟩
            rw [← hw_]
            replace HO_18 : Aside0 (Kd.S (Kd.slice 3 (Kd.int .i64)) 49 w106 w.heap.size (fun k_=>some k_≠(u21 : Value).ownBlock∧some k_≠(.slice Ao69 x520001_2.length co69 : Value).ownBlock∧some k_≠(v547 : Value).ownBlock) (.slice (some ad549) t538.length co90) t538):=⟨by rw [hw_];exact (yS2 HO_18 BK564 BK509)⟩
            replace HO_21 : Aside0 (Kd.S (Kd.slice 3 (Kd.int .i64)) 49 w106 w.heap.size (fun k_=>some k_≠(.slice (some ad549) t538.length co90 : Value).ownBlock∧some k_≠(.slice Ao69 x520001_2.length co69 : Value).ownBlock∧some k_≠(v547 : Value).ownBlock) u21 x21_4):=⟨by rw [hw_];exact (yS2 HO_21 BK564 BK509)⟩
            replace HO_510002 : Aside0 (Kd.V (Kd.int .u8) 5 w106 w.heap.size (fun k_=>some k_≠(.slice (some ad549) t538.length co90 : Value).ownBlock∧some k_≠(u21 : Value).ownBlock∧some k_≠(.slice Ao69 x520001_2.length co69 : Value).ownBlock∧some k_≠(u520002 : Value).ownBlock∧some k_≠(v547 : Value).ownBlock∧k_≠gb501∧k_≠gb509∧k_≠gb519∧k_≠gb564) (.slice Ao97 x510002_4.length co97) x510002_4):=⟨by rw [hw_];exact (yV0 HO_510002)⟩
            replace HO_520001 : Aside0 (Kd.S (Kd.slice 3 (Kd.int .i64)) 49 w106 w.heap.size (fun k_=>some k_≠(.slice (some ad549) t538.length co90 : Value).ownBlock∧some k_≠(u21 : Value).ownBlock∧some k_≠(v547 : Value).ownBlock) (.slice Ao69 x520001_2.length co69) x520001_2):=⟨by rw [hw_];exact (yS2 HO_520001 BK564 BK509)⟩
            replace HO_520002 : Aside0 (Kd.R (Kd.slice 49 (Kd.slice 3 (Kd.int .i64))) 22 w106 w.heap.size (fun k_=>some k_≠(.slice (some ad549) t538.length co90 : Value).ownBlock∧some k_≠(u21 : Value).ownBlock∧some k_≠(.slice Ao69 x520001_2.length co69 : Value).ownBlock∧some k_≠(v547 : Value).ownBlock) u520002 x520002_3):=⟨by rw [hw_];exact (yR2 HO_520002 BK564 BK509)⟩
            replace HO548 : Aside0 (Kd.R (Kd.int .i64) 3 w106 w.heap.size (fun _=>True) v547 y546):=⟨by rw [hw_];exact (yR2 HO548 BK564 BK509)⟩
            replace HL549_0 : Aside0 (Kd.R (Kd.int .i64) 3 w106 w.heap.size (fun k_=>some k_≠(.slice (some ad549) t538.length co90 : Value).ownBlock∧some k_≠(u21 : Value).ownBlock∧some k_≠(.slice Ao69 x520001_2.length co69 : Value).ownBlock∧some k_≠(v547 : Value).ownBlock) (.slice (some ad550) (rd_L1 t538 x99_3).length c549_0) (rd_L1 t538 x99_3)):=⟨by rw [hw_];exact (yR2 HL549_0 BK564 BK509)⟩
            replace HL552_0 : Aside0 (Kd.R (Kd.int .i64) 3 w106 w.heap.size (fun k_=>some k_≠(.slice (some ad549) t538.length co90 : Value).ownBlock∧some k_≠(u21 : Value).ownBlock∧some k_≠(.slice Ao69 x520001_2.length co69 : Value).ownBlock∧some k_≠(v547 : Value).ownBlock) (.slice (some ad553) (rd_L1 t538 x99_3).length c552_0) (rd_L1 t538 x99_3)):=⟨by rw [hw_];exact (yR2 HL552_0 BK564 BK509)⟩
            replace HO560 : Aside0 (Kd.V (Kd.int .u8) 5 w106 w.heap.size (fun k_=>some k_≠(.slice (some ad549) t538.length co90 : Value).ownBlock∧some k_≠(u21 : Value).ownBlock∧some k_≠(.slice Ao69 x520001_2.length co69 : Value).ownBlock∧some k_≠(u520002 : Value).ownBlock∧some k_≠(v547 : Value).ownBlock∧k_≠gb501∧k_≠gb509∧k_≠gb519∧k_≠gb564) (.slice Ao104 t558.length co104) t558):=⟨by rw [hw_];exact (yV0 HO560)⟩
            replace BK501 : Aside0 (w106.heap[gb501]? = some (.cells #[.bool false, .slice none 0 0, .slice none 0 0] 25 (0,0))):=⟨by rw [hw_];exact (yk BK501)⟩
            replace BK509 : Aside0 (w106.heap[gb509]? = some (.cells #[.int .u64 t556, .int .u32 t557, .slice Ao104 t558.length co104, .int .i64 t561] 82 (0,0))):=⟨by rw [hw_];exact (ykp BK509)⟩
            replace BK519 : Aside0 (w106.heap[gb519]? = some (.cells #[.bool (t510 == 1), .slice Ao69 x520001_2.length co69,u520002] 25 (0,0))):=⟨by rw [hw_];exact (yk BK519)⟩
            replace BK564 : Aside0 (w106.heap[gb564]? = some (.cells #[.int .u64 t556, .int .u32 t557, .slice Ao104 t558.length co104, .int .i64 t561] 82 (0,0))):=⟨by rw [hw_];exact (ykp BK564)⟩
            replace HB : Aside0 (Below w.heap.size w w106):=⟨by rw [hw_];exact (yhb)⟩
            clear hw_
            replace HO_18:=zm (Kd.S_drew HO_18.out)
            replace HO_21:=zm (Kd.S_drew HO_21.out)
            replace HO_510002:=zm (zC HO_510002.out)
            replace HO_520001:=zm (Kd.S_drew HO_520001.out)
            replace HO_520002:=zm (zq HO_520002.out)
            replace HO548:=zm (zq HO548.out)
            replace HL549_0:=zm (zq HL549_0.out)
            replace HL552_0:=zm (zq HL552_0.out)
            replace HO560:=zm (zC HO560.out)
            replace BK501:=zm (zj BK501.out)
            replace BK509:=zm (zj BK509.out)
            replace BK519:=zm (zj BK519.out)
            replace BK564:=zm (zj BK564.out)
            replace HB:=zm (zf HB.out)
            have p566 : 0≤(x99_3 : Int):=yt
            have q566 : x99_3 < (t538.length : Int):=yt
            obtain ⟨ad566,A566_0,c566_0,e566,hx566_0,hl566_0,hi566_0⟩:=at_L1 (Kd.S_reads' HO_18.out).2.2 x99_3 p566 q566
            obtain rfl : ad549=ad566:=(by injection e566)
            obtain ⟨ce566,hce566,hMe566,hcc566⟩:=Kd.S_get HO_18.out [] x99_3 p566 (by first|exact q566|exact yt|(have e_:=(Kd.S_reads' HO_18.out).1;omega))
            obtain ⟨ve566_0,rfl,ge566_0⟩:=hMe566
            have hv566_0:=hcc566 0 _ rfl
            rw [Nat.add_zero,show ((Kd.slice 3 (Kd.int .i64))).sz=1 from rfl,Nat.mul_one] at hv566_0
            replace hv566_0:=Option.some.inj (hv566_0.symm.trans hx566_0)
            rw [hv566_0] at ge566_0
            have HL566_0:=zm (show Kd.R (Kd.int .i64) 3 _ _ _ _ (rd_L1 t538 x99_3) from ge566_0)
            clear hv566_0 ge566_0;clear hcc566 hce566;have HR566_0:=zm hi566_0;have HC566_0:=zm hl566_0;clear hi566_0 hl566_0
            replace p566:=eq_true p566
            replace q566:=eq_true q566
            obtain ⟨ad567,e567,hx567_0,p567,q567⟩:=yai HR566_0 x102_4
            cases e567
            refine yst (fun w' => w'.cell? (ad549.add (x99_3).toNat)=some (.slice (some ad567) (rd_L1 t538 x99_3).length c566_0)∧w'.cell? (ad567.add (x102_4).toNat)=some (.int .i64 (rd (rd_L1 t538 x99_3) x102_4))) [] 15 cpack_Read.tab30 cpack_Read.bits30 (fun hHeld HT_ HW_ => ?_)
            generalize w106.drew=w107 at HO_18 HO_21 HO_510002 HO_520001 HO_520002 HO548 HL549_0 HL552_0 HO560 BK501 BK509 BK519 BK564 HB HL566_0 HR566_0 hx566_0 hx567_0 hHeld ⊢
            refine yp 0 138 HT_ ?_
            refine yp 2 140 HT_ ?_
            refine yp 3 141 HT_ ?_
            refine yp 4 142 HT_ ?_
            refine yp 6 144 HT_ ?_
            refine yp 9 147 HT_ ?_
            refine yl 5 143 HT_ HW_ hHeld ?_
            refine yp 7 145 HT_ ?_
            refine yl 8 146 HT_ HW_ hHeld ?_
            refine yw 1 139 HT_ (fun K hK => ?_)
            refine ygs Try.func32 #[.int .i64 x102_4] ?_
            with_reducible refine (band_Width.calls x102_4 t565 _ A84.out).mono ?_
            rintro e w108 ⟨rfl,hb⟩
            have HS0_:=yhs hb hHeld.1
            have HS1_:=yhs hb hHeld.2
            refine ⟨_,rfl, ?_⟩
            replace HO_18:=ySb HO_18 hb
            replace HO_21:=ySb HO_21 hb
            replace HO_510002:=yVb HO_510002 hb
            replace HO_520001:=ySb HO_520001 hb
            replace HO_520002:=yRb HO_520002 hb
            replace HO548:=yRb HO548 hb
            replace HL549_0:=yRb HL549_0 hb
            replace HL552_0:=yRb HL552_0 hb
            replace HO560:=yVb HO560 hb
            replace HL566_0:=yRb HL566_0 hb
            replace BK501:=ybb BK501 hb
            replace BK509:=ybb BK509 hb
            replace BK519:=ybb BK519 hb
            replace BK564:=ybb BK564 hb
            replace HR566_0:=yCb HR566_0 hb
            replace HB:=ybs hb
            (try clear hb)
            refine hK.out _ _ yH (fun hHeld => ?_)
            clear hK K
            refine ym (some 139) ?_
            refine yw 10 148 HT_ (fun K hK => ?_)
            refine ygs Try.func54 #[.int .i64 t565, .int .i64 (rd (rd_L1 t538 x99_3) x102_4), .int .u64 t562] ?_
            with_reducible refine (comb_Vector.calls k4 t565 (rd (rd_L1 t538 x99_3) x102_4) t562 t568 t569 _ A85.out).mono ?_
            rintro e w109 ⟨v570,rfl,ho0,hb⟩
            have HS0_:=yhs hb hHeld.1
            have HS1_:=yhs hb hHeld.2
            refine ⟨_,rfl, ?_⟩
            replace HO_18:=zm (Kd.S_elder' (yr HO_18) (Kd.R_base ho0) hb)
            replace HO_21:=zm (Kd.S_elder' (yr HO_21) (Kd.R_base ho0) hb)
            replace HO_510002:=zm (Kd.V_elder' (yr HO_510002) (Kd.R_base ho0) hb)
            replace HO_520001:=zm (Kd.S_elder' (yr HO_520001) (Kd.R_base ho0) hb)
            replace HO_520002:=zm (Kd.R_elder' (yr HO_520002) (Kd.R_base ho0) hb)
            replace HO560:=zm (Kd.V_elder' (yr HO560) (Kd.R_base ho0) hb)
            have HO571:=zm (Kd.R_lower (Kd.R_new' (Kd.R_new' (Kd.R_new' (Kd.R_new' ho0 (Kd.R_lt (yr HO548))) (Kd.R_lt (yr HL549_0))) (Kd.R_lt (yr HL552_0))) (Kd.R_lt (yr HL566_0))) (zE yhb))
            replace HO548:=zm (Kd.R_elder' (yr HO548) (Kd.R_base ho0) hb)
            replace HL549_0:=zm (Kd.R_elder' (yr HL549_0) (Kd.R_base ho0) hb)
            replace HL552_0:=zm (Kd.R_elder' (yr HL552_0) (Kd.R_base ho0) hb)
            replace HL566_0:=zm (Kd.R_elder' (yr HL566_0) (Kd.R_base ho0) hb)
            replace BK501:=ybb BK501 hb
            replace BK509:=ybb BK509 hb
            replace BK519:=ybb BK519 hb
            replace BK564:=ybb BK564 hb
            replace HR566_0:=yCb HR566_0 hb
            replace HB:=ybs hb
            (try clear hb)
            (try clear ho0)
            refine hK.out _ _ yH (fun hHeld => ?_)
            clear hK K
            refine ym (some 148) ?_
            refine yp 11 137 HT_ ?_
            refine yp 12 149 HT_ ?_
            refine yp 13 150 HT_ ?_
            refine yp 14 23 HT_ ?_
            refine done_ (done_of HT_.out (by kernel_rfl)) ?_
            obtain ⟨Ao111,co111,eo111⟩:=Kd.R_slice HO571.out
            subst eo111
            try go_wp2_with (first|((with_reducible refine gate_builtin (b:=.append) (xs := #[.tmp 151, .tmp 153]) rfl ?_);at_builtin;refine Kd.S_append (Kd.slice 3 (Kd.int .i64)) (w0:=w) w.heap.size rfl (.tmp 151) (.tmp 153) 22 49 (.slice none 0 0) 24 rfl Try.underlying22 info49 rfl (by decide) (by omega) u21 x21_4 t568 [.slice Ao111 t568.length co111] (fun k_=>some k_≠(.slice (some ad549) t538.length co90 : Value).ownBlock∧some k_≠(.slice Ao69 x520001_2.length co69 : Value).ownBlock∧some k_≠(v547 : Value).ownBlock) (fun k_=>some k_=(.slice Ao111 t568.length co111 : Value).ownBlock) rfl rfl ?aP (fun k_ hk_=>((zG (ok' := fun k_=>((fun k_=>some k_≠(.slice (some ad549) t538.length co90 : Value).ownBlock∧some k_≠(.slice Ao69 x520001_2.length co69 : Value).ownBlock∧some k_≠(v547 : Value).ownBlock)) k_∧some k_≠(u21 : Value).ownBlock) (Kd.R_apart' (Kd.R_apart' (Kd.R_apart' (HO571.out) (Kd.S_typed HO_18.out) (by decide)) (Kd.S_typed HO_520001.out) (by decide)) (Kd.S_typed HO_21.out) (by decide)) (fun k_ hk=>⟨⟨hk.1.1.2,⟨hk.1.2,hk.1.1.1.1.1.1.2⟩⟩,hk.2⟩))).1 k_ hk_.symm) ?aF ?aO ?aB ?aS ?aL ?_;(case aP=>exact Kd.M_row (zG (Kd.R_tight rfl (zG (ok' := fun k_=>((fun k_=>some k_≠(.slice (some ad549) t538.length co90 : Value).ownBlock∧some k_≠(.slice Ao69 x520001_2.length co69 : Value).ownBlock∧some k_≠(v547 : Value).ownBlock)) k_∧some k_≠(u21 : Value).ownBlock) (Kd.R_apart' (Kd.R_apart' (Kd.R_apart' (HO571.out) (Kd.S_typed HO_18.out) (by decide)) (Kd.S_typed HO_520001.out) (by decide)) (Kd.S_typed HO_21.out) (by decide)) (fun k_ hk=>⟨⟨hk.1.1.2,⟨hk.1.2,hk.1.1.1.1.1.1.2⟩⟩,hk.2⟩))) (fun _ h_=>h_)));(case aB=>exact yhb);(case aF=>exact (fun k_ hk=>⟨Kd.fresh' (Kd.S_lt (yr HO_18)) k_ hk,Kd.fresh' (Kd.S_lt (yr HO_520001)) k_ hk,Kd.fresh' (Kd.R_lt (yr HO548)) k_ hk⟩));(case aO=>exact (yS0 HO_21));(case aS=>exact (zE yhb));(case aL=>have:=LMc86.out;omega);intro v573 w110 ho hb hg hat;rw [← Ny572.out] at ho;replace HO_18:=zm (Kd.S_after (ok:=(fun k_=>some k_≠(.slice Ao69 x520001_2.length co69 : Value).ownBlock∧some k_≠(v547 : Value).ownBlock∧some k_≠(.slice Ao111 t568.length co111 : Value).ownBlock)) (yS0 HO_18) hg hat);replace HO_510002:=zm (Kd.V_afterv (ok:=(fun k_=>some k_≠(.slice (some ad549) t538.length co90 : Value).ownBlock∧some k_≠(.slice Ao69 x520001_2.length co69 : Value).ownBlock∧some k_≠(u520002 : Value).ownBlock∧some k_≠(v547 : Value).ownBlock∧some k_≠(.slice Ao111 t568.length co111 : Value).ownBlock∧k_≠gb501∧k_≠gb509∧k_≠gb519∧k_≠gb564)) (yV0 HO_510002) hg hat);replace HO_520001:=zm (Kd.S_after (ok:=(fun k_=>some k_≠(.slice (some ad549) t538.length co90 : Value).ownBlock∧some k_≠(v547 : Value).ownBlock∧some k_≠(.slice Ao111 t568.length co111 : Value).ownBlock)) (yS0 HO_520001) hg hat);replace HO_520002:=zm (Kd.R_after (ok:=(fun k_=>some k_≠(.slice (some ad549) t538.length co90 : Value).ownBlock∧some k_≠(.slice Ao69 x520001_2.length co69 : Value).ownBlock∧some k_≠(v547 : Value).ownBlock∧some k_≠(.slice Ao111 t568.length co111 : Value).ownBlock)) (yR0 HO_520002) hg hat);replace BK501:=zm (blk_grown (yk BK501) hg (Kd.S_ne HO_21.out BK501.out (by decide)));replace BK509:=zm (blk_grown (yk BK509) hg (Kd.S_ne HO_21.out BK509.out (by decide)));replace BK519:=zm (blk_grown (yk BK519) hg (Kd.S_ne HO_21.out BK519.out (by decide)));replace HO548:=zm (Kd.R_over' (yr HO548) (Kd.S_typed (yr HO_21)) (by decide) hg);replace HL549_0:=zm (Kd.R_after (ok:=(fun k_=>some k_≠(.slice (some ad549) t538.length co90 : Value).ownBlock∧some k_≠(.slice Ao69 x520001_2.length co69 : Value).ownBlock∧some k_≠(v547 : Value).ownBlock∧some k_≠(.slice Ao111 t568.length co111 : Value).ownBlock)) (yR0 HL549_0) hg hat);replace HL552_0:=zm (Kd.R_after (ok:=(fun k_=>some k_≠(.slice (some ad549) t538.length co90 : Value).ownBlock∧some k_≠(.slice Ao69 x520001_2.length co69 : Value).ownBlock∧some k_≠(v547 : Value).ownBlock∧some k_≠(.slice Ao111 t568.length co111 : Value).ownBlock)) (yR0 HL552_0) hg hat);replace HO560:=zm (Kd.V_afterv (ok:=(fun k_=>some k_≠(.slice (some ad549) t538.length co90 : Value).ownBlock∧some k_≠(.slice Ao69 x520001_2.length co69 : Value).ownBlock∧some k_≠(u520002 : Value).ownBlock∧some k_≠(v547 : Value).ownBlock∧some k_≠(.slice Ao111 t568.length co111 : Value).ownBlock∧k_≠gb501∧k_≠gb509∧k_≠gb519∧k_≠gb564)) (yV0 HO560) hg hat);replace BK564:=zm (blk_grown (yk BK564) hg (Kd.S_ne HO_21.out BK564.out (by decide)));replace HL566_0:=zm (Kd.R_after (ok:=(fun k_=>some k_≠(.slice (some ad549) t538.length co90 : Value).ownBlock∧some k_≠(.slice Ao69 x520001_2.length co69 : Value).ownBlock∧some k_≠(v547 : Value).ownBlock∧some k_≠(.slice Ao111 t568.length co111 : Value).ownBlock)) (yR0 HL566_0) hg hat);replace HB:=zm (hb);have HO574:=zm (ho);clear HO_21;clear HO571;clear ho hb hg hat))
            go_roundg k4
            case measure=>exact yom4 HJ10 HK2 HK3 HK4
            case rel=>exact ⟨(y572),(wrap64 (x102_4+1)),(t556),(t557),(t558),(t561),(.slice Ao104 t558.length co104),yq,H',⟨yom4 HJ10 HK2 HK3 HK4⟩,⟨yS0 HO_18⟩,⟨yS0 HO574⟩,⟨yV0 HO560⟩,⟨yS0 HO_520001⟩,⟨yR0 HO_520002⟩,⟨yk BK501⟩,⟨yk BK509⟩,⟨yk BK519⟩,⟨yhb⟩⟩
           ·
            rw [if_neg c80] at H
            have c80b0 : decide (0 < (rd (rd_L1 t538 x99_3) x102_4))=false:=decide_eq_false c80
            clear c80
            obtain ⟨c112,H⟩:=yif H
            have LMc112:=zm c112;clear c112
            obtain ⟨y575,hy575⟩ : ∃ y_ : List (List Int),y_=(x21_4 ++ [y546]):=⟨_,rfl⟩
            replace H : (cpack_Read.l2 k4 t538 x99_3 y575 a1 x99_3 (wrap64 (x102_4+1)) x510000_4 x510001_4 x510002_4 x510003_4 (t510 == 1) x520001_2 x520002_3)=some (r1,r2,r3,r4):=yrw hy575 H
            have Ny575:=zm hy575;clear hy575
            have H' := zm H
            clear H
            go_wp2_with (first|((with_reducible refine gate_callee (f:=32) rfl ?_);refine ygl 106 Try.func32 #[.int .i64 x102_4] ?_;(with_reducible refine (band_Width.calls x102_4 t545 _ A73.out).mono ?_);rintro e w113 ⟨rfl,hb⟩;refine ⟨_,rfl, ?_⟩;replace HO_18:=ySb HO_18 hb;replace HO_21:=ySb HO_21 hb;replace HO_510002:=yVb HO_510002 hb;replace HO_520001:=ySb HO_520001 hb;replace HO_520002:=yRb HO_520002 hb;replace BK501:=ybb BK501 hb;replace BK509:=ybb BK509 hb;replace BK519:=ybb BK519 hb;replace HB:=ybs hb;(try clear hb))|((with_reducible refine gate_dst (N:=107) rfl ?_);refine Kd.R_make (Kd.int .i64) _ 3 rfl (N:=107) rfl 49 _ _ rfl t545 rfl rfl Try.underlying49 (.int .i64 0) 8 info3 rfl (by decide) (by omega) 0 (ok:=fun _=>True) (okp:=fun _=>True) rfl (fun _ hk=>hk) trivial (yt) (Nat.le_trans (Nat.mul_le_mul_right _ (yt : t545.toNat≤35184372088832)) (by omega)) (Below.refl _ _) (Nat.le_refl _) ?_;intro v547 w114 ho115 hb hg_ hnew_;clear hg_ hnew_;(first|rw [← Ny546.out] at ho115|(simp only [Int.reduceToNat] at ho115;rw [← Ny546.out] at ho115));replace HO_18:=zm (Kd.S_elder' (yr HO_18) (Kd.R_base ho115) hb);replace HO_21:=zm (Kd.S_elder' (yr HO_21) (Kd.R_base ho115) hb);replace HO_510002:=zm (Kd.V_elder' (yr HO_510002) (Kd.R_base ho115) hb);replace HO_520001:=zm (Kd.S_elder' (yr HO_520001) (Kd.R_base ho115) hb);replace HO_520002:=zm (Kd.R_elder' (yr HO_520002) (Kd.R_base ho115) hb);have HO548:=zm (Kd.R_lower ho115 (zE yhb));replace BK501:=ybb BK501 hb;replace BK509:=ybb BK509 hb;replace BK519:=ybb BK519 hb;replace HB:=ybs hb;clear hb ho115;obtain ⟨Ao116,co116,eo116⟩:=Kd.S_slice HO_18.out;subst eo116;have p549 : 0≤(x99_3 : Int):=yt;have q549 : x99_3 < (t538.length : Int):=yt;obtain ⟨ad549,A549_0,c549_0,e549,hx549_0,hl549_0,hi549_0⟩:=at_L1 (Kd.S_reads' HO_18.out).2.2 x99_3 p549 q549;cases e549;obtain ⟨ce549,hce549,hMe549,hcc549⟩:=Kd.S_get HO_18.out [] x99_3 p549 (by first|exact q549|exact yt|(have e_:=(Kd.S_reads' HO_18.out).1;omega));obtain ⟨ve549_0,rfl,ge549_0⟩:=hMe549;have hv549_0:=hcc549 0 _ rfl;rw [Nat.add_zero,show ((Kd.slice 3 (Kd.int .i64))).sz=1 from rfl,Nat.mul_one] at hv549_0;replace hv549_0:=Option.some.inj (hv549_0.symm.trans hx549_0);rw [hv549_0] at ge549_0;have HL549_0:=zm (show Kd.R (Kd.int .i64) 3 _ _ _ _ (rd_L1 t538 x99_3) from ge549_0);clear hv549_0 ge549_0;clear hcc549 hce549;have HR549_0:=zm hi549_0;have HC549_0:=zm hl549_0;clear hi549_0 hl549_0;replace p549:=eq_true p549;replace q549:=eq_true q549;obtain ⟨ad550,e550,hx550_0,p550,q550⟩:=yai HR549_0 x102_4;cases e550;obtain ⟨Ao118,co118,eo118⟩:=Kd.R_slice HO548.out;subst eo118)|((with_reducible refine gate_builtin (b:=.append) (xs := #[.tmp 151, .tmp 153]) rfl ?_);at_builtin;refine Kd.S_append (Kd.slice 3 (Kd.int .i64)) (w0:=w) w.heap.size rfl (.tmp 151) (.tmp 153) 22 49 (.slice none 0 0) 24 rfl Try.underlying22 info49 rfl (by decide) (by omega) u21 x21_4 y546 [.slice Ao118 y546.length co118] (fun k_=>some k_≠(.slice (some ad549) t538.length co116 : Value).ownBlock∧some k_≠(.slice Ao69 x520001_2.length co69 : Value).ownBlock) (fun k_=>some k_=(.slice Ao118 y546.length co118 : Value).ownBlock) rfl rfl ?aP (fun k_ hk_=>((zG (ok' := fun k_=>((fun k_=>some k_≠(.slice (some ad549) t538.length co116 : Value).ownBlock∧some k_≠(.slice Ao69 x520001_2.length co69 : Value).ownBlock)) k_∧some k_≠(u21 : Value).ownBlock) (Kd.R_apart' (Kd.R_apart' (Kd.R_apart' (HO548.out) (Kd.S_typed HO_18.out) (by decide)) (Kd.S_typed HO_520001.out) (by decide)) (Kd.S_typed HO_21.out) (by decide)) (fun k_ hk=>⟨⟨hk.1.1.2,hk.1.2⟩,hk.2⟩))).1 k_ hk_.symm) ?aF ?aO ?aB ?aS ?aL ?_;(case aP=>exact Kd.M_row (zG (Kd.R_tight rfl (zG (ok' := fun k_=>((fun k_=>some k_≠(.slice (some ad549) t538.length co116 : Value).ownBlock∧some k_≠(.slice Ao69 x520001_2.length co69 : Value).ownBlock)) k_∧some k_≠(u21 : Value).ownBlock) (Kd.R_apart' (Kd.R_apart' (Kd.R_apart' (HO548.out) (Kd.S_typed HO_18.out) (by decide)) (Kd.S_typed HO_520001.out) (by decide)) (Kd.S_typed HO_21.out) (by decide)) (fun k_ hk=>⟨⟨hk.1.1.2,hk.1.2⟩,hk.2⟩))) (fun _ h_=>h_)));(case aB=>exact yhb);(case aF=>exact (fun k_ hk=>⟨Kd.fresh' (Kd.S_lt (yr HO_18)) k_ hk,Kd.fresh' (Kd.S_lt (yr HO_520001)) k_ hk⟩));(case aO=>exact (yS0 HO_21));(case aS=>exact (zE yhb));(case aL=>have:=LMc112.out;omega);intro v576 w117 ho hb hg hat;rw [← Ny575.out] at ho;replace HO_18:=zm (Kd.S_after (ok:=(fun k_=>some k_≠(.slice Ao69 x520001_2.length co69 : Value).ownBlock∧some k_≠(.slice Ao118 y546.length co118 : Value).ownBlock)) (yS0 HO_18) hg hat);replace HO_510002:=zm (Kd.V_afterv (ok:=(fun k_=>some k_≠(.slice (some ad549) t538.length co116 : Value).ownBlock∧some k_≠(.slice Ao69 x520001_2.length co69 : Value).ownBlock∧some k_≠(u520002 : Value).ownBlock∧some k_≠(.slice Ao118 y546.length co118 : Value).ownBlock∧k_≠gb501∧k_≠gb509∧k_≠gb519)) (yV0 HO_510002) hg hat);replace HO_520001:=zm (Kd.S_after (ok:=(fun k_=>some k_≠(.slice (some ad549) t538.length co116 : Value).ownBlock∧some k_≠(.slice Ao118 y546.length co118 : Value).ownBlock)) (yS0 HO_520001) hg hat);replace HO_520002:=zm (Kd.R_after (ok:=(fun k_=>some k_≠(.slice (some ad549) t538.length co116 : Value).ownBlock∧some k_≠(.slice Ao69 x520001_2.length co69 : Value).ownBlock∧some k_≠(.slice Ao118 y546.length co118 : Value).ownBlock)) (yR0 HO_520002) hg hat);replace BK501:=zm (blk_grown (yk BK501) hg (Kd.S_ne HO_21.out BK501.out (by decide)));replace BK509:=zm (blk_grown (yk BK509) hg (Kd.S_ne HO_21.out BK509.out (by decide)));replace BK519:=zm (blk_grown (yk BK519) hg (Kd.S_ne HO_21.out BK519.out (by decide)));replace HL549_0:=zm (Kd.R_after (ok:=(fun k_=>some k_≠(.slice (some ad549) t538.length co116 : Value).ownBlock∧some k_≠(.slice Ao69 x520001_2.length co69 : Value).ownBlock∧some k_≠(.slice Ao118 y546.length co118 : Value).ownBlock)) (yR0 HL549_0) hg hat);replace HB:=zm (hb);have HO577:=zm (ho);clear HO_21;clear HO548;clear ho hb hg hat))
            go_roundg k4
            case measure=>exact yom4 HJ10 HK2 HK3 HK4
            case rel=>exact ⟨(y575),(wrap64 (x102_4+1)),(x510000_4),(x510001_4),(x510002_4),(x510003_4),(u510002),yq,H',⟨yom4 HJ10 HK2 HK3 HK4⟩,⟨yS0 HO_18⟩,⟨yr HO577⟩,⟨yV0 HO_510002⟩,⟨yS0 HO_520001⟩,⟨yR0 HO_520002⟩,⟨yk BK501⟩,⟨yk BK509⟩,⟨yk BK519⟩,⟨yhb⟩⟩
          ·
           rw [if_neg c72] at H
           have c72b0 : decide (x102_4 < 5)=false:=decide_eq_false c72
           clear c72
           obtain ⟨c119,H⟩:=yif H
           have LMc119:=zm c119;clear c119
           obtain ⟨y542,hy542⟩ : ∃ y_ : List (List (List Int)),y_=(x520002_3 ++ [x21_4]):=⟨_,rfl⟩
           replace H : (cpack_Read.l1 k4 t538 a1 (wrap64 (x99_3+1)) x510000_4 x510001_4 x510002_4 x510003_4 (t510 == 1) x520001_2 y542)=some (r1,r2,r3,r4):=yrw hy542 H
           have Ny542:=zm hy542;clear hy542
           have H' := zm H
           clear H
           have:=NB519_501.out
           have:=NB501_519.out
           have:=NB519_509.out
           have:=NB509_519.out
           obtain ⟨_,_,_,_,_,_⟩:=yc3 BK519
           obtain ⟨Ao124,co124,eo124⟩:=Kd.S_slice HO_21.out
           subst eo124
           go_wp2_with (first|((with_reducible refine gate_builtin (b:=.append) (xs := #[.tmp 157, .tmp 159]) rfl ?_);at_builtin;refine Kd.R_append (Kd.slice 49 (Kd.slice 3 (Kd.int .i64))) (w0:=w) w.heap.size rfl (.tmp 157) (.tmp 159) 23 22 (.slice none 0 0) 24 rfl Try.underlying23 info22 rfl (by decide) (by omega) u520002 x520002_3 x21_4 [.slice Ao124 x21_4.length co124] (fun k_=>some k_≠(v540 : Value).ownBlock∧some k_≠(.slice Ao69 x520001_2.length co69 : Value).ownBlock) (fun k_=>((fun k_=>some k_≠(v540 : Value).ownBlock∧some k_≠(.slice Ao69 x520001_2.length co69 : Value).ownBlock)) k_∧some k_≠(u520002 : Value).ownBlock) rfl rfl ?aP (fun _ hk=>hk) ?aF ?aO ?aB ?aS ?aL ?_;(case aP=>exact Kd.M_row (zG (Kd.R_apart' ((Kd.S_R HO_21.out)) (Kd.R_typed HO_520002.out) (by decide)) (fun k_ hk=>⟨⟨hk.1.1,hk.1.2⟩,hk.2⟩)));(case aB=>exact yhb);(case aF=>exact (fun k_ hk=>⟨Kd.fresh' (Kd.S_lt (yr HO_18)) k_ hk,Kd.fresh' (Kd.S_lt (yr HO_520001)) k_ hk⟩));(case aO=>exact (yR0 HO_520002));(case aS=>exact (zE yhb));(case aL=>have:=LMc119.out;omega);intro v543 w123 ho hb hg hat;rw [← Ny542.out] at ho;replace HO_18:=zm (Kd.S_over' (yr HO_18) (Kd.R_typed (yr HO_520002)) (by decide) hg);replace HO_510002:=zm (Kd.V_afterv (ok:=(fun k_=>some k_≠(v540 : Value).ownBlock∧some k_≠(.slice Ao124 x21_4.length co124 : Value).ownBlock∧some k_≠(.slice Ao69 x520001_2.length co69 : Value).ownBlock∧k_≠gb501∧k_≠gb509∧k_≠gb519)) (yV0 HO_510002) hg hat);replace HO_520001:=zm (Kd.S_over' (yr HO_520001) (Kd.R_typed (yr HO_520002)) (by decide) hg);replace BK501:=zm (blk_grown (yk BK501) hg (zu HO_520002.out BK501.out (by decide)));replace BK509:=zm (blk_grown (yk BK509) hg (zu HO_520002.out BK509.out (by decide)));replace BK519:=zm (blk_grown (yk BK519) hg (zu HO_520002.out BK519.out (by decide)));replace HB:=zm (hb);have HO544:=zm (ho);clear HO_520002;clear HO_21;clear ho hb hg hat;obtain ⟨Ao125,co125,eo125⟩:=Kd.R_slice HO544.out;subst eo125;obtain ⟨_,_,_,_,_,_⟩:=yc3 BK519))
           go_roundg k4
           case measure=>exact yom4 HJ10 HK2 HK3 HK4
           case rel=>exact ⟨(wrap64 (x99_3+1)),(x510000_4),(x510001_4),(x510002_4),(x510003_4),(y542),(u510002),(.slice Ao125 y542.length co125),yq,H',⟨yom4 HJ10 HK2 HK3 HK4⟩,⟨yS1 HO_18 BK519⟩,⟨yV0 HO_510002⟩,⟨yS1 HO_520001 BK519⟩,⟨yR1 HO544 BK519⟩,⟨yk BK501⟩,⟨yk BK509⟩,⟨ykp BK519⟩,⟨yhb⟩⟩
        ·
         rw [if_neg c71] at H
         have c71b0 : decide (x99_3 < a1)=false:=decide_eq_false c71
         clear c71
         simp only [Option.some.injEq,Prod.mk.injEq] at H
         obtain ⟨rfl,rfl,rfl,rfl⟩:=H
         have:=NB519_501.out
         have:=NB501_519.out
         have:=NB519_509.out
         have:=NB509_519.out
         obtain ⟨_,_,_,_,_,_⟩:=yc3 BK519
         have:=NB501_509.out
         have:=NB509_501.out
         obtain ⟨_,_,_,_,_,_⟩:=yc3 BK501
         obtain ⟨Ao132,co132,eo132⟩:=Kd.R_slice HO_520002.out
         subst eo132
         go_wp2
         refine bodyPost_ret (results_ct rfl _ _ gb501 25 #[.bool (t510 == 1), .slice Ao69 x520001_2.length co69, .slice Ao132 x520002_3.length co132] (0,0) _ rfl (ykp BK501) Try.underlying25 rfl (by kernel_rfl)) rfl ?_
         exact ⟨_,_,ye,yS1 HO_520001 BK501,yR1 HO_520002 BK501,yhb⟩
  ·
   rw [if_neg c7] at H
   have c7b0 : ((l2.length : Int) == a0)=false:=beq_eq_false_iff_ne.mpr c7
   have c7b1 : ((l2.length : Int) != a0)=true:=bne_iff_ne.mpr c7
   simp only [Option.some.injEq,Prod.mk.injEq] at H
   obtain ⟨rfl,rfl,rfl,rfl⟩:=H
   go_enter Try.func20,Try.ntmps20
   go_wp2_with (first|((with_reducible refine gate_dst (N:=8) rfl ?_);refine ybx 8 #[.bool false, .slice none 0 0, .slice none 0 0] 25 ?_;intro gb501 hg w133 hbox hb;have BK501:=zm (hbox);have GW501:=ygw hg;have GE501:=ygw hg;replace HB:=ybs hb;clear hb hbox hg)|((with_reducible refine gate_callee (f:=48) rfl ?_);refine ygl 31 Try.func48 #[.int .i64 a0, .int .i64 a1] ?_;(with_reducible refine (alloc_Right.calls a0 a1 true _ A5.out).mono ?_);rintro e w' ⟨rfl,⟨nd,rfl⟩⟩;refine ⟨_,rfl, ?_⟩;(try (rw [drewN_self w133];generalize hq_ : World.drewN w133 _=w133;have n0_ : Aside0 (w133.heap[gb501]? = some (.cells #[.bool false, .slice none 0 0, .slice none 0 0] 25 (0,0))):=⟨by rw [← hq_];exact (yk BK501)⟩;have n1_ : Aside0 (Below w.heap.size w w133):=⟨by rw [← hq_];exact yhb⟩;clear BK501 HB hq_;have BK501:=n0_;have HB:=n1_;clear n0_ n1_));obtain ⟨_,_,_,_,_,_⟩:=yc3 BK501))
   refine bodyPost_ret (results_ct rfl _ _ gb501 25 #[.bool false, .slice none 0 0, .slice none 0 0] (0,0) _ rfl (ykp BK501) Try.underlying25 rfl (by kernel_rfl)) rfl ?_
   exact ⟨_,_,ye,yn,yn,yhb⟩
 ·
  replace c6:=Bool.eq_false_iff.mpr c6
  subst c6
  rw [ynf] at H
  simp only [Option.some.injEq,Prod.mk.injEq] at H
  obtain ⟨rfl,rfl,rfl,rfl⟩:=H
  go_enter Try.func20,Try.ntmps20
  go_wp2_with (first|((with_reducible refine gate_dst (N:=8) rfl ?_);refine ybx 8 #[.bool false, .slice none 0 0, .slice none 0 0] 25 ?_;intro gb501 hg w135 hbox hb;have BK501:=zm (hbox);have GW501:=ygw hg;have GE501:=ygw hg;replace HB:=ybs hb;clear hb hbox hg)|((with_reducible refine gate_callee (f:=48) rfl ?_);refine ygl 31 Try.func48 #[.int .i64 a0, .int .i64 a1] ?_;(with_reducible refine (alloc_Right.calls a0 a1 false _ A5.out).mono ?_);rintro e w' ⟨rfl,⟨nd,rfl⟩⟩;refine ⟨_,rfl, ?_⟩;(try (rw [drewN_self w135];generalize hq_ : World.drewN w135 _=w135;have n0_ : Aside0 (w135.heap[gb501]? = some (.cells #[.bool false, .slice none 0 0, .slice none 0 0] 25 (0,0))):=⟨by rw [← hq_];exact (yk BK501)⟩;have n1_ : Aside0 (Below w.heap.size w w135):=⟨by rw [← hq_];exact yhb⟩;clear BK501 HB hq_;have BK501:=n0_;have HB:=n1_;clear n0_ n1_));obtain ⟨_,_,_,_,_,_⟩:=yc3 BK501))
  refine bodyPost_ret (results_ct rfl _ _ gb501 25 #[.bool false, .slice none 0 0, .slice none 0 0] (0,0) _ rfl (ykp BK501) Try.underlying25 rfl (by kernel_rfl)) rfl ?_
  exact ⟨_,_,ye,yn,yn,yhb⟩
def psalteryref06_Same.l0 : Nat→List Int→List Int→Int→Option (Bool)
 | 0,_,_,_=>none
 | k+1,x0,x1,x5=>if x5 < (x0.length : Int) then (if 0≤x5 then (if x5 < (x1.length : Int) then (if (rd x0 x5)=(rd x1 x5) then (psalteryref06_Same.l0 k x0 x1 (wrap64 (x5+1))) else (some false)) else (none)) else (none)) else (some true)
def psalteryref06_Same.f (k : Nat) (l0 : List Int) (l1 : List Int) : Option (Bool):=if (l0.length : Int)=(l1.length : Int) then (psalteryref06_Same.l0 k l0 l1 0) else (some false)
theorem psalteryref06_Same.mono_l : ∀ k,(∀ y0 y1 y2,LeO (psalteryref06_Same.l0 k y0 y1 y2) (psalteryref06_Same.l0 (k+1) y0 y1 y2))
 | 0=>fun _ _ _ r h=>by simp [psalteryref06_Same.l0] at h
 | k+1=>by
  have ih0:=psalteryref06_Same.mono_l k
  ·
   intro y0 y1 y2
   unfold psalteryref06_Same.l0
   repeat' with_reducible first|apply ih0|apply yLr|apply yLn|apply yLi|apply yLb|intro _
theorem psalteryref06_Same.mono : ∀ a0 a1 k,LeO (psalteryref06_Same.f k a0 a1) (psalteryref06_Same.f (k+1) a0 a1):=by
 intro a0 a1 k
 have ih0:=psalteryref06_Same.mono_l k
 unfold psalteryref06_Same.f
 repeat' with_reducible first|apply ih0|apply yLr|apply yLn|apply yLi|apply yLb|intro _
set_option maxHeartbeats 8000000 in
set_option maxRecDepth 100000 in
theorem psalteryref06_Same.calls (k : Nat) (A0 : Option Addr) (c0 : Nat) (l0 : List Int) (A1 : Option Addr) (c1 : Nat) (l1 : List Int) (r : Bool) (w : World) (hr0 : Kd.C (Kd.int .i64) w A0 l0.length l0) (hc0 : l0.length≤c0) (hr1 : Kd.C (Kd.int .i64) w A1 l1.length l1) (hc1 : l1.length≤c1) (h : psalteryref06_Same.f k l0 l1=some r) :
  Calls Try.prog 61 #[.slice A0 l0.length c0, .slice A1 l1.length c1] w fun e w' => e=.returned (.bool r)∧Drawn0 w w' := by
 have HR0:=zm hr0;have HC0:=zm hc0;clear hr0 hc0;have HR1:=zm hr1;have HC1:=zm hc1;clear hr1 hc1
 have H : (if (l0.length : Int)=(l1.length : Int) then (psalteryref06_Same.l0 k l0 l1 0) else (some false))=some r:=h
 clear h
 by_cases c3 : (l0.length : Int)=(l1.length : Int)
 ·
  rw [if_pos c3] at H
  have c3b0 : ((l0.length : Int) == (l1.length : Int))=true:=beq_iff_eq.mpr c3
  have c3b1 : ((l0.length : Int) != (l1.length : Int))=false:=bne_eq_false_iff_eq.mpr c3
  have c3b2 : (l0.length == l1.length)=true:=by first|simpa using c3|(simp at c3 ⊢; omega)
  clear c3
  have H' := zm H
  clear H
  go_enter Try.func61,Try.ntmps61
  go_wp2
  repeat (go_quiet (fail);try go_wp2)
  go_loopg [5] k (fun kq v5 w' => ∃ (x5_1 : Int),v5=.int .i64 x5_1∧Aside0 (psalteryref06_Same.l0 kq l0 l1 x5_1=some r)∧Aside0 (kq≤k)∧Drawn0 w w')
  case atStart=>exact ⟨(0),yq,H',⟨Nat.le_refl _⟩,yd⟩
  case round =>
   clear H'
   try clear c1
   try clear c3b0
   try clear c3b1
   try clear c3b2
   obtain ⟨x5_1,rfl,HA,HK1,⟨m1,rfl⟩⟩:=hrel
   obtain ⟨k1,rfl⟩:=ysu gk (fun h=>by subst h;exact absurd HA.out (by simp [psalteryref06_Same.l0]))
   have H:=HA.out;clear HA
   simp only [psalteryref06_Same.l0] at H
   by_cases c4 : x5_1 < (l0.length : Int)
   ·
    rw [if_pos c4] at H
    have c4b0 : decide (x5_1 < (l0.length : Int))=true:=decide_eq_true c4
    clear c4
    obtain ⟨c5,H⟩:=yif H
    have c5b0 : decide (0≤x5_1)=true:=decide_eq_true c5
    clear c5
    obtain ⟨c6,H⟩:=yif H
    have c6b0 : decide (x5_1 < (l1.length : Int))=true:=decide_eq_true c6
    clear c6
    by_cases c7 : (rd l0 x5_1)=(rd l1 x5_1)
    ·
     rw [if_pos c7] at H
     have c7b0 : ((rd l0 x5_1) == (rd l1 x5_1))=true:=beq_iff_eq.mpr c7
     have c7b1 : ((rd l0 x5_1) != (rd l1 x5_1))=false:=bne_eq_false_iff_eq.mpr c7
     clear c7
     have H' := zm H
     clear H
     obtain ⟨ad578,e578,hx578_0,p578,q578⟩:=yai HR0 x5_1
     cases e578
     obtain ⟨ad579,e579,hx579_0,p579,q579⟩:=yai HR1 x5_1
     cases e579
     go_wp2
     repeat (go_quiet (fail);try go_wp2)
     go_roundg k1
     case measure=>exact yom1 HK1
     case rel=>exact ⟨(wrap64 (x5_1+1)),yq,H',⟨yom1 HK1⟩,yd⟩
    ·
     rw [if_neg c7] at H
     have c7b0 : ((rd l0 x5_1) == (rd l1 x5_1))=false:=beq_eq_false_iff_ne.mpr c7
     have c7b1 : ((rd l0 x5_1) != (rd l1 x5_1))=true:=bne_iff_ne.mpr c7
     obtain rfl:=Option.some.inj H
     obtain ⟨ad578,e578,hx578_0,p578,q578⟩:=yai HR0 x5_1
     cases e578
     obtain ⟨ad579,e579,hx579_0,p579,q579⟩:=yai HR1 x5_1
     cases e579
     go_wp2
     repeat (go_quiet (fail);try go_wp2)
     go_ret
     exact ⟨yq,yd⟩
   ·
    rw [if_neg c4] at H
    have c4b0 : decide (x5_1 < (l0.length : Int))=false:=decide_eq_false c4
    clear c4
    obtain rfl:=Option.some.inj H
    go_wp2
    repeat (go_quiet (fail);try go_wp2)
    go_ret
    exact ⟨yq,yd⟩
 ·
  rw [if_neg c3] at H
  have c3b0 : ((l0.length : Int) == (l1.length : Int))=false:=beq_eq_false_iff_ne.mpr c3
  have c3b1 : ((l0.length : Int) != (l1.length : Int))=true:=bne_iff_ne.mpr c3
  have c3b2 : (l0.length == l1.length)=false:=by first|simpa using c3|(simp at c3 ⊢; omega)
  obtain rfl:=Option.some.inj H
  go_enter Try.func61,Try.ntmps61
  go_wp2
  repeat (go_quiet (fail);try go_wp2)
  go_ret
  exact ⟨yq,yd⟩
def psalteryref12_Same.l0 : Nat→List (List Int)→List (List Int)→Int→Option (Bool)
 | 0,_,_,_=>none
 | k+1,x0,x1,x5=>if x5 < (x0.length : Int) then (if 0≤x5 then (if x5 < (x1.length : Int) then ((psalteryref06_Same.f k (rd_L1 x0 x5) (rd_L1 x1 x5)).bind fun t582=>(if t582=true then (psalteryref12_Same.l0 k x0 x1 (wrap64 (x5+1))) else (some false))) else (none)) else (none)) else (some true)
def psalteryref12_Same.f (k : Nat) (l0 : List (List Int)) (l1 : List (List Int)) : Option (Bool):=if (l0.length : Int)=(l1.length : Int) then (psalteryref12_Same.l0 k l0 l1 0) else (some false)
theorem psalteryref12_Same.mono_l : ∀ k,(∀ y0 y1 y2,LeO (psalteryref12_Same.l0 k y0 y1 y2) (psalteryref12_Same.l0 (k+1) y0 y1 y2))
 | 0=>fun _ _ _ r h=>by simp [psalteryref12_Same.l0] at h
 | k+1=>by
  have ih0:=psalteryref12_Same.mono_l k
  ·
   intro y0 y1 y2
   unfold psalteryref12_Same.l0
   repeat' with_reducible first|apply ih0|apply psalteryref06_Same.mono|apply yLr|apply yLn|apply yLi|apply yLb|intro _
theorem psalteryref12_Same.mono : ∀ a0 a1 k,LeO (psalteryref12_Same.f k a0 a1) (psalteryref12_Same.f (k+1) a0 a1):=by
 intro a0 a1 k
 have ih0:=psalteryref12_Same.mono_l k
 unfold psalteryref12_Same.f
 repeat' with_reducible first|apply ih0|apply psalteryref06_Same.mono|apply yLr|apply yLn|apply yLi|apply yLb|intro _
set_option maxHeartbeats 8000000 in
set_option maxRecDepth 100000 in
theorem psalteryref12_Same.calls (k : Nat) (A0 : Option Addr) (c0 : Nat) (l0 : List (List Int)) (A1 : Option Addr) (c1 : Nat) (l1 : List (List Int)) (r : Bool) (w : World) (hr0 : Kd.C (Kd.slice 3 (Kd.int .i64)) w A0 l0.length l0) (hc0 : l0.length≤c0) (hr1 : Kd.C (Kd.slice 3 (Kd.int .i64)) w A1 l1.length l1) (hc1 : l1.length≤c1) (h : psalteryref12_Same.f k l0 l1=some r) :
  Calls Try.prog 24 #[.slice A0 l0.length c0, .slice A1 l1.length c1] w fun e w' => e=.returned (.bool r)∧Drawn0 w w' := by
 have HR0:=zm hr0;have HC0:=zm hc0;clear hr0 hc0;have HR1:=zm hr1;have HC1:=zm hc1;clear hr1 hc1
 have H : (if (l0.length : Int)=(l1.length : Int) then (psalteryref12_Same.l0 k l0 l1 0) else (some false))=some r:=h
 clear h
 by_cases c3 : (l0.length : Int)=(l1.length : Int)
 ·
  rw [if_pos c3] at H
  have c3b0 : ((l0.length : Int) == (l1.length : Int))=true:=beq_iff_eq.mpr c3
  have c3b1 : ((l0.length : Int) != (l1.length : Int))=false:=bne_eq_false_iff_eq.mpr c3
  have c3b2 : (l0.length == l1.length)=true:=by first|simpa using c3|(simp at c3 ⊢; omega)
  clear c3
  have H' := zm H
  clear H
  go_enter Try.func24,Try.ntmps24
  go_wp2
  repeat (go_quiet (fail);try go_wp2)
  go_loopg [5] k (fun kq v5 w' => ∃ (x5_1 : Int),v5=.int .i64 x5_1∧Aside0 (psalteryref12_Same.l0 kq l0 l1 x5_1=some r)∧Aside0 (kq≤k)∧Drawn0 w w')
  case atStart=>exact ⟨(0),yq,H',⟨Nat.le_refl _⟩,yd⟩
  case round =>
   clear H'
   try clear c1
   try clear c3b0
   try clear c3b1
   try clear c3b2
   obtain ⟨x5_1,rfl,HA,HK1,⟨m1,rfl⟩⟩:=hrel
   obtain ⟨k1,rfl⟩:=ysu gk (fun h=>by subst h;exact absurd HA.out (by simp [psalteryref12_Same.l0]))
   have H:=HA.out;clear HA
   simp only [psalteryref12_Same.l0] at H
   by_cases c4 : x5_1 < (l0.length : Int)
   ·
    rw [if_pos c4] at H
    have c4b0 : decide (x5_1 < (l0.length : Int))=true:=decide_eq_true c4
    clear c4
    obtain ⟨c5,H⟩:=yif H
    have c5b0 : decide (0≤x5_1)=true:=decide_eq_true c5
    clear c5
    obtain ⟨c6,H⟩:=yif H
    have c6b0 : decide (x5_1 < (l1.length : Int))=true:=decide_eq_true c6
    clear c6
    obtain ⟨t582,A7,H⟩:=ybi H
    by_cases c8 : t582=true
    ·
     subst c8
     rw [if_pos rfl] at H
     have H' := zm H
     clear H
     have p580 : 0≤(x5_1 : Int):=yt
     have q580 : x5_1 < (l0.length : Int):=yt
     obtain ⟨ad580,A580_0,c580_0,e580,hx580_0,hl580_0,hi580_0⟩:=at_L1 HR0.out x5_1 p580 q580
     cases e580
     have HR580_0:=zm hi580_0;have HC580_0:=zm hl580_0;clear hi580_0 hl580_0
     replace p580:=eq_true p580
     replace q580:=eq_true q580
     have p581 : 0≤(x5_1 : Int):=yt
     have q581 : x5_1 < (l1.length : Int):=yt
     obtain ⟨ad581,A581_0,c581_0,e581,hx581_0,hl581_0,hi581_0⟩:=at_L1 HR1.out x5_1 p581 q581
     cases e581
     have HR581_0:=zm hi581_0;have HC581_0:=zm hl581_0;clear hi581_0 hl581_0
     replace p581:=eq_true p581
     replace q581:=eq_true q581
     go_wp2_with (first|(go_at_call 61;(with_reducible refine (psalteryref06_Same.calls k1 _ _ (rd_L1 l0 x5_1) _ _ (rd_L1 l1 x5_1) true _ ?side1 HC580_0.out ?side3 HC581_0.out A7.out).mono ?_);(case side1=>exact yce HR580_0.out);(case side3=>exact yce HR581_0.out);rintro e w' ⟨rfl,⟨nd,rfl⟩⟩;(try exact yww)))
     repeat (go_quiet (first|(go_at_call 61;(with_reducible refine (psalteryref06_Same.calls k1 _ _ (rd_L1 l0 x5_1) _ _ (rd_L1 l1 x5_1) true _ ?side1 HC580_0.out ?side3 HC581_0.out A7.out).mono ?_);(case side1=>exact yce HR580_0.out);(case side3=>exact yce HR581_0.out);rintro e w' ⟨rfl,⟨nd,rfl⟩⟩;(try exact yww)));try go_wp2_with (first|(go_at_call 61;(with_reducible refine (psalteryref06_Same.calls k1 _ _ (rd_L1 l0 x5_1) _ _ (rd_L1 l1 x5_1) true _ ?side1 HC580_0.out ?side3 HC581_0.out A7.out).mono ?_);(case side1=>exact yce HR580_0.out);(case side3=>exact yce HR581_0.out);rintro e w' ⟨rfl,⟨nd,rfl⟩⟩;(try exact yww))))
     go_roundg k1
     case measure=>exact yom1 HK1
     case rel=>exact ⟨(wrap64 (x5_1+1)),yq,H',⟨yom1 HK1⟩,yd⟩
    ·
     replace c8:=Bool.eq_false_iff.mpr c8
     subst c8
     rw [ynf] at H
     obtain rfl:=Option.some.inj H
     have p580 : 0≤(x5_1 : Int):=yt
     have q580 : x5_1 < (l0.length : Int):=yt
     obtain ⟨ad580,A580_0,c580_0,e580,hx580_0,hl580_0,hi580_0⟩:=at_L1 HR0.out x5_1 p580 q580
     cases e580
     have HR580_0:=zm hi580_0;have HC580_0:=zm hl580_0;clear hi580_0 hl580_0
     replace p580:=eq_true p580
     replace q580:=eq_true q580
     have p581 : 0≤(x5_1 : Int):=yt
     have q581 : x5_1 < (l1.length : Int):=yt
     obtain ⟨ad581,A581_0,c581_0,e581,hx581_0,hl581_0,hi581_0⟩:=at_L1 HR1.out x5_1 p581 q581
     cases e581
     have HR581_0:=zm hi581_0;have HC581_0:=zm hl581_0;clear hi581_0 hl581_0
     replace p581:=eq_true p581
     replace q581:=eq_true q581
     go_wp2_with (first|(go_at_call 61;(with_reducible refine (psalteryref06_Same.calls k1 _ _ (rd_L1 l0 x5_1) _ _ (rd_L1 l1 x5_1) false _ ?side1 HC580_0.out ?side3 HC581_0.out A7.out).mono ?_);(case side1=>exact yce HR580_0.out);(case side3=>exact yce HR581_0.out);rintro e w' ⟨rfl,⟨nd,rfl⟩⟩;(try exact yww)))
     repeat (go_quiet (first|(go_at_call 61;(with_reducible refine (psalteryref06_Same.calls k1 _ _ (rd_L1 l0 x5_1) _ _ (rd_L1 l1 x5_1) false _ ?side1 HC580_0.out ?side3 HC581_0.out A7.out).mono ?_);(case side1=>exact yce HR580_0.out);(case side3=>exact yce HR581_0.out);rintro e w' ⟨rfl,⟨nd,rfl⟩⟩;(try exact yww)));try go_wp2_with (first|(go_at_call 61;(with_reducible refine (psalteryref06_Same.calls k1 _ _ (rd_L1 l0 x5_1) _ _ (rd_L1 l1 x5_1) false _ ?side1 HC580_0.out ?side3 HC581_0.out A7.out).mono ?_);(case side1=>exact yce HR580_0.out);(case side3=>exact yce HR581_0.out);rintro e w' ⟨rfl,⟨nd,rfl⟩⟩;(try exact yww))))
     go_ret
     exact ⟨yq,yd⟩
   ·
    rw [if_neg c4] at H
    have c4b0 : decide (x5_1 < (l0.length : Int))=false:=decide_eq_false c4
    clear c4
    obtain rfl:=Option.some.inj H
    go_wp2
    repeat (go_quiet (fail);try go_wp2)
    go_ret
    exact ⟨yq,yd⟩
 ·
  rw [if_neg c3] at H
  have c3b0 : ((l0.length : Int) == (l1.length : Int))=false:=beq_eq_false_iff_ne.mpr c3
  have c3b1 : ((l0.length : Int) != (l1.length : Int))=true:=bne_iff_ne.mpr c3
  have c3b2 : (l0.length == l1.length)=false:=by first|simpa using c3|(simp at c3 ⊢; omega)
  obtain rfl:=Option.some.inj H
  go_enter Try.func24,Try.ntmps24
  go_wp2
  repeat (go_quiet (fail);try go_wp2)
  go_ret
  exact ⟨yq,yd⟩
mutual
def psalteryref13_Same.j0 : Nat→Bool→Bool→List (List Int)→List (List (List Int))→Bool→List (List Int)→List (List (List Int))→Option (Bool)
 | 0,_,_,_,_,_,_,_=>none
 | k+1,x27,x584000,x584001,x584002,x585000,x585001,x585002=>if x27=true then (some false) else (psalteryref13_Same.l0 k 0 x584000 x584001 x584002 x585000 x585001 x585002)
def psalteryref13_Same.l0 : Nat→Int→Bool→List (List Int)→List (List (List Int))→Bool→List (List Int)→List (List (List Int))→Option (Bool)
 | 0,_,_,_,_,_,_,_=>none
 | k+1,x5,x584000,x584001,x584002,x585000,x585001,x585002=>if x5 < (x584002.length : Int) then (if 0≤x5 then (if x5 < (x585002.length : Int) then ((psalteryref12_Same.f k (rd_L2 x584002 x5) (rd_L2 x585002 x5)).bind fun t588=>(if t588=true then (psalteryref13_Same.l0 k (wrap64 (x5+1)) x584000 x584001 x584002 x585000 x585001 x585002) else (some false))) else (none)) else (none)) else (some true)
end
def psalteryref13_Same.f (k : Nat) (a0_0 : Bool) (l0_1 : List (List Int)) (l0_2 : List (List (List Int))) (a1_0 : Bool) (l1_1 : List (List Int)) (l1_2 : List (List (List Int))) : Option (Bool):=if (a0_0 != a1_0)=true then (psalteryref13_Same.j0 k true a0_0 l0_1 l0_2 a1_0 l1_1 l1_2) else ((psalteryref12_Same.f k l0_1 l1_1).bind fun t585=>(if t585=true then (psalteryref13_Same.j0 k ((l0_2.length : Int) != (l1_2.length : Int)) a0_0 l0_1 l0_2 a1_0 l1_1 l1_2) else (psalteryref13_Same.j0 k true a0_0 l0_1 l0_2 a1_0 l1_1 l1_2)))
theorem psalteryref13_Same.mono_l : ∀ k,(∀ y0 y1 y2 y3 y4 y5 y6,LeO (psalteryref13_Same.j0 k y0 y1 y2 y3 y4 y5 y6) (psalteryref13_Same.j0 (k+1) y0 y1 y2 y3 y4 y5 y6))∧(∀ y0 y1 y2 y3 y4 y5 y6,LeO (psalteryref13_Same.l0 k y0 y1 y2 y3 y4 y5 y6) (psalteryref13_Same.l0 (k+1) y0 y1 y2 y3 y4 y5 y6))
 | 0=>⟨fun _ _ _ _ _ _ _ r h=>by simp [psalteryref13_Same.j0] at h,fun _ _ _ _ _ _ _ r h=>by simp [psalteryref13_Same.l0] at h⟩
 | k+1=>by
  obtain ⟨ih0,ih1⟩:=psalteryref13_Same.mono_l k
  refine ⟨?_, ?_⟩
  ·
   intro y0 y1 y2 y3 y4 y5 y6
   unfold psalteryref13_Same.j0
   repeat' with_reducible first|apply ih0|apply ih1|apply psalteryref12_Same.mono|apply yLr|apply yLn|apply yLi|apply yLb|intro _
  ·
   intro y0 y1 y2 y3 y4 y5 y6
   unfold psalteryref13_Same.l0
   repeat' with_reducible first|apply ih0|apply ih1|apply psalteryref12_Same.mono|apply yLr|apply yLn|apply yLi|apply yLb|intro _
theorem psalteryref13_Same.mono : ∀ a0 a1 a2 a3 a4 a5 k,LeO (psalteryref13_Same.f k a0 a1 a2 a3 a4 a5) (psalteryref13_Same.f (k+1) a0 a1 a2 a3 a4 a5):=by
 intro a0 a1 a2 a3 a4 a5 k
 obtain ⟨ih0,ih1⟩:=psalteryref13_Same.mono_l k
 unfold psalteryref13_Same.f
 repeat' with_reducible first|apply ih0|apply ih1|apply psalteryref12_Same.mono|apply yLr|apply yLn|apply yLi|apply yLb|intro _
set_option maxHeartbeats 8000000 in
set_option maxRecDepth 100000 in
theorem psalteryref13_Same.calls (k : Nat) (a0_0 : Bool) (A0_1 : Option Addr) (c0_1 : Nat) (l0_1 : List (List Int)) (A0_2 : Option Addr) (c0_2 : Nat) (l0_2 : List (List (List Int))) (a1_0 : Bool) (A1_1 : Option Addr) (c1_1 : Nat) (l1_1 : List (List Int)) (A1_2 : Option Addr) (c1_2 : Nat) (l1_2 : List (List (List Int))) (r : Bool) (w : World) (hr0_1 : Kd.C (Kd.slice 3 (Kd.int .i64)) w A0_1 l0_1.length l0_1) (hc0_1 : l0_1.length≤c0_1) (hr0_2 : Kd.C (Kd.slice 49 (Kd.slice 3 (Kd.int .i64))) w A0_2 l0_2.length l0_2) (hc0_2 : l0_2.length≤c0_2) (hr1_1 : Kd.C (Kd.slice 3 (Kd.int .i64)) w A1_1 l1_1.length l1_1) (hc1_1 : l1_1.length≤c1_1) (hr1_2 : Kd.C (Kd.slice 49 (Kd.slice 3 (Kd.int .i64))) w A1_2 l1_2.length l1_2) (hc1_2 : l1_2.length≤c1_2) (h : psalteryref13_Same.f k a0_0 l0_1 l0_2 a1_0 l1_1 l1_2=some r) :
  Calls Try.prog 22 #[.agg #[.bool a0_0, .slice A0_1 l0_1.length c0_1, .slice A0_2 l0_2.length c0_2], .agg #[.bool a1_0, .slice A1_1 l1_1.length c1_1, .slice A1_2 l1_2.length c1_2]] w fun e w' => e=.returned (.bool r)∧Below w.heap.size w w' := by
 have hu33:=Try.underlying33;have HR0_1:=zm hr0_1;have HC0_1:=zm hc0_1;clear hr0_1 hc0_1;have HR0_2:=zm hr0_2;have HC0_2:=zm hc0_2;clear hr0_2 hc0_2;have HR1_1:=zm hr1_1;have HC1_1:=zm hc1_1;clear hr1_1 hc1_1;have HR1_2:=zm hr1_2;have HC1_2:=zm hc1_2;clear hr1_2 hc1_2;have HB:=zm (Below.refl w.heap.size w)
 have H : (if (a0_0 != a1_0)=true then (psalteryref13_Same.j0 k true a0_0 l0_1 l0_2 a1_0 l1_1 l1_2) else ((psalteryref12_Same.f k l0_1 l1_1).bind fun t585=>(if t585=true then (psalteryref13_Same.j0 k ((l0_2.length : Int) != (l1_2.length : Int)) a0_0 l0_1 l0_2 a1_0 l1_1 l1_2) else (psalteryref13_Same.j0 k true a0_0 l0_1 l0_2 a1_0 l1_1 l1_2))))=some r:=h
 clear h;have HC3:=zm H;clear H
 go_enter Try.func22,Try.ntmps22
 go_upto_region 1 with (first|((with_reducible refine gate_dst (N:=2) rfl ?_);(try (refine gate_guard (by rfl) ?_;dsimp only));refine ybx 2 #[.bool a0_0, .slice A0_1 l0_1.length c0_1, .slice A0_2 l0_2.length c0_2] 33 ?_;intro gb583 hg w4 hbox hb;have BK583:=zm (hbox);have GW583:=ygw hg;have GE583:=ygw hg;replace HB:=ybs hb;clear hb hbox hg)|((with_reducible refine gate_dst (N:=3) rfl ?_);(try (refine gate_guard (by rfl) ?_;dsimp only));refine ybx 3 #[.bool a1_0, .slice A1_1 l1_1.length c1_1, .slice A1_2 l1_2.length c1_2] 33 ?_;intro gb584 hg w5 hbox hb;have BK584:=zm (hbox);have GW584:=ygw hg;have GE584:=ygw hg;replace HB:=ybs hb;have NB583_584:=ynl BK583 hg;have NB584_583:=yng BK583 hg;replace BK583:=ybb BK583 hb;clear hb hbox hg))
 repeat (go_quiet (first|((with_reducible refine gate_dst (N:=2) rfl ?_);(try (refine gate_guard (by rfl) ?_;dsimp only));refine ybx 2 #[.bool a0_0, .slice A0_1 l0_1.length c0_1, .slice A0_2 l0_2.length c0_2] 33 ?_;intro gb583 hg w4 hbox hb;have BK583:=zm (hbox);have GW583:=ygw hg;have GE583:=ygw hg;replace HB:=ybs hb;clear hb hbox hg)|((with_reducible refine gate_dst (N:=3) rfl ?_);(try (refine gate_guard (by rfl) ?_;dsimp only));refine ybx 3 #[.bool a1_0, .slice A1_1 l1_1.length c1_1, .slice A1_2 l1_2.length c1_2] 33 ?_;intro gb584 hg w5 hbox hb;have BK584:=zm (hbox);have GW584:=ygw hg;have GE584:=ygw hg;replace HB:=ybs hb;have NB583_584:=ynl BK583 hg;have NB584_583:=yng BK583 hg;replace BK583:=ybb BK583 hb;clear hb hbox hg));go_upto_region 1 with (first|((with_reducible refine gate_dst (N:=2) rfl ?_);(try (refine gate_guard (by rfl) ?_;dsimp only));refine ybx 2 #[.bool a0_0, .slice A0_1 l0_1.length c0_1, .slice A0_2 l0_2.length c0_2] 33 ?_;intro gb583 hg w4 hbox hb;have BK583:=zm (hbox);have GW583:=ygw hg;have GE583:=ygw hg;replace HB:=ybs hb;clear hb hbox hg)|((with_reducible refine gate_dst (N:=3) rfl ?_);(try (refine gate_guard (by rfl) ?_;dsimp only));refine ybx 3 #[.bool a1_0, .slice A1_1 l1_1.length c1_1, .slice A1_2 l1_2.length c1_2] 33 ?_;intro gb584 hg w5 hbox hb;have BK584:=zm (hbox);have GW584:=ygw hg;have GE584:=ygw hg;replace HB:=ybs hb;have NB583_584:=ynl BK583 hg;have NB584_583:=yng BK583 hg;replace BK583:=ybb BK583 hb;clear hb hbox hg)))
 (try simp only [Act.put,List.setIfInBounds_toArray,List.set_cons_zero,List.set_cons_succ])
 go_cut [27] (fun v27 wc => ∃ (kq : Nat) (x27_2 : Bool),v27=.bool x27_2∧Aside0 (psalteryref13_Same.j0 kq x27_2 a0_0 l0_1 l0_2 a1_0 l1_1 l1_2=some r)∧Aside0 (kq≤k)∧Aside0 (wc.heap[gb583]? = some (.cells #[.bool a0_0,(.slice A0_1 l0_1.length c0_1),(.slice A0_2 l0_2.length c0_2)] 33 (0,0)))∧Aside0 (wc.heap[gb584]? = some (.cells #[.bool a1_0,(.slice A1_1 l1_1.length c1_1),(.slice A1_2 l1_2.length c1_2)] 33 (0,0)))∧Aside0 (Below w.heap.size w wc))
 case first =>
  have H:=HC3.out;clear HC3
  by_cases c6 : (a0_0 != a1_0)=true
  ·
   rw [if_pos c6] at H
   have c6b0 : (a0_0 != a1_0)=true:=c6
   (try (have c6b1 : decide (a0_0=a1_0)=false:=by simpa using c6))
   (try (have c6b2 : (a0_0 == a1_0)=false:=by simpa using c6))
   (try (have c6b3 : ¬ (a0_0=a1_0):=by simpa using c6))
   clear c6
   (first|rw [c6b0]|(simp only [i64_w,i32_w];rw [c6b0])|skip)
   have H' := zm H
   clear H
   have:=NB583_584.out
   have:=NB584_583.out
   obtain ⟨_,_,_,_,_,_⟩:=yc3 BK583
   obtain ⟨_,_,_,_,_,_⟩:=yc3 BK584
   go_wp2
   repeat (go_quiet (fail);try go_wp2)
   go_meet
   case rel=>exact ⟨_,(true),yq,H',⟨yo⟩,⟨yk BK583⟩,⟨yk BK584⟩,⟨yhb⟩⟩
  ·
   rw [if_neg c6] at H
   have c6b0 : (a0_0 != a1_0)=false:=by simpa using c6
   (try (have c6b1 : decide (a0_0=a1_0)=true:=by simpa using c6))
   (try (have c6b2 : (a0_0 == a1_0)=true:=by simpa using c6))
   clear c6
   (first|rw [c6b0]|(simp only [i64_w,i32_w];rw [c6b0])|skip)
   obtain ⟨t585,A10,H⟩:=ybi H
   by_cases c11 : t585=true
   ·
    subst c11
    rw [if_pos rfl] at H
    have H' := zm H
    clear H
    have:=NB583_584.out
    have:=NB584_583.out
    obtain ⟨_,_,_,_,_,_⟩:=yc3 BK583
    obtain ⟨_,_,_,_,_,_⟩:=yc3 BK584
    go_wp2_with (first|(go_at_call 24;(with_reducible refine (psalteryref12_Same.calls k _ _ l0_1 _ _ l1_1 true _ ?side1 HC0_1.out ?side3 HC1_1.out A10.out).mono ?_);(case side1=>exact ycb HR0_1);(case side3=>exact ycb HR1_1);rintro e w' ⟨rfl,⟨nd,rfl⟩⟩;(try exact yww)))
    repeat (go_quiet (first|(go_at_call 24;(with_reducible refine (psalteryref12_Same.calls k _ _ l0_1 _ _ l1_1 true _ ?side1 HC0_1.out ?side3 HC1_1.out A10.out).mono ?_);(case side1=>exact ycb HR0_1);(case side3=>exact ycb HR1_1);rintro e w' ⟨rfl,⟨nd,rfl⟩⟩;(try exact yww)));try go_wp2_with (first|(go_at_call 24;(with_reducible refine (psalteryref12_Same.calls k _ _ l0_1 _ _ l1_1 true _ ?side1 HC0_1.out ?side3 HC1_1.out A10.out).mono ?_);(case side1=>exact ycb HR0_1);(case side3=>exact ycb HR1_1);rintro e w' ⟨rfl,⟨nd,rfl⟩⟩;(try exact yww))))
    go_meet
    case rel=>exact ⟨_,(((l0_2.length : Int) != (l1_2.length : Int))),yq,H',⟨yo⟩,⟨yk BK583⟩,⟨yk BK584⟩,⟨yhb⟩⟩
   ·
    replace c11:=Bool.eq_false_iff.mpr c11
    subst c11
    rw [ynf] at H
    have H' := zm H
    clear H
    have:=NB583_584.out
    have:=NB584_583.out
    obtain ⟨_,_,_,_,_,_⟩:=yc3 BK583
    obtain ⟨_,_,_,_,_,_⟩:=yc3 BK584
    go_wp2_with (first|(go_at_call 24;(with_reducible refine (psalteryref12_Same.calls k _ _ l0_1 _ _ l1_1 false _ ?side1 HC0_1.out ?side3 HC1_1.out A10.out).mono ?_);(case side1=>exact ycb HR0_1);(case side3=>exact ycb HR1_1);rintro e w' ⟨rfl,⟨nd,rfl⟩⟩;(try exact yww)))
    repeat (go_quiet (first|(go_at_call 24;(with_reducible refine (psalteryref12_Same.calls k _ _ l0_1 _ _ l1_1 false _ ?side1 HC0_1.out ?side3 HC1_1.out A10.out).mono ?_);(case side1=>exact ycb HR0_1);(case side3=>exact ycb HR1_1);rintro e w' ⟨rfl,⟨nd,rfl⟩⟩;(try exact yww)));try go_wp2_with (first|(go_at_call 24;(with_reducible refine (psalteryref12_Same.calls k _ _ l0_1 _ _ l1_1 false _ ?side1 HC0_1.out ?side3 HC1_1.out A10.out).mono ?_);(case side1=>exact ycb HR0_1);(case side3=>exact ycb HR1_1);rintro e w' ⟨rfl,⟨nd,rfl⟩⟩;(try exact yww))))
    go_meet
    case rel=>exact ⟨_,(true),yq,H',⟨yo⟩,⟨yk BK583⟩,⟨yk BK584⟩,⟨yhb⟩⟩
 case rest =>
  clear HC3
  obtain ⟨kq,x27_2,rfl,HA,HJ2,BK583,BK584,HB⟩:=hcut
  obtain ⟨kj2,rfl⟩:=ysu kq (fun h=>by subst h;exact absurd HA.out (by simp [psalteryref13_Same.j0]))
  have H:=HA.out;clear HA
  simp only [psalteryref13_Same.j0] at H
  by_cases c18 : x27_2=true
  ·
   subst c18
   rw [if_pos rfl] at H
   obtain rfl:=Option.some.inj H
   go_wp2
   repeat (go_quiet (fail);try go_wp2)
   go_ret
   exact ⟨ye,yhb⟩
  ·
   replace c18:=Bool.eq_false_iff.mpr c18
   subst c18
   rw [ynf] at H
   have H' := zm H
   clear H
   go_wp2
   repeat (go_quiet (fail);try go_wp2)
   go_loopg [5] kj2 (fun kq v5 w' => ∃ (x5_2 : Int),v5=.int .i64 x5_2∧Aside0 (psalteryref13_Same.l0 kq x5_2 a0_0 l0_1 l0_2 a1_0 l1_1 l1_2=some r)∧Aside0 (kq≤kj2)∧Aside0 (w'.heap[gb583]? = some (.cells #[.bool a0_0,(.slice A0_1 l0_1.length c0_1),(.slice A0_2 l0_2.length c0_2)] 33 (0,0)))∧Aside0 (w'.heap[gb584]? = some (.cells #[.bool a1_0,(.slice A1_1 l1_1.length c1_1),(.slice A1_2 l1_2.length c1_2)] 33 (0,0)))∧Aside0 (Below w.heap.size w w'))
   case atStart=>exact ⟨(0),yq,H',⟨Nat.le_refl _⟩,⟨yk BK583⟩,⟨yk BK584⟩,⟨yhb⟩⟩
   case round =>
    clear H'
    obtain ⟨x5_2,rfl,HA,HK2,BK583,BK584,HB⟩:=hrel
    obtain ⟨k2,rfl⟩:=ysu gk (fun h=>by subst h;exact absurd HA.out (by simp [psalteryref13_Same.l0]))
    have H:=HA.out;clear HA
    simp only [psalteryref13_Same.l0] at H
    by_cases c19 : x5_2 < (l0_2.length : Int)
    ·
     rw [if_pos c19] at H
     have c19b0 : decide (x5_2 < (l0_2.length : Int))=true:=decide_eq_true c19
     clear c19
     obtain ⟨c20,H⟩:=yif H
     have c20b0 : decide (0≤x5_2)=true:=decide_eq_true c20
     clear c20
     obtain ⟨c21,H⟩:=yif H
     have c21b0 : decide (x5_2 < (l1_2.length : Int))=true:=decide_eq_true c21
     clear c21
     obtain ⟨t588,A22,H⟩:=ybi H
     by_cases c23 : t588=true
     ·
      subst c23
      rw [if_pos rfl] at H
      have H' := zm H
      clear H
      have:=NB583_584.out
      have:=NB584_583.out
      obtain ⟨_,_,_,_,_,_⟩:=yc3 BK583
      have p586 : 0≤(x5_2 : Int):=yt
      have q586 : x5_2 < (l0_2.length : Int):=yt
      obtain ⟨ad586,A586_0,c586_0,e586,hx586_0,hl586_0,hi586_0⟩:=at_L2 HR0_2.out x5_2 p586 q586
      cases e586
      replace hx586_0:=yhx HB hx586_0
      have HR586_0:=zm hi586_0;have HC586_0:=zm hl586_0;clear hi586_0 hl586_0
      replace p586:=eq_true p586
      replace q586:=eq_true q586
      obtain ⟨_,_,_,_,_,_⟩:=yc3 BK584
      have p587 : 0≤(x5_2 : Int):=yt
      have q587 : x5_2 < (l1_2.length : Int):=yt
      obtain ⟨ad587,A587_0,c587_0,e587,hx587_0,hl587_0,hi587_0⟩:=at_L2 HR1_2.out x5_2 p587 q587
      cases e587
      replace hx587_0:=yhx HB hx587_0
      have HR587_0:=zm hi587_0;have HC587_0:=zm hl587_0;clear hi587_0 hl587_0
      replace p587:=eq_true p587
      replace q587:=eq_true q587
      go_wp2_with (first|(go_at_call 24;(with_reducible refine (psalteryref12_Same.calls k2 _ _ (rd_L2 l0_2 x5_2) _ _ (rd_L2 l1_2 x5_2) true _ ?side1 HC586_0.out ?side3 HC587_0.out A22.out).mono ?_);(case side1=>exact ycb HR586_0);(case side3=>exact ycb HR587_0);rintro e w' ⟨rfl,⟨nd,rfl⟩⟩;(try exact yww)))
      repeat (go_quiet (first|(go_at_call 24;(with_reducible refine (psalteryref12_Same.calls k2 _ _ (rd_L2 l0_2 x5_2) _ _ (rd_L2 l1_2 x5_2) true _ ?side1 HC586_0.out ?side3 HC587_0.out A22.out).mono ?_);(case side1=>exact ycb HR586_0);(case side3=>exact ycb HR587_0);rintro e w' ⟨rfl,⟨nd,rfl⟩⟩;(try exact yww)));try go_wp2_with (first|(go_at_call 24;(with_reducible refine (psalteryref12_Same.calls k2 _ _ (rd_L2 l0_2 x5_2) _ _ (rd_L2 l1_2 x5_2) true _ ?side1 HC586_0.out ?side3 HC587_0.out A22.out).mono ?_);(case side1=>exact ycb HR586_0);(case side3=>exact ycb HR587_0);rintro e w' ⟨rfl,⟨nd,rfl⟩⟩;(try exact yww))))
      go_roundg k2
      case measure=>exact yom2 HJ2 HK2
      case rel=>exact ⟨(wrap64 (x5_2+1)),yq,H',⟨yom2 HJ2 HK2⟩,⟨yk BK583⟩,⟨yk BK584⟩,⟨yhb⟩⟩
     ·
      replace c23:=Bool.eq_false_iff.mpr c23
      subst c23
      rw [ynf] at H
      obtain rfl:=Option.some.inj H
      have:=NB583_584.out
      have:=NB584_583.out
      obtain ⟨_,_,_,_,_,_⟩:=yc3 BK583
      have p586 : 0≤(x5_2 : Int):=yt
      have q586 : x5_2 < (l0_2.length : Int):=yt
      obtain ⟨ad586,A586_0,c586_0,e586,hx586_0,hl586_0,hi586_0⟩:=at_L2 HR0_2.out x5_2 p586 q586
      cases e586
      replace hx586_0:=yhx HB hx586_0
      have HR586_0:=zm hi586_0;have HC586_0:=zm hl586_0;clear hi586_0 hl586_0
      replace p586:=eq_true p586
      replace q586:=eq_true q586
      obtain ⟨_,_,_,_,_,_⟩:=yc3 BK584
      have p587 : 0≤(x5_2 : Int):=yt
      have q587 : x5_2 < (l1_2.length : Int):=yt
      obtain ⟨ad587,A587_0,c587_0,e587,hx587_0,hl587_0,hi587_0⟩:=at_L2 HR1_2.out x5_2 p587 q587
      cases e587
      replace hx587_0:=yhx HB hx587_0
      have HR587_0:=zm hi587_0;have HC587_0:=zm hl587_0;clear hi587_0 hl587_0
      replace p587:=eq_true p587
      replace q587:=eq_true q587
      go_wp2_with (first|(go_at_call 24;(with_reducible refine (psalteryref12_Same.calls k2 _ _ (rd_L2 l0_2 x5_2) _ _ (rd_L2 l1_2 x5_2) false _ ?side1 HC586_0.out ?side3 HC587_0.out A22.out).mono ?_);(case side1=>exact ycb HR586_0);(case side3=>exact ycb HR587_0);rintro e w' ⟨rfl,⟨nd,rfl⟩⟩;(try exact yww)))
      repeat (go_quiet (first|(go_at_call 24;(with_reducible refine (psalteryref12_Same.calls k2 _ _ (rd_L2 l0_2 x5_2) _ _ (rd_L2 l1_2 x5_2) false _ ?side1 HC586_0.out ?side3 HC587_0.out A22.out).mono ?_);(case side1=>exact ycb HR586_0);(case side3=>exact ycb HR587_0);rintro e w' ⟨rfl,⟨nd,rfl⟩⟩;(try exact yww)));try go_wp2_with (first|(go_at_call 24;(with_reducible refine (psalteryref12_Same.calls k2 _ _ (rd_L2 l0_2 x5_2) _ _ (rd_L2 l1_2 x5_2) false _ ?side1 HC586_0.out ?side3 HC587_0.out A22.out).mono ?_);(case side1=>exact ycb HR586_0);(case side3=>exact ycb HR587_0);rintro e w' ⟨rfl,⟨nd,rfl⟩⟩;(try exact yww))))
      go_ret
      exact ⟨ye,yhb⟩
    ·
     rw [if_neg c19] at H
     have c19b0 : decide (x5_2 < (l0_2.length : Int))=false:=decide_eq_false c19
     clear c19
     obtain rfl:=Option.some.inj H
     have:=NB583_584.out
     have:=NB584_583.out
     obtain ⟨_,_,_,_,_,_⟩:=yc3 BK583
     go_wp2
     repeat (go_quiet (fail);try go_wp2)
     go_ret
     exact ⟨ye,yhb⟩
def psalterylaw13_knows.f (k : Nat)  : Option (Bool):=(some (([(([0,0,0,0,0] : List Int))] : List (List Int)) : List (List Int))).bind fun y592=>((some (([(([(([0] : List Int)),(([0] : List Int)),(([0,0] : List Int)),(([0,0,0,0] : List Int)),(([0,0,0,0,0,0,0,0] : List Int))] : List (List Int)))] : List (List (List Int))) : List (List (List Int)))).bind fun y613=>((cpack_Write.f k 11 1 true y592 y613 ([] : List (List Int))).bind fun bt617=>((cpack_Read.f k 11 1 bt617.1 ([] : List (List Int))).bind fun bt621=>((cpack_Read.f k 11 1 (List.replicate 11 0) (([(([9,2,3,4,5] : List Int))] : List (List Int)))).bind fun bt639=>(if (bt617.1.length : Int)=11 then (if bt617.2=0 then ((psalterylaw13_As.f bt621.1 bt621.2.1 bt621.2.2.1).bind fun bt648=>((psalterylaw13_As.f true y592 y613).bind fun bt655=>((psalteryref13_Same.f k bt648.1 bt648.2.1 bt648.2.2 bt655.1 bt655.2.1 bt655.2.2).bind fun t662=>(if t662=true then (if bt621.2.2.2=0 then (if bt639.1=true then (none) else ((psalteryref12_Same.f k bt639.2.1 (([(([6,0,0,1,2] : List Int))] : List (List Int)))).bind fun t669=>(if t669=true then (if bt639.2.2.2=0 then ((cpack_Right.f k 11 1 true y592 y613).bind fun t670=>(some t670)) else (none)) else (none)))) else (none)) else (none))))) else (none)) else (none))))))
theorem psalterylaw13_knows.mono : ∀ k,LeO (psalterylaw13_knows.f k ) (psalterylaw13_knows.f (k+1) ):=by
 intro  k
 unfold psalterylaw13_knows.f
 repeat' with_reducible first|apply cpack_Read.mono|apply cpack_Right.mono|apply cpack_Write.mono|apply psalteryref12_Same.mono|apply psalteryref13_Same.mono|apply yLr|apply yLn|apply yLi|apply yLb|intro _
def psalterylaw13_knows.T5 : Bool × List (List Nat × List Nat):=(true, [([], []),([0], [0]),([1], [1]),([2], [2]),([3], [3]),([4,3], [3,4]),([3,5], [3,5]),([6,3], [6]),([7], [7]),([8,7,7], [7,8]),([7], [7]),([10,9,7], [7,10]),([9,11,11,7], [7,9,11]),([7,12], [7,12]),([13,12], [13]),([14], [14]),([15,14], [14,15]),([14,16], [14,16]),([17,14], [17]),([18], [18]),([19,18], [18,19]),([20,18], [18,20]),([18,21], [18,21]),([22,18], [22]),([23], [23]),([24,23], [23,24]),([23], [23]),([26,23], [23,26]),([25,27,23,23], [23,25,27]),([23,28], [23,28]),([29,28], [29]),([30], [30]),([31,30], [30,31]),([30,32], [30,32]),([33,30], [33]),([34], [34]),([35,34,34], [34,35]),([34,36], [34,36]),([37,36,0,1,2,3,4,5,6,7,8,9,10,11,12,13,14,15,16,17,18,19,20,21,22,23,24,25,26,27,28,29,30,31,32,33,34,35,36,37], [37])])
def psalterylaw13_knows.B5 : List Nat := [0,1,3,7,15,31,63,127,255,511,255,2047,4095,8191,16383,32767,65535,131071,262143,524287,1048575,2097151,4194303,8388607,16777215,33554431,16777215,83886079,268435455,536870911,1073741823,2147483647,4294967295,8589934591,17179869183,34359738367,68719476735,137438953471,274877906943]
theorem psalterylaw13_knows.tab5 : rtab .any (opsOf Try.f11 5)=psalterylaw13_knows.T5:=by kernel_rfl
theorem psalterylaw13_knows.bits5 : waitsOk psalterylaw13_knows.T5.2 psalterylaw13_knows.B5=true:=by kernel_rfl
set_option maxHeartbeats 8000000 in
set_option maxRecDepth 100000 in
theorem psalterylaw13_knows.calls (k : Nat)  (r : Bool) (w : World) (h : psalterylaw13_knows.f k  = some r) :
  Calls Try.prog 11 #[] w fun e w' => e=.returned (.bool r)∧Below w.heap.size w w' := by
 have hu25:=Try.underlying25;have HB:=zm (Below.refl w.heap.size w)
 have H : ((some (([(([0,0,0,0,0] : List Int))] : List (List Int)) : List (List Int))).bind fun y592=>((some (([(([(([0] : List Int)),(([0] : List Int)),(([0,0] : List Int)),(([0,0,0,0] : List Int)),(([0,0,0,0,0,0,0,0] : List Int))] : List (List Int)))] : List (List (List Int))) : List (List (List Int)))).bind fun y613=>((cpack_Write.f k 11 1 true y592 y613 ([] : List (List Int))).bind fun bt617=>((cpack_Read.f k 11 1 bt617.1 ([] : List (List Int))).bind fun bt621=>((cpack_Read.f k 11 1 (List.replicate 11 0) (([(([9,2,3,4,5] : List Int))] : List (List Int)))).bind fun bt639=>(if (bt617.1.length : Int)=11 then (if bt617.2=0 then ((psalterylaw13_As.f bt621.1 bt621.2.1 bt621.2.2.1).bind fun bt648=>((psalterylaw13_As.f true y592 y613).bind fun bt655=>((psalteryref13_Same.f k bt648.1 bt648.2.1 bt648.2.2 bt655.1 bt655.2.1 bt655.2.2).bind fun t662=>(if t662=true then (if bt621.2.2.2=0 then (if bt639.1=true then (none) else ((psalteryref12_Same.f k bt639.2.1 (([(([6,0,0,1,2] : List Int))] : List (List Int)))).bind fun t669=>(if t669=true then (if bt639.2.2.2=0 then ((cpack_Right.f k 11 1 true y592 y613).bind fun t670=>(some t670)) else (none)) else (none)))) else (none)) else (none))))) else (none)) else (none)))))))=some r:=h
 clear h
 obtain ⟨y589,hy589⟩ : ∃ y_ : List Int,y_=(([0,0,0,0,0] : List Int)):=⟨_,rfl⟩
 replace H : ((some (([y589] : List (List Int)) : List (List Int))).bind fun y592=>((some (([(([(([0] : List Int)),(([0] : List Int)),(([0,0] : List Int)),(([0,0,0,0] : List Int)),(([0,0,0,0,0,0,0,0] : List Int))] : List (List Int)))] : List (List (List Int))) : List (List (List Int)))).bind fun y613=>((cpack_Write.f k 11 1 true y592 y613 ([] : List (List Int))).bind fun bt617=>((cpack_Read.f k 11 1 bt617.1 ([] : List (List Int))).bind fun bt621=>((cpack_Read.f k 11 1 (List.replicate 11 0) (([(([9,2,3,4,5] : List Int))] : List (List Int)))).bind fun bt639=>(if (bt617.1.length : Int)=11 then (if bt617.2=0 then ((psalterylaw13_As.f bt621.1 bt621.2.1 bt621.2.2.1).bind fun bt648=>((psalterylaw13_As.f true y592 y613).bind fun bt655=>((psalteryref13_Same.f k bt648.1 bt648.2.1 bt648.2.2 bt655.1 bt655.2.1 bt655.2.2).bind fun t662=>(if t662=true then (if bt621.2.2.2=0 then (if bt639.1=true then (none) else ((psalteryref12_Same.f k bt639.2.1 (([(([6,0,0,1,2] : List Int))] : List (List Int)))).bind fun t669=>(if t669=true then (if bt639.2.2.2=0 then ((cpack_Right.f k 11 1 true y592 y613).bind fun t670=>(some t670)) else (none)) else (none)))) else (none)) else (none))))) else (none)) else (none)))))))=some r:=yrw hy589 H
 have Ny589:=zm hy589;clear hy589
 obtain ⟨y592,hy592⟩ : ∃ y_ : List (List Int),y_=(([y589] : List (List Int))):=⟨_,rfl⟩
 replace H : ((some (([(([(([0] : List Int)),(([0] : List Int)),(([0,0] : List Int)),(([0,0,0,0] : List Int)),(([0,0,0,0,0,0,0,0] : List Int))] : List (List Int)))] : List (List (List Int))) : List (List (List Int)))).bind fun y613=>((cpack_Write.f k 11 1 true y592 y613 ([] : List (List Int))).bind fun bt617=>((cpack_Read.f k 11 1 bt617.1 ([] : List (List Int))).bind fun bt621=>((cpack_Read.f k 11 1 (List.replicate 11 0) (([(([9,2,3,4,5] : List Int))] : List (List Int)))).bind fun bt639=>(if (bt617.1.length : Int)=11 then (if bt617.2=0 then ((psalterylaw13_As.f bt621.1 bt621.2.1 bt621.2.2.1).bind fun bt648=>((psalterylaw13_As.f true y592 y613).bind fun bt655=>((psalteryref13_Same.f k bt648.1 bt648.2.1 bt648.2.2 bt655.1 bt655.2.1 bt655.2.2).bind fun t662=>(if t662=true then (if bt621.2.2.2=0 then (if bt639.1=true then (none) else ((psalteryref12_Same.f k bt639.2.1 (([(([6,0,0,1,2] : List Int))] : List (List Int)))).bind fun t669=>(if t669=true then (if bt639.2.2.2=0 then ((cpack_Right.f k 11 1 true y592 y613).bind fun t670=>(some t670)) else (none)) else (none)))) else (none)) else (none))))) else (none)) else (none))))))=some r:=yrw hy592 H
 have Ny592:=zm hy592;clear hy592
 obtain ⟨y595,hy595⟩ : ∃ y_ : List Int,y_=(([0] : List Int)):=⟨_,rfl⟩
 replace H : ((some (([(([y595,(([0] : List Int)),(([0,0] : List Int)),(([0,0,0,0] : List Int)),(([0,0,0,0,0,0,0,0] : List Int))] : List (List Int)))] : List (List (List Int))) : List (List (List Int)))).bind fun y613=>((cpack_Write.f k 11 1 true y592 y613 ([] : List (List Int))).bind fun bt617=>((cpack_Read.f k 11 1 bt617.1 ([] : List (List Int))).bind fun bt621=>((cpack_Read.f k 11 1 (List.replicate 11 0) (([(([9,2,3,4,5] : List Int))] : List (List Int)))).bind fun bt639=>(if (bt617.1.length : Int)=11 then (if bt617.2=0 then ((psalterylaw13_As.f bt621.1 bt621.2.1 bt621.2.2.1).bind fun bt648=>((psalterylaw13_As.f true y592 y613).bind fun bt655=>((psalteryref13_Same.f k bt648.1 bt648.2.1 bt648.2.2 bt655.1 bt655.2.1 bt655.2.2).bind fun t662=>(if t662=true then (if bt621.2.2.2=0 then (if bt639.1=true then (none) else ((psalteryref12_Same.f k bt639.2.1 (([(([6,0,0,1,2] : List Int))] : List (List Int)))).bind fun t669=>(if t669=true then (if bt639.2.2.2=0 then ((cpack_Right.f k 11 1 true y592 y613).bind fun t670=>(some t670)) else (none)) else (none)))) else (none)) else (none))))) else (none)) else (none))))))=some r:=yrw hy595 H
 have Ny595:=zm hy595;clear hy595
 obtain ⟨y598,hy598⟩ : ∃ y_ : List Int,y_=(([0] : List Int)):=⟨_,rfl⟩
 replace H : ((some (([(([y595,y598,(([0,0] : List Int)),(([0,0,0,0] : List Int)),(([0,0,0,0,0,0,0,0] : List Int))] : List (List Int)))] : List (List (List Int))) : List (List (List Int)))).bind fun y613=>((cpack_Write.f k 11 1 true y592 y613 ([] : List (List Int))).bind fun bt617=>((cpack_Read.f k 11 1 bt617.1 ([] : List (List Int))).bind fun bt621=>((cpack_Read.f k 11 1 (List.replicate 11 0) (([(([9,2,3,4,5] : List Int))] : List (List Int)))).bind fun bt639=>(if (bt617.1.length : Int)=11 then (if bt617.2=0 then ((psalterylaw13_As.f bt621.1 bt621.2.1 bt621.2.2.1).bind fun bt648=>((psalterylaw13_As.f true y592 y613).bind fun bt655=>((psalteryref13_Same.f k bt648.1 bt648.2.1 bt648.2.2 bt655.1 bt655.2.1 bt655.2.2).bind fun t662=>(if t662=true then (if bt621.2.2.2=0 then (if bt639.1=true then (none) else ((psalteryref12_Same.f k bt639.2.1 (([(([6,0,0,1,2] : List Int))] : List (List Int)))).bind fun t669=>(if t669=true then (if bt639.2.2.2=0 then ((cpack_Right.f k 11 1 true y592 y613).bind fun t670=>(some t670)) else (none)) else (none)))) else (none)) else (none))))) else (none)) else (none))))))=some r:=yrw hy598 H
 have Ny598:=zm hy598;clear hy598
 obtain ⟨y601,hy601⟩ : ∃ y_ : List Int,y_=(([0,0] : List Int)):=⟨_,rfl⟩
 replace H : ((some (([(([y595,y598,y601,(([0,0,0,0] : List Int)),(([0,0,0,0,0,0,0,0] : List Int))] : List (List Int)))] : List (List (List Int))) : List (List (List Int)))).bind fun y613=>((cpack_Write.f k 11 1 true y592 y613 ([] : List (List Int))).bind fun bt617=>((cpack_Read.f k 11 1 bt617.1 ([] : List (List Int))).bind fun bt621=>((cpack_Read.f k 11 1 (List.replicate 11 0) (([(([9,2,3,4,5] : List Int))] : List (List Int)))).bind fun bt639=>(if (bt617.1.length : Int)=11 then (if bt617.2=0 then ((psalterylaw13_As.f bt621.1 bt621.2.1 bt621.2.2.1).bind fun bt648=>((psalterylaw13_As.f true y592 y613).bind fun bt655=>((psalteryref13_Same.f k bt648.1 bt648.2.1 bt648.2.2 bt655.1 bt655.2.1 bt655.2.2).bind fun t662=>(if t662=true then (if bt621.2.2.2=0 then (if bt639.1=true then (none) else ((psalteryref12_Same.f k bt639.2.1 (([(([6,0,0,1,2] : List Int))] : List (List Int)))).bind fun t669=>(if t669=true then (if bt639.2.2.2=0 then ((cpack_Right.f k 11 1 true y592 y613).bind fun t670=>(some t670)) else (none)) else (none)))) else (none)) else (none))))) else (none)) else (none))))))=some r:=yrw hy601 H
 have Ny601:=zm hy601;clear hy601
 obtain ⟨y604,hy604⟩ : ∃ y_ : List Int,y_=(([0,0,0,0] : List Int)):=⟨_,rfl⟩
 replace H : ((some (([(([y595,y598,y601,y604,(([0,0,0,0,0,0,0,0] : List Int))] : List (List Int)))] : List (List (List Int))) : List (List (List Int)))).bind fun y613=>((cpack_Write.f k 11 1 true y592 y613 ([] : List (List Int))).bind fun bt617=>((cpack_Read.f k 11 1 bt617.1 ([] : List (List Int))).bind fun bt621=>((cpack_Read.f k 11 1 (List.replicate 11 0) (([(([9,2,3,4,5] : List Int))] : List (List Int)))).bind fun bt639=>(if (bt617.1.length : Int)=11 then (if bt617.2=0 then ((psalterylaw13_As.f bt621.1 bt621.2.1 bt621.2.2.1).bind fun bt648=>((psalterylaw13_As.f true y592 y613).bind fun bt655=>((psalteryref13_Same.f k bt648.1 bt648.2.1 bt648.2.2 bt655.1 bt655.2.1 bt655.2.2).bind fun t662=>(if t662=true then (if bt621.2.2.2=0 then (if bt639.1=true then (none) else ((psalteryref12_Same.f k bt639.2.1 (([(([6,0,0,1,2] : List Int))] : List (List Int)))).bind fun t669=>(if t669=true then (if bt639.2.2.2=0 then ((cpack_Right.f k 11 1 true y592 y613).bind fun t670=>(some t670)) else (none)) else (none)))) else (none)) else (none))))) else (none)) else (none))))))=some r:=yrw hy604 H
 have Ny604:=zm hy604;clear hy604
 obtain ⟨y607,hy607⟩ : ∃ y_ : List Int,y_=(([0,0,0,0,0,0,0,0] : List Int)):=⟨_,rfl⟩
 replace H : ((some (([(([y595,y598,y601,y604,y607] : List (List Int)))] : List (List (List Int))) : List (List (List Int)))).bind fun y613=>((cpack_Write.f k 11 1 true y592 y613 ([] : List (List Int))).bind fun bt617=>((cpack_Read.f k 11 1 bt617.1 ([] : List (List Int))).bind fun bt621=>((cpack_Read.f k 11 1 (List.replicate 11 0) (([(([9,2,3,4,5] : List Int))] : List (List Int)))).bind fun bt639=>(if (bt617.1.length : Int)=11 then (if bt617.2=0 then ((psalterylaw13_As.f bt621.1 bt621.2.1 bt621.2.2.1).bind fun bt648=>((psalterylaw13_As.f true y592 y613).bind fun bt655=>((psalteryref13_Same.f k bt648.1 bt648.2.1 bt648.2.2 bt655.1 bt655.2.1 bt655.2.2).bind fun t662=>(if t662=true then (if bt621.2.2.2=0 then (if bt639.1=true then (none) else ((psalteryref12_Same.f k bt639.2.1 (([(([6,0,0,1,2] : List Int))] : List (List Int)))).bind fun t669=>(if t669=true then (if bt639.2.2.2=0 then ((cpack_Right.f k 11 1 true y592 y613).bind fun t670=>(some t670)) else (none)) else (none)))) else (none)) else (none))))) else (none)) else (none))))))=some r:=yrw hy607 H
 have Ny607:=zm hy607;clear hy607
 obtain ⟨y610,hy610⟩ : ∃ y_ : List (List Int),y_=(([y595,y598,y601,y604,y607] : List (List Int))):=⟨_,rfl⟩
 replace H : ((some (([y610] : List (List (List Int))) : List (List (List Int)))).bind fun y613=>((cpack_Write.f k 11 1 true y592 y613 ([] : List (List Int))).bind fun bt617=>((cpack_Read.f k 11 1 bt617.1 ([] : List (List Int))).bind fun bt621=>((cpack_Read.f k 11 1 (List.replicate 11 0) (([(([9,2,3,4,5] : List Int))] : List (List Int)))).bind fun bt639=>(if (bt617.1.length : Int)=11 then (if bt617.2=0 then ((psalterylaw13_As.f bt621.1 bt621.2.1 bt621.2.2.1).bind fun bt648=>((psalterylaw13_As.f true y592 y613).bind fun bt655=>((psalteryref13_Same.f k bt648.1 bt648.2.1 bt648.2.2 bt655.1 bt655.2.1 bt655.2.2).bind fun t662=>(if t662=true then (if bt621.2.2.2=0 then (if bt639.1=true then (none) else ((psalteryref12_Same.f k bt639.2.1 (([(([6,0,0,1,2] : List Int))] : List (List Int)))).bind fun t669=>(if t669=true then (if bt639.2.2.2=0 then ((cpack_Right.f k 11 1 true y592 y613).bind fun t670=>(some t670)) else (none)) else (none)))) else (none)) else (none))))) else (none)) else (none))))))=some r:=yrw hy610 H
 have Ny610:=zm hy610;clear hy610
 obtain ⟨y613,hy613⟩ : ∃ y_ : List (List (List Int)),y_=(([y610] : List (List (List Int)))):=⟨_,rfl⟩
 replace H : ((cpack_Write.f k 11 1 true y592 y613 ([] : List (List Int))).bind fun bt617=>((cpack_Read.f k 11 1 bt617.1 ([] : List (List Int))).bind fun bt621=>((cpack_Read.f k 11 1 (List.replicate 11 0) (([(([9,2,3,4,5] : List Int))] : List (List Int)))).bind fun bt639=>(if (bt617.1.length : Int)=11 then (if bt617.2=0 then ((psalterylaw13_As.f bt621.1 bt621.2.1 bt621.2.2.1).bind fun bt648=>((psalterylaw13_As.f true y592 y613).bind fun bt655=>((psalteryref13_Same.f k bt648.1 bt648.2.1 bt648.2.2 bt655.1 bt655.2.1 bt655.2.2).bind fun t662=>(if t662=true then (if bt621.2.2.2=0 then (if bt639.1=true then (none) else ((psalteryref12_Same.f k bt639.2.1 (([(([6,0,0,1,2] : List Int))] : List (List Int)))).bind fun t669=>(if t669=true then (if bt639.2.2.2=0 then ((cpack_Right.f k 11 1 true y592 y613).bind fun t670=>(some t670)) else (none)) else (none)))) else (none)) else (none))))) else (none)) else (none)))))=some r:=yrw hy613 H
 have Ny613:=zm hy613;clear hy613
 obtain ⟨⟨t617,t620⟩,A1,H⟩:=ybi H
 try dsimp only at H
 obtain ⟨⟨t621,t622,t625,t628⟩,A2,H⟩:=ybi H
 try dsimp only at H
 obtain ⟨y630,hy630⟩ : ∃ y_ : List Int,y_=(List.replicate 11 0):=⟨_,rfl⟩
 replace H : ((cpack_Read.f k 11 1 y630 (([(([9,2,3,4,5] : List Int))] : List (List Int)))).bind fun bt639=>(if (t617.length : Int)=11 then (if t620=0 then ((psalterylaw13_As.f t621 t622 t625).bind fun bt648=>((psalterylaw13_As.f true y592 y613).bind fun bt655=>((psalteryref13_Same.f k bt648.1 bt648.2.1 bt648.2.2 bt655.1 bt655.2.1 bt655.2.2).bind fun t662=>(if t662=true then (if t628=0 then (if bt639.1=true then (none) else ((psalteryref12_Same.f k bt639.2.1 (([(([6,0,0,1,2] : List Int))] : List (List Int)))).bind fun t669=>(if t669=true then (if bt639.2.2.2=0 then ((cpack_Right.f k 11 1 true y592 y613).bind fun t670=>(some t670)) else (none)) else (none)))) else (none)) else (none))))) else (none)) else (none)))=some r:=yrw hy630 H
 have Ny630:=zm hy630;clear hy630
 obtain ⟨y633,hy633⟩ : ∃ y_ : List Int,y_=(([9,2,3,4,5] : List Int)):=⟨_,rfl⟩
 replace H : ((cpack_Read.f k 11 1 y630 (([y633] : List (List Int)))).bind fun bt639=>(if (t617.length : Int)=11 then (if t620=0 then ((psalterylaw13_As.f t621 t622 t625).bind fun bt648=>((psalterylaw13_As.f true y592 y613).bind fun bt655=>((psalteryref13_Same.f k bt648.1 bt648.2.1 bt648.2.2 bt655.1 bt655.2.1 bt655.2.2).bind fun t662=>(if t662=true then (if t628=0 then (if bt639.1=true then (none) else ((psalteryref12_Same.f k bt639.2.1 (([(([6,0,0,1,2] : List Int))] : List (List Int)))).bind fun t669=>(if t669=true then (if bt639.2.2.2=0 then ((cpack_Right.f k 11 1 true y592 y613).bind fun t670=>(some t670)) else (none)) else (none)))) else (none)) else (none))))) else (none)) else (none)))=some r:=yrw hy633 H
 have Ny633:=zm hy633;clear hy633
 obtain ⟨y636,hy636⟩ : ∃ y_ : List (List Int),y_=(([y633] : List (List Int))):=⟨_,rfl⟩
 replace H : ((cpack_Read.f k 11 1 y630 y636).bind fun bt639=>(if (t617.length : Int)=11 then (if t620=0 then ((psalterylaw13_As.f t621 t622 t625).bind fun bt648=>((psalterylaw13_As.f true y592 y613).bind fun bt655=>((psalteryref13_Same.f k bt648.1 bt648.2.1 bt648.2.2 bt655.1 bt655.2.1 bt655.2.2).bind fun t662=>(if t662=true then (if t628=0 then (if bt639.1=true then (none) else ((psalteryref12_Same.f k bt639.2.1 (([(([6,0,0,1,2] : List Int))] : List (List Int)))).bind fun t669=>(if t669=true then (if bt639.2.2.2=0 then ((cpack_Right.f k 11 1 true y592 y613).bind fun t670=>(some t670)) else (none)) else (none)))) else (none)) else (none))))) else (none)) else (none)))=some r:=yrw hy636 H
 have Ny636:=zm hy636;clear hy636
 obtain ⟨⟨t639,t640,t643,t646⟩,A3,H⟩:=ybi H
 try dsimp only at H
 by_cases c4 : (t617.length : Int)=11
 ·
  rw [if_pos c4] at H
  have c4b0 : ((t617.length : Int) == 11)=true:=beq_iff_eq.mpr c4
  have c4b1 : ((t617.length : Int) != 11)=false:=bne_eq_false_iff_eq.mpr c4
  clear c4
  by_cases c5 : t620=0
  ·
   rw [if_pos c5] at H
   have c5b0 : (t620 == 0)=true:=beq_iff_eq.mpr c5
   have c5b1 : (t620 != 0)=false:=bne_eq_false_iff_eq.mpr c5
   clear c5
   obtain ⟨⟨t648,t649,t652⟩,A6,H⟩:=ybi H
   try dsimp only at H
   obtain ⟨⟨t655,t656,t659⟩,A7,H⟩:=ybi H
   try dsimp only at H
   obtain ⟨t662,A8,H⟩:=ybi H
   obtain ⟨c9,H⟩:=yif H
   subst c9
   by_cases c10 : t628=0
   ·
    rw [if_pos c10] at H
    have c10b0 : (t628 == 0)=true:=beq_iff_eq.mpr c10
    have c10b1 : (t628 != 0)=false:=bne_eq_false_iff_eq.mpr c10
    clear c10
    obtain ⟨c11,H⟩:=yie H
    replace c11:=Bool.eq_false_iff.mpr c11
    subst c11
    obtain ⟨y663,hy663⟩ : ∃ y_ : List Int,y_=(([6,0,0,1,2] : List Int)):=⟨_,rfl⟩
    replace H : ((psalteryref12_Same.f k t640 (([y663] : List (List Int)))).bind fun t669=>(if t669=true then (if t646=0 then ((cpack_Right.f k 11 1 true y592 y613).bind fun t670=>(some t670)) else (none)) else (none)))=some r:=yrw hy663 H
    have Ny663:=zm hy663;clear hy663
    obtain ⟨y666,hy666⟩ : ∃ y_ : List (List Int),y_=(([y663] : List (List Int))):=⟨_,rfl⟩
    replace H : ((psalteryref12_Same.f k t640 y666).bind fun t669=>(if t669=true then (if t646=0 then ((cpack_Right.f k 11 1 true y592 y613).bind fun t670=>(some t670)) else (none)) else (none)))=some r:=yrw hy666 H
    have Ny666:=zm hy666;clear hy666
    obtain ⟨t669,A12,H⟩:=ybi H
    obtain ⟨c13,H⟩:=yif H
    subst c13
    by_cases c14 : t646=0
    ·
     rw [if_pos c14] at H
     have c14b0 : (t646 == 0)=true:=beq_iff_eq.mpr c14
     have c14b1 : (t646 != 0)=false:=bne_eq_false_iff_eq.mpr c14
     clear c14
     obtain ⟨t670,A15,H⟩:=ybi H
     obtain rfl:=Option.some.inj H
     go_enter Try.func11,Try.ntmps11
     try go_wp2_with (first|((with_reducible refine gate_dst (N:=8) rfl ?_);(try (refine gate_guard (by rfl) ?_;dsimp only));refine Kd.R_lit (Kd.int .i64) _ 3 ?hg (N:=8) ?hd (xs:=([0,0,0,0,0] : List Int)) (inner := [.int .i64 0, .int .i64 0, .int .i64 0, .int .i64 0, .int .i64 0]) (ok:=fun _=>True) (okp:=fun _=>True) ?hr ?hp (fun _ hk=>hk) trivial (Below.refl _ _) (Nat.le_refl _) (by simp) ?_;(case hd=>rfl);(case hg=>rfl);(case hr=>first|(go_simp;done)|(go_simp;rfl));(case hp=>exact (Reps.one (show Kd.M (Kd.int .i64) _ _ _ 0 [.int .i64 0] from rfl) (Reps.one (show Kd.M (Kd.int .i64) _ _ _ 0 [.int .i64 0] from rfl) (Reps.one (show Kd.M (Kd.int .i64) _ _ _ 0 [.int .i64 0] from rfl) (Reps.one (show Kd.M (Kd.int .i64) _ _ _ 0 [.int .i64 0] from rfl) (Reps.one (show Kd.M (Kd.int .i64) _ _ _ 0 [.int .i64 0] from rfl) (Reps.none _ _)))))));intro v590 w16 ho17 hb hg_ hnew_;clear hg_ hnew_;(first|rw [← Ny589.out] at ho17|(simp only [Int.reduceToNat] at ho17;rw [← Ny589.out] at ho17)|rw [show (List.replicate (Int.toNat 11) (0 : Int))=y589 from Ny589.out.symm] at ho17);have HO591:=zm (Kd.R_lower ho17 (zE yhb));replace HB:=ybs hb;clear hb ho17;obtain ⟨Ao18,co18,eo18⟩:=Kd.R_slice HO591.out;subst eo18)|((with_reducible refine gate_dst (N:=9) rfl ?_);(try (refine gate_guard (by rfl) ?_;dsimp only));refine Kd.N_lit (Kd.slice 3 (Kd.int .i64)) _ 49 ?hg (N' := 9) ?hd (xs:=([y589] : List (List Int))) (inner := [.slice Ao18 y589.length co18]) (ok:=(fun _=>True)) (okp:=(fun _=>True)) ?hr ?hp (fun _ hk=>hk) ((show ∀ k_,w16.heap.size≤k_→(fun _=>True) k_ from fun k_ hk=>trivial) _ (Nat.le_refl _)) (Below.refl _ _) (Nat.le_refl _) (by simp) ?_;(case hd=>rfl);(case hg=>rfl);(case hr=>first|(go_simp;done)|(go_simp;rfl));(case hp=>exact (Reps.one (show Kd.FK (Kd.slice 3 (Kd.int .i64)) _ _ y589 [.slice Ao18 y589.length co18] from (Kd.FK_slice_mk (Kd.R_reads' (zG (ok' := (fun _=>True)) (HO591.out) (fun k_ hk=>trivial))).2.1 (Kd.R_F (zG (ok' := (fun _=>True)) (HO591.out) (fun k_ hk=>trivial))))) (Reps.none _ _)));intro v593 w19 ho20 hb hg_ hnew_;clear hg_ hnew_;(first|rw [← Ny592.out] at ho20|(simp only [Int.reduceToNat] at ho20;rw [← Ny592.out] at ho20)|rw [show (List.replicate (Int.toNat 11) (0 : Int))=y592 from Ny592.out.symm] at ho20);have HO594:=zm (Kd.N_lower ho20 (zE yhb));replace HB:=ybs hb;clear HO591;clear hb ho20)|((with_reducible refine gate_dst (N:=10) rfl ?_);(try (refine gate_guard (by rfl) ?_;dsimp only));refine Kd.R_lit (Kd.int .i64) _ 3 ?hg (N:=10) ?hd (xs:=([0] : List Int)) (inner := [.int .i64 0]) (ok:=fun _=>True) (okp:=fun _=>True) ?hr ?hp (fun _ hk=>hk) trivial (Below.refl _ _) (Nat.le_refl _) (by simp) ?_;(case hd=>rfl);(case hg=>rfl);(case hr=>first|(go_simp;done)|(go_simp;rfl));(case hp=>exact (Reps.one (show Kd.M (Kd.int .i64) _ _ _ 0 [.int .i64 0] from rfl) (Reps.none _ _)));intro v596 w21 ho22 hb hg_ hnew_;clear hg_ hnew_;(first|rw [← Ny595.out] at ho22|(simp only [Int.reduceToNat] at ho22;rw [← Ny595.out] at ho22)|rw [show (List.replicate (Int.toNat 11) (0 : Int))=y595 from Ny595.out.symm] at ho22);replace HO594:=zm (Kd.N_elder' (yr HO594) (Kd.R_base ho22) hb);have HO597:=zm (Kd.R_lower ho22 (zE yhb));replace HB:=ybs hb;clear hb ho22)|((with_reducible refine gate_dst (N:=11) rfl ?_);(try (refine gate_guard (by rfl) ?_;dsimp only));refine Kd.R_lit (Kd.int .i64) _ 3 ?hg (N:=11) ?hd (xs:=([0] : List Int)) (inner := [.int .i64 0]) (ok:=fun _=>True) (okp:=fun _=>True) ?hr ?hp (fun _ hk=>hk) trivial (Below.refl _ _) (Nat.le_refl _) (by simp) ?_;(case hd=>rfl);(case hg=>rfl);(case hr=>first|(go_simp;done)|(go_simp;rfl));(case hp=>exact (Reps.one (show Kd.M (Kd.int .i64) _ _ _ 0 [.int .i64 0] from rfl) (Reps.none _ _)));intro v599 w23 ho24 hb hg_ hnew_;clear hg_ hnew_;(first|rw [← Ny598.out] at ho24|(simp only [Int.reduceToNat] at ho24;rw [← Ny598.out] at ho24)|rw [show (List.replicate (Int.toNat 11) (0 : Int))=y598 from Ny598.out.symm] at ho24);replace HO594:=zm (Kd.N_elder' (yr HO594) (Kd.R_base ho24) hb);have HO600:=zm (Kd.R_lower (Kd.R_new' ho24 (Kd.R_lt (yr HO597))) (zE yhb));replace HO597:=zm (Kd.R_elder' (yr HO597) (Kd.R_base ho24) hb);replace HB:=ybs hb;clear hb ho24)|((with_reducible refine gate_dst (N:=12) rfl ?_);(try (refine gate_guard (by rfl) ?_;dsimp only));refine Kd.R_lit (Kd.int .i64) _ 3 ?hg (N:=12) ?hd (xs:=([0,0] : List Int)) (inner := [.int .i64 0, .int .i64 0]) (ok:=fun _=>True) (okp:=fun _=>True) ?hr ?hp (fun _ hk=>hk) trivial (Below.refl _ _) (Nat.le_refl _) (by simp) ?_;(case hd=>rfl);(case hg=>rfl);(case hr=>first|(go_simp;done)|(go_simp;rfl));(case hp=>exact (Reps.one (show Kd.M (Kd.int .i64) _ _ _ 0 [.int .i64 0] from rfl) (Reps.one (show Kd.M (Kd.int .i64) _ _ _ 0 [.int .i64 0] from rfl) (Reps.none _ _))));intro v602 w25 ho26 hb hg_ hnew_;clear hg_ hnew_;(first|rw [← Ny601.out] at ho26|(simp only [Int.reduceToNat] at ho26;rw [← Ny601.out] at ho26)|rw [show (List.replicate (Int.toNat 11) (0 : Int))=y601 from Ny601.out.symm] at ho26);replace HO594:=zm (Kd.N_elder' (yr HO594) (Kd.R_base ho26) hb);have HO603:=zm (Kd.R_lower (Kd.R_new' (Kd.R_new' ho26 (Kd.R_lt (yr HO597))) (Kd.R_lt (yr HO600))) (zE yhb));replace HO597:=zm (Kd.R_elder' (yr HO597) (Kd.R_base ho26) hb);replace HO600:=zm (Kd.R_elder' (yr HO600) (Kd.R_base ho26) hb);replace HB:=ybs hb;clear hb ho26)|((with_reducible refine gate_dst (N:=13) rfl ?_);(try (refine gate_guard (by rfl) ?_;dsimp only));refine Kd.R_lit (Kd.int .i64) _ 3 ?hg (N:=13) ?hd (xs:=([0,0,0,0] : List Int)) (inner := [.int .i64 0, .int .i64 0, .int .i64 0, .int .i64 0]) (ok:=fun _=>True) (okp:=fun _=>True) ?hr ?hp (fun _ hk=>hk) trivial (Below.refl _ _) (Nat.le_refl _) (by simp) ?_;(case hd=>rfl);(case hg=>rfl);(case hr=>first|(go_simp;done)|(go_simp;rfl));(case hp=>exact (Reps.one (show Kd.M (Kd.int .i64) _ _ _ 0 [.int .i64 0] from rfl) (Reps.one (show Kd.M (Kd.int .i64) _ _ _ 0 [.int .i64 0] from rfl) (Reps.one (show Kd.M (Kd.int .i64) _ _ _ 0 [.int .i64 0] from rfl) (Reps.one (show Kd.M (Kd.int .i64) _ _ _ 0 [.int .i64 0] from rfl) (Reps.none _ _))))));intro v605 w27 ho28 hb hg_ hnew_;clear hg_ hnew_;(first|rw [← Ny604.out] at ho28|(simp only [Int.reduceToNat] at ho28;rw [← Ny604.out] at ho28)|rw [show (List.replicate (Int.toNat 11) (0 : Int))=y604 from Ny604.out.symm] at ho28);replace HO594:=zm (Kd.N_elder' (yr HO594) (Kd.R_base ho28) hb);have HO606:=zm (Kd.R_lower (Kd.R_new' (Kd.R_new' (Kd.R_new' ho28 (Kd.R_lt (yr HO597))) (Kd.R_lt (yr HO600))) (Kd.R_lt (yr HO603))) (zE yhb));replace HO597:=zm (Kd.R_elder' (yr HO597) (Kd.R_base ho28) hb);replace HO600:=zm (Kd.R_elder' (yr HO600) (Kd.R_base ho28) hb);replace HO603:=zm (Kd.R_elder' (yr HO603) (Kd.R_base ho28) hb);replace HB:=ybs hb;clear hb ho28)|((with_reducible refine gate_dst (N:=14) rfl ?_);(try (refine gate_guard (by rfl) ?_;dsimp only));refine Kd.R_lit (Kd.int .i64) _ 3 ?hg (N:=14) ?hd (xs:=([0,0,0,0,0,0,0,0] : List Int)) (inner := [.int .i64 0, .int .i64 0, .int .i64 0, .int .i64 0, .int .i64 0, .int .i64 0, .int .i64 0, .int .i64 0]) (ok:=fun _=>True) (okp:=fun _=>True) ?hr ?hp (fun _ hk=>hk) trivial (Below.refl _ _) (Nat.le_refl _) (by simp) ?_;(case hd=>rfl);(case hg=>rfl);(case hr=>first|(go_simp;done)|(go_simp;rfl));(case hp=>exact (Reps.one (show Kd.M (Kd.int .i64) _ _ _ 0 [.int .i64 0] from rfl) (Reps.one (show Kd.M (Kd.int .i64) _ _ _ 0 [.int .i64 0] from rfl) (Reps.one (show Kd.M (Kd.int .i64) _ _ _ 0 [.int .i64 0] from rfl) (Reps.one (show Kd.M (Kd.int .i64) _ _ _ 0 [.int .i64 0] from rfl) (Reps.one (show Kd.M (Kd.int .i64) _ _ _ 0 [.int .i64 0] from rfl) (Reps.one (show Kd.M (Kd.int .i64) _ _ _ 0 [.int .i64 0] from rfl) (Reps.one (show Kd.M (Kd.int .i64) _ _ _ 0 [.int .i64 0] from rfl) (Reps.one (show Kd.M (Kd.int .i64) _ _ _ 0 [.int .i64 0] from rfl) (Reps.none _ _))))))))));intro v608 w29 ho30 hb hg_ hnew_;clear hg_ hnew_;(first|rw [← Ny607.out] at ho30|(simp only [Int.reduceToNat] at ho30;rw [← Ny607.out] at ho30)|rw [show (List.replicate (Int.toNat 11) (0 : Int))=y607 from Ny607.out.symm] at ho30);replace HO594:=zm (Kd.N_elder' (yr HO594) (Kd.R_base ho30) hb);have HO609:=zm (Kd.R_lower (Kd.R_new' (Kd.R_new' (Kd.R_new' (Kd.R_new' ho30 (Kd.R_lt (yr HO597))) (Kd.R_lt (yr HO600))) (Kd.R_lt (yr HO603))) (Kd.R_lt (yr HO606))) (zE yhb));replace HO597:=zm (Kd.R_elder' (yr HO597) (Kd.R_base ho30) hb);replace HO600:=zm (Kd.R_elder' (yr HO600) (Kd.R_base ho30) hb);replace HO603:=zm (Kd.R_elder' (yr HO603) (Kd.R_base ho30) hb);replace HO606:=zm (Kd.R_elder' (yr HO606) (Kd.R_base ho30) hb);replace HB:=ybs hb;clear hb ho30;obtain ⟨Ao31,co31,eo31⟩:=Kd.R_slice HO597.out;subst eo31;obtain ⟨Ao32,co32,eo32⟩:=Kd.R_slice HO600.out;subst eo32;obtain ⟨Ao33,co33,eo33⟩:=Kd.R_slice HO603.out;subst eo33;obtain ⟨Ao34,co34,eo34⟩:=Kd.R_slice HO606.out;subst eo34;obtain ⟨Ao35,co35,eo35⟩:=Kd.R_slice HO609.out;subst eo35)|((with_reducible refine gate_dst (N:=15) rfl ?_);(try (refine gate_guard (by rfl) ?_;dsimp only));refine Kd.N_lit (Kd.slice 3 (Kd.int .i64)) _ 49 ?hg (N' := 15) ?hd (xs:=([y595,y598,y601,y604,y607] : List (List Int))) (inner := [.slice Ao31 y595.length co31, .slice Ao32 y598.length co32, .slice Ao33 y601.length co33, .slice Ao34 y604.length co34, .slice Ao35 y607.length co35]) (ok:=(fun k_=>some k_≠(v593 : Value).ownBlock)) (okp:=(fun k_=>some k_≠(v593 : Value).ownBlock)) ?hr ?hp (fun _ hk=>hk) ((show ∀ k_,w29.heap.size≤k_→(fun k_=>some k_≠(v593 : Value).ownBlock) k_ from fun k_ hk=>Kd.fresh' (Kd.N_lt (yr HO594)) k_ hk) _ (Nat.le_refl _)) (Below.refl _ _) (Nat.le_refl _) (by simp) ?_;(case hd=>rfl);(case hg=>rfl);(case hr=>first|(go_simp;done)|(go_simp;rfl));(case hp=>exact (Reps.one (show Kd.FK (Kd.slice 3 (Kd.int .i64)) _ _ y595 [.slice Ao31 y595.length co31] from (Kd.FK_slice_mk (Kd.R_reads' (zG (ok' := (fun k_=>some k_≠(v593 : Value).ownBlock)) (Kd.R_apart' (HO597.out) (Kd.N_typed HO594.out) (by decide)) (fun k_ hk=>hk.2))).2.1 (Kd.R_F (zG (ok' := (fun k_=>some k_≠(v593 : Value).ownBlock)) (Kd.R_apart' (HO597.out) (Kd.N_typed HO594.out) (by decide)) (fun k_ hk=>hk.2))))) (Reps.one (show Kd.FK (Kd.slice 3 (Kd.int .i64)) _ _ y598 [.slice Ao32 y598.length co32] from (Kd.FK_slice_mk (Kd.R_reads' (zG (ok' := (fun k_=>some k_≠(v593 : Value).ownBlock)) (Kd.R_apart' (HO600.out) (Kd.N_typed HO594.out) (by decide)) (fun k_ hk=>hk.2))).2.1 (Kd.R_F (zG (ok' := (fun k_=>some k_≠(v593 : Value).ownBlock)) (Kd.R_apart' (HO600.out) (Kd.N_typed HO594.out) (by decide)) (fun k_ hk=>hk.2))))) (Reps.one (show Kd.FK (Kd.slice 3 (Kd.int .i64)) _ _ y601 [.slice Ao33 y601.length co33] from (Kd.FK_slice_mk (Kd.R_reads' (zG (ok' := (fun k_=>some k_≠(v593 : Value).ownBlock)) (Kd.R_apart' (HO603.out) (Kd.N_typed HO594.out) (by decide)) (fun k_ hk=>hk.2))).2.1 (Kd.R_F (zG (ok' := (fun k_=>some k_≠(v593 : Value).ownBlock)) (Kd.R_apart' (HO603.out) (Kd.N_typed HO594.out) (by decide)) (fun k_ hk=>hk.2))))) (Reps.one (show Kd.FK (Kd.slice 3 (Kd.int .i64)) _ _ y604 [.slice Ao34 y604.length co34] from (Kd.FK_slice_mk (Kd.R_reads' (zG (ok' := (fun k_=>some k_≠(v593 : Value).ownBlock)) (Kd.R_apart' (HO606.out) (Kd.N_typed HO594.out) (by decide)) (fun k_ hk=>hk.2))).2.1 (Kd.R_F (zG (ok' := (fun k_=>some k_≠(v593 : Value).ownBlock)) (Kd.R_apart' (HO606.out) (Kd.N_typed HO594.out) (by decide)) (fun k_ hk=>hk.2))))) (Reps.one (show Kd.FK (Kd.slice 3 (Kd.int .i64)) _ _ y607 [.slice Ao35 y607.length co35] from (Kd.FK_slice_mk (Kd.R_reads' (zG (ok' := (fun k_=>some k_≠(v593 : Value).ownBlock)) (Kd.R_apart' (HO609.out) (Kd.N_typed HO594.out) (by decide)) (fun k_ hk=>hk.2))).2.1 (Kd.R_F (zG (ok' := (fun k_=>some k_≠(v593 : Value).ownBlock)) (Kd.R_apart' (HO609.out) (Kd.N_typed HO594.out) (by decide)) (fun k_ hk=>hk.2))))) (Reps.none _ _)))))));intro v611 w36 ho37 hb hg_ hnew_;clear hg_ hnew_;(first|rw [← Ny610.out] at ho37|(simp only [Int.reduceToNat] at ho37;rw [← Ny610.out] at ho37)|rw [show (List.replicate (Int.toNat 11) (0 : Int))=y610 from Ny610.out.symm] at ho37);replace HO594:=zm (Kd.N_elder' (yr HO594) (Kd.N_base ho37) hb);have HO612:=zm (Kd.N_lower ho37 (zE yhb));replace HB:=ybs hb;clear HO597;clear HO600;clear HO603;clear HO606;clear HO609;clear hb ho37;obtain ⟨Ao38,co38,eo38⟩:=Kd.N_slice HO612.out;subst eo38)|((with_reducible refine gate_dst (N:=16) rfl ?_);(try (refine gate_guard (by rfl) ?_;dsimp only));refine Kd.N_lit (Kd.slice 49 (Kd.slice 3 (Kd.int .i64))) _ 22 ?hg (N' := 16) ?hd (xs:=([y610] : List (List (List Int)))) (inner := [.slice Ao38 y610.length co38]) (ok:=(fun k_=>some k_≠(v593 : Value).ownBlock)) (okp:=(fun k_=>some k_≠(v593 : Value).ownBlock)) ?hr ?hp (fun _ hk=>hk) ((show ∀ k_,w36.heap.size≤k_→(fun k_=>some k_≠(v593 : Value).ownBlock) k_ from fun k_ hk=>Kd.fresh' (Kd.N_lt (yr HO594)) k_ hk) _ (Nat.le_refl _)) (Below.refl _ _) (Nat.le_refl _) (by simp) ?_;(case hd=>rfl);(case hg=>rfl);(case hr=>first|(go_simp;done)|(go_simp;rfl));(case hp=>exact (Reps.one (show Kd.FK (Kd.slice 49 (Kd.slice 3 (Kd.int .i64))) _ _ y610 [.slice Ao38 y610.length co38] from (Kd.FK_slice_mk (Kd.N_reads' (Kd.N_mono (ok' := (fun k_=>some k_≠(v593 : Value).ownBlock)) (HO612.out) (fun k_ hk=>hk))).2.1 (Kd.N_F (Kd.N_mono (ok' := (fun k_=>some k_≠(v593 : Value).ownBlock)) (HO612.out) (fun k_ hk=>hk))))) (Reps.none _ _)));intro v614 w39 ho40 hb hg_ hnew_;clear hg_ hnew_;(first|rw [← Ny613.out] at ho40|(simp only [Int.reduceToNat] at ho40;rw [← Ny613.out] at ho40)|rw [show (List.replicate (Int.toNat 11) (0 : Int))=y613 from Ny613.out.symm] at ho40);replace HO594:=zm (Kd.N_elder' (yr HO594) (Kd.N_base ho40) hb);have HO615:=zm (Kd.N_lower ho40 (zE yhb));replace HB:=ybs hb;clear HO612;clear hb ho40;obtain ⟨Ao41,co41,eo41⟩:=Kd.N_slice HO615.out;subst eo41;obtain ⟨Ao42,co42,eo42⟩:=Kd.N_slice HO594.out;subst eo42)|((with_reducible refine gate_dst (N:=1) rfl ?_);(try (refine gate_guard (by rfl) ?_;dsimp only));refine ybx 1 #[.bool false, .slice none 0 0, .slice none 0 0] 25 ?_;intro gb616 hg w43 hbox hb;replace HO594:=zm (Kd.N_below (Kd.N_elderB (yr HO594) gb616 (Nat.le_of_eq hg.symm)) hb);replace HO615:=zm (Kd.N_below (Kd.N_elderB (yr HO615) gb616 (Nat.le_of_eq hg.symm)) hb);have BK616:=zm (hbox);have GW616:=ygw hg;have GE616:=ygw hg;replace HB:=ybs hb;clear hb hbox hg;obtain ⟨_,_,_,_,_,_⟩:=yc3 BK616)|((with_reducible refine gate_callee (f:=12) rfl ?_);refine ygl 20 Try.func12 #[.int .i64 11, .int .i64 1, .agg #[.bool true, .slice Ao42 y592.length co42, .slice Ao41 y613.length co41], .slice none 0 0] ?_;(refine (cpack_Write.calls k 11 1 true _ _ y592 _ _ y613 _ _ ([] : List (List Int)) t617 t620 _ ?side1 ?side2 ?side3 ?side4 ?side5 ?side6 A1.out).mono ?_);(case side1=>refine (Kd.N_reads' (e:=49) (base:=w.heap.size) (ok:=fun k_=>(some k_≠(.slice Ao41 y613.length co41 : Value).ownBlock∧k_≠gb616)) (n:=y592.length) (c:=co42) ?_).2.2;refine' Kd.N_mono ?own_ ?hk_;(case own_=>exact (yN0 HO594));(case hk_=>exact fun k_ hk_=>⟨hk_.1.2,hk_.2⟩));(case side2=>exact (Kd.N_reads' HO594.out).2.1);(case side3=>refine (Kd.N_reads' (e:=22) (base:=w.heap.size) (ok:=fun k_=>(some k_≠(.slice Ao42 y592.length co42 : Value).ownBlock∧k_≠gb616)) (n:=y613.length) (c:=co41) ?_).2.2;exact (yN0 HO615));(case side4=>exact (Kd.N_reads' HO615.out).2.1);(case side5=>exact Kd.C_nil _ _);(case side6=>exact Nat.le_refl _);rintro e w45 ⟨v618,rfl,ho0,hb⟩;refine ⟨_,rfl, ?_⟩;replace HO594:=zm (Kd.N_elder' (yN0 HO594) (Kd.R_base ho0) hb);replace HO615:=zm (Kd.N_elder' (yN0 HO615) (Kd.R_base ho0) hb);have HO619:=zm (Kd.R_lower ho0 (zE yhb));replace BK616:=zm (zF (g:=gb616) (o:=.cells #[.bool true, .slice Ao42 y592.length co42, .slice Ao41 y613.length co41] 25 (0,0)) (ykp BK616) hb);replace HB:=ybs hb;(try clear hb);(try clear ho0);obtain ⟨Ao46,co46,eo46⟩:=Kd.R_slice HO619.out;subst eo46)|((with_reducible refine gate_callee (f:=20) rfl ?_);refine ygl 25 Try.func20 #[.int .i64 11, .int .i64 1, .slice Ao46 t617.length co46, .slice none 0 0] ?_;(refine (cpack_Read.calls k 11 1 _ _ t617 _ _ ([] : List (List Int)) t621 t622 t625 t628 _ ?side1 ?side2 ?side3 ?side4 A2.out).mono ?_);(case side1=>exact yce (Kd.R_reads' HO619.out).2.2);(case side2=>exact (Kd.R_reads' HO619.out).2.1);(case side3=>exact Kd.C_nil _ _);(case side4=>exact Nat.le_refl _);rintro e w47 ⟨v623,v626,rfl,ho0,ho1,hb⟩;refine ⟨_,rfl, ?_⟩;have HO624:=zm (Kd.N_lower (Kd.N_mono (ok' := fun k_=>some k_≠(v626 : Value).ownBlock∧some k_≠(.slice Ao42 y592.length co42 : Value).ownBlock∧some k_≠(.slice Ao41 y613.length co41 : Value).ownBlock∧some k_≠(.slice Ao46 t617.length co46 : Value).ownBlock∧k_≠gb616) (Kd.S_N (Kd.S_bound (Kd.S_apart' ho0 (Kd.R_typed ho1) (by decide)))) (fun k_ hk_=>⟨hk_.1.2,(Kd.fresh' (Kd.N_lt (yr HO594)) k_ hk_.2.1),(Kd.fresh' (Kd.N_lt (yr HO615)) k_ hk_.2.1),(Kd.fresh' (Kd.R_lt (yr HO619)) k_ hk_.2.1),(Kd.freshB (yk BK616) k_ hk_.2.1)⟩)) (zE yhb));have HO627:=zm (Kd.N_lower (Kd.N_mono (ok' := fun k_=>some k_≠(v623 : Value).ownBlock∧some k_≠(.slice Ao42 y592.length co42 : Value).ownBlock∧some k_≠(.slice Ao41 y613.length co41 : Value).ownBlock∧some k_≠(.slice Ao46 t617.length co46 : Value).ownBlock∧k_≠gb616) (Kd.R_N (Kd.R_bound ho1)) (fun k_ hk_=>⟨hk_.1,(Kd.fresh' (Kd.N_lt (yr HO594)) k_ hk_.2.1),(Kd.fresh' (Kd.N_lt (yr HO615)) k_ hk_.2.1),(Kd.fresh' (Kd.R_lt (yr HO619)) k_ hk_.2.1),(Kd.freshB (yk BK616) k_ hk_.2.1)⟩)) (zE yhb));replace HO594:=zm (Kd.N_mono (Kd.N_told (Kd.N_told (Kd.N_old (yr HO594) hb) (Kd.S_base ho0)) (Kd.R_base ho1)) (fun _ h_=>h_.1));replace HO615:=zm (Kd.N_mono (Kd.N_told (Kd.N_told (Kd.N_old (yr HO615) hb) (Kd.S_base ho0)) (Kd.R_base ho1)) (fun _ h_=>h_.1));replace HO619:=yRb HO619 hb;replace BK616:=ybb BK616 hb;replace HB:=ybs hb;(try clear hb);(try clear ho0);(try clear ho1))|((with_reducible refine gate_dst (N:=4) rfl ?_);(try (refine gate_guard (by rfl) ?_;dsimp only));refine ybx 4 #[.bool false, .slice none 0 0, .slice none 0 0] 25 ?_;intro gb629 hg w48 hbox hb;replace HO594:=zm (Kd.N_below (Kd.N_elderB (yr HO594) gb629 (Nat.le_of_eq hg.symm)) hb);replace HO615:=zm (Kd.N_below (Kd.N_elderB (yr HO615) gb629 (Nat.le_of_eq hg.symm)) hb);replace HO619:=yRb HO619 hb;replace HO624:=zm (Kd.N_below (Kd.N_elderB (yr HO624) gb629 (Nat.le_of_eq hg.symm)) hb);replace HO627:=zm (Kd.N_below (Kd.N_elderB (yr HO627) gb629 (Nat.le_of_eq hg.symm)) hb);have BK629:=zm (hbox);have GW629:=ygw hg;have GE629:=ygw hg;replace HB:=ybs hb;have NB616_629:=ynl BK616 hg;have NB629_616:=yng BK616 hg;replace BK616:=ybb BK616 hb;clear hb hbox hg;have:=NB629_616.out;have:=NB616_629.out;obtain ⟨_,_,_,_,_,_⟩:=yc3 BK629;obtain ⟨Ao51,co51,eo51⟩:=Kd.N_slice HO624.out;subst eo51;obtain ⟨Ao52,co52,eo52⟩:=Kd.N_slice HO627.out;subst eo52)|((with_reducible refine gate_dst (N:=29) rfl ?_);(try (refine gate_guard (by rfl) ?_;dsimp only));refine Kd.R_make (Kd.int .u8) _ 5 rfl (N:=29) rfl 28 _ _ rfl 11 rfl rfl Try.underlying28 (.int .u8 0) 1 info5 rfl (by decide) (by omega) 0 (ok:=fun _=>True) (okp:=fun _=>True) rfl (fun _ hk=>hk) trivial (by omega) (by omega) (Below.refl _ _) (Nat.le_refl _) ?_;intro v631 w53 ho54 hb hg_ hnew_;clear hg_ hnew_;(first|rw [← Ny630.out] at ho54|(simp only [Int.reduceToNat] at ho54;rw [← Ny630.out] at ho54)|rw [show (List.replicate (Int.toNat 11) (0 : Int))=y630 from Ny630.out.symm] at ho54);replace HO594:=zm (Kd.N_elder' (yN0 HO594) (Kd.R_base ho54) hb);replace HO615:=zm (Kd.N_elder' (yN0 HO615) (Kd.R_base ho54) hb);replace HO624:=zm (Kd.N_elder' (yN0 HO624) (Kd.R_base ho54) hb);replace HO627:=zm (Kd.N_elder' (yN0 HO627) (Kd.R_base ho54) hb);have HO632:=zm (Kd.R_lower (Kd.R_new' ho54 (Kd.R_lt (yR1 HO619 BK629))) (zE yhb));replace HO619:=zm (Kd.R_elder' (yR1 HO619 BK629) (Kd.R_base ho54) hb);replace BK616:=ybb BK616 hb;replace BK629:=zm (zF (g:=gb629) (o:=.cells #[.bool t621, .slice Ao51 t622.length co51, .slice Ao52 t625.length co52] 25 (0,0)) (ykp BK629) hb);replace HB:=ybs hb;clear hb ho54)|((with_reducible refine gate_dst (N:=30) rfl ?_);(try (refine gate_guard (by rfl) ?_;dsimp only));refine Kd.R_lit (Kd.int .i64) _ 3 ?hg (N:=30) ?hd (xs:=([9,2,3,4,5] : List Int)) (inner := [.int .i64 9, .int .i64 2, .int .i64 3, .int .i64 4, .int .i64 5]) (ok:=fun _=>True) (okp:=fun _=>True) ?hr ?hp (fun _ hk=>hk) trivial (Below.refl _ _) (Nat.le_refl _) (by simp) ?_;(case hd=>rfl);(case hg=>rfl);(case hr=>first|(go_simp;done)|(go_simp;rfl));(case hp=>exact (Reps.one (show Kd.M (Kd.int .i64) _ _ _ 9 [.int .i64 9] from rfl) (Reps.one (show Kd.M (Kd.int .i64) _ _ _ 2 [.int .i64 2] from rfl) (Reps.one (show Kd.M (Kd.int .i64) _ _ _ 3 [.int .i64 3] from rfl) (Reps.one (show Kd.M (Kd.int .i64) _ _ _ 4 [.int .i64 4] from rfl) (Reps.one (show Kd.M (Kd.int .i64) _ _ _ 5 [.int .i64 5] from rfl) (Reps.none _ _)))))));intro v634 w55 ho56 hb hg_ hnew_;clear hg_ hnew_;(first|rw [← Ny633.out] at ho56|(simp only [Int.reduceToNat] at ho56;rw [← Ny633.out] at ho56)|rw [show (List.replicate (Int.toNat 11) (0 : Int))=y633 from Ny633.out.symm] at ho56);replace HO594:=zm (Kd.N_elder' (yr HO594) (Kd.R_base ho56) hb);replace HO615:=zm (Kd.N_elder' (yr HO615) (Kd.R_base ho56) hb);replace HO619:=yRb HO619 hb;replace HO624:=zm (Kd.N_elder' (yr HO624) (Kd.R_base ho56) hb);replace HO627:=zm (Kd.N_elder' (yr HO627) (Kd.R_base ho56) hb);replace HO632:=yRb HO632 hb;have HO635:=zm (Kd.R_lower ho56 (zE yhb));replace BK616:=ybb BK616 hb;replace BK629:=ybb BK629 hb;replace HB:=ybs hb;clear hb ho56;obtain ⟨Ao57,co57,eo57⟩:=Kd.R_slice HO635.out;subst eo57)|((with_reducible refine gate_dst (N:=31) rfl ?_);(try (refine gate_guard (by rfl) ?_;dsimp only));refine Kd.N_lit (Kd.slice 3 (Kd.int .i64)) _ 49 ?hg (N' := 31) ?hd (xs:=([y633] : List (List Int))) (inner := [.slice Ao57 y633.length co57]) (ok:=(fun k_=>some k_≠(.slice Ao42 y592.length co42 : Value).ownBlock∧some k_≠(.slice Ao41 y613.length co41 : Value).ownBlock∧some k_≠(.slice Ao46 t617.length co46 : Value).ownBlock∧some k_≠(.slice Ao51 t622.length co51 : Value).ownBlock∧some k_≠(.slice Ao52 t625.length co52 : Value).ownBlock∧some k_≠(v631 : Value).ownBlock∧k_≠gb616∧k_≠gb629)) (okp:=(fun k_=>some k_≠(.slice Ao42 y592.length co42 : Value).ownBlock∧some k_≠(.slice Ao41 y613.length co41 : Value).ownBlock∧some k_≠(.slice Ao46 t617.length co46 : Value).ownBlock∧some k_≠(.slice Ao51 t622.length co51 : Value).ownBlock∧some k_≠(.slice Ao52 t625.length co52 : Value).ownBlock∧some k_≠(v631 : Value).ownBlock∧k_≠gb616∧k_≠gb629)) ?hr ?hp (fun _ hk=>hk) ((show ∀ k_,w55.heap.size≤k_→(fun k_=>some k_≠(.slice Ao42 y592.length co42 : Value).ownBlock∧some k_≠(.slice Ao41 y613.length co41 : Value).ownBlock∧some k_≠(.slice Ao46 t617.length co46 : Value).ownBlock∧some k_≠(.slice Ao51 t622.length co51 : Value).ownBlock∧some k_≠(.slice Ao52 t625.length co52 : Value).ownBlock∧some k_≠(v631 : Value).ownBlock∧k_≠gb616∧k_≠gb629) k_ from fun k_ hk=>⟨Kd.fresh' (Kd.N_lt (yr HO594)) k_ hk,Kd.fresh' (Kd.N_lt (yr HO615)) k_ hk,Kd.fresh' (Kd.R_lt (yr HO619)) k_ hk,Kd.fresh' (Kd.N_lt (yr HO624)) k_ hk,Kd.fresh' (Kd.N_lt (yr HO627)) k_ hk,Kd.fresh' (Kd.R_lt (yr HO632)) k_ hk,Kd.freshB (yk BK616) k_ hk,Kd.freshB (yk BK629) k_ hk⟩) _ (Nat.le_refl _)) (Below.refl _ _) (Nat.le_refl _) (by simp) ?_;(case hd=>rfl);(case hg=>rfl);(case hr=>first|(go_simp;done)|(go_simp;rfl));(case hp=>exact (Reps.one (show Kd.FK (Kd.slice 3 (Kd.int .i64)) _ _ y633 [.slice Ao57 y633.length co57] from (Kd.FK_slice_mk (Kd.R_reads' (zG (ok' := (fun k_=>some k_≠(.slice Ao42 y592.length co42 : Value).ownBlock∧some k_≠(.slice Ao41 y613.length co41 : Value).ownBlock∧some k_≠(.slice Ao46 t617.length co46 : Value).ownBlock∧some k_≠(.slice Ao51 t622.length co51 : Value).ownBlock∧some k_≠(.slice Ao52 t625.length co52 : Value).ownBlock∧some k_≠(v631 : Value).ownBlock∧k_≠gb616∧k_≠gb629)) (Kd.R_types (Kd.R_types (Kd.R_apart' (Kd.R_apart' (Kd.R_apart' (Kd.R_apart' (Kd.R_apart' (Kd.R_apart' (HO635.out) (Kd.N_typed HO594.out) (by decide)) (Kd.N_typed HO615.out) (by decide)) (Kd.R_typed HO619.out) (by decide)) (Kd.N_typed HO624.out) (by decide)) (Kd.N_typed HO627.out) (by decide)) (Kd.R_typed HO632.out) (by decide)) BK616.out (by decide)) BK629.out (by decide)) (fun k_ hk=>⟨hk.1.1.1.1.1.1.1.2,⟨hk.1.1.1.1.1.1.2,⟨hk.1.1.1.1.1.2,⟨hk.1.1.1.1.2,⟨hk.1.1.1.2,⟨hk.1.1.2,⟨hk.1.2,hk.2⟩⟩⟩⟩⟩⟩⟩))).2.1 (Kd.R_F (zG (ok' := (fun k_=>some k_≠(.slice Ao42 y592.length co42 : Value).ownBlock∧some k_≠(.slice Ao41 y613.length co41 : Value).ownBlock∧some k_≠(.slice Ao46 t617.length co46 : Value).ownBlock∧some k_≠(.slice Ao51 t622.length co51 : Value).ownBlock∧some k_≠(.slice Ao52 t625.length co52 : Value).ownBlock∧some k_≠(v631 : Value).ownBlock∧k_≠gb616∧k_≠gb629)) (Kd.R_types (Kd.R_types (Kd.R_apart' (Kd.R_apart' (Kd.R_apart' (Kd.R_apart' (Kd.R_apart' (Kd.R_apart' (HO635.out) (Kd.N_typed HO594.out) (by decide)) (Kd.N_typed HO615.out) (by decide)) (Kd.R_typed HO619.out) (by decide)) (Kd.N_typed HO624.out) (by decide)) (Kd.N_typed HO627.out) (by decide)) (Kd.R_typed HO632.out) (by decide)) BK616.out (by decide)) BK629.out (by decide)) (fun k_ hk=>⟨hk.1.1.1.1.1.1.1.2,⟨hk.1.1.1.1.1.1.2,⟨hk.1.1.1.1.1.2,⟨hk.1.1.1.1.2,⟨hk.1.1.1.2,⟨hk.1.1.2,⟨hk.1.2,hk.2⟩⟩⟩⟩⟩⟩⟩))))) (Reps.none _ _)));intro v637 w58 ho59 hb hg_ hnew_;clear hg_ hnew_;(first|rw [← Ny636.out] at ho59|(simp only [Int.reduceToNat] at ho59;rw [← Ny636.out] at ho59)|rw [show (List.replicate (Int.toNat 11) (0 : Int))=y636 from Ny636.out.symm] at ho59);replace HO594:=zm (Kd.N_elder' (yr HO594) (Kd.N_base ho59) hb);replace HO615:=zm (Kd.N_elder' (yr HO615) (Kd.N_base ho59) hb);replace HO619:=yRb HO619 hb;replace HO624:=zm (Kd.N_elder' (yr HO624) (Kd.N_base ho59) hb);replace HO627:=zm (Kd.N_elder' (yr HO627) (Kd.N_base ho59) hb);replace HO632:=yRb HO632 hb;have HO638:=zm (Kd.N_lower ho59 (zE yhb));replace BK616:=ybb BK616 hb;replace BK629:=ybb BK629 hb;replace HB:=ybs hb;clear HO635;clear hb ho59;obtain ⟨Ao60,co60,eo60⟩:=Kd.R_slice HO632.out;subst eo60;obtain ⟨Ao61,co61,eo61⟩:=Kd.N_slice HO638.out;subst eo61)|((with_reducible refine gate_callee (f:=20) rfl ?_);refine ygl 32 Try.func20 #[.int .i64 11, .int .i64 1, .slice Ao60 y630.length co60, .slice Ao61 y636.length co61] ?_;(with_reducible refine (cpack_Read.calls k 11 1 _ _ y630 _ _ y636 false t640 t643 t646 _ ?side1 ?side2 ?side3 ?side4 A3.out).mono ?_);(case side1=>exact yce (Kd.R_reads' HO632.out).2.2);(case side2=>exact (Kd.R_reads' HO632.out).2.1);(case side3=>exact yce (Kd.N_reads' HO638.out).2.2);(case side4=>exact (Kd.N_reads' HO638.out).2.1);rintro e w62 ⟨v641,v644,rfl,ho0,ho1,hb⟩;refine ⟨_,rfl, ?_⟩;have HO642:=zm (Kd.N_lower (Kd.N_mono (ok' := fun k_=>some k_≠(v644 : Value).ownBlock∧some k_≠(.slice Ao42 y592.length co42 : Value).ownBlock∧some k_≠(.slice Ao41 y613.length co41 : Value).ownBlock∧some k_≠(.slice Ao46 t617.length co46 : Value).ownBlock∧some k_≠(.slice Ao51 t622.length co51 : Value).ownBlock∧some k_≠(.slice Ao52 t625.length co52 : Value).ownBlock∧some k_≠(.slice Ao60 y630.length co60 : Value).ownBlock∧some k_≠(.slice Ao61 y636.length co61 : Value).ownBlock∧k_≠gb616∧k_≠gb629) (Kd.S_N (Kd.S_bound (Kd.S_apart' ho0 (Kd.R_typed ho1) (by decide)))) (fun k_ hk_=>⟨hk_.1.2,(Kd.fresh' (Kd.N_lt (yr HO594)) k_ hk_.2.1),(Kd.fresh' (Kd.N_lt (yr HO615)) k_ hk_.2.1),(Kd.fresh' (Kd.R_lt (yr HO619)) k_ hk_.2.1),(Kd.fresh' (Kd.N_lt (yr HO624)) k_ hk_.2.1),(Kd.fresh' (Kd.N_lt (yr HO627)) k_ hk_.2.1),(Kd.fresh' (Kd.R_lt (yr HO632)) k_ hk_.2.1),(Kd.fresh' (Kd.N_lt (yr HO638)) k_ hk_.2.1),(Kd.freshB (yk BK616) k_ hk_.2.1),(Kd.freshB (yk BK629) k_ hk_.2.1)⟩)) (zE yhb));have HO645:=zm (Kd.N_lower (Kd.N_mono (ok' := fun k_=>some k_≠(v641 : Value).ownBlock∧some k_≠(.slice Ao42 y592.length co42 : Value).ownBlock∧some k_≠(.slice Ao41 y613.length co41 : Value).ownBlock∧some k_≠(.slice Ao46 t617.length co46 : Value).ownBlock∧some k_≠(.slice Ao51 t622.length co51 : Value).ownBlock∧some k_≠(.slice Ao52 t625.length co52 : Value).ownBlock∧some k_≠(.slice Ao60 y630.length co60 : Value).ownBlock∧some k_≠(.slice Ao61 y636.length co61 : Value).ownBlock∧k_≠gb616∧k_≠gb629) (Kd.R_N (Kd.R_bound ho1)) (fun k_ hk_=>⟨hk_.1,(Kd.fresh' (Kd.N_lt (yr HO594)) k_ hk_.2.1),(Kd.fresh' (Kd.N_lt (yr HO615)) k_ hk_.2.1),(Kd.fresh' (Kd.R_lt (yr HO619)) k_ hk_.2.1),(Kd.fresh' (Kd.N_lt (yr HO624)) k_ hk_.2.1),(Kd.fresh' (Kd.N_lt (yr HO627)) k_ hk_.2.1),(Kd.fresh' (Kd.R_lt (yr HO632)) k_ hk_.2.1),(Kd.fresh' (Kd.N_lt (yr HO638)) k_ hk_.2.1),(Kd.freshB (yk BK616) k_ hk_.2.1),(Kd.freshB (yk BK629) k_ hk_.2.1)⟩)) (zE yhb));replace HO594:=zm (Kd.N_mono (Kd.N_told (Kd.N_told (Kd.N_old (yr HO594) hb) (Kd.S_base ho0)) (Kd.R_base ho1)) (fun _ h_=>h_.1));replace HO615:=zm (Kd.N_mono (Kd.N_told (Kd.N_told (Kd.N_old (yr HO615) hb) (Kd.S_base ho0)) (Kd.R_base ho1)) (fun _ h_=>h_.1));replace HO619:=yRb HO619 hb;replace HO624:=zm (Kd.N_mono (Kd.N_told (Kd.N_told (Kd.N_old (yr HO624) hb) (Kd.S_base ho0)) (Kd.R_base ho1)) (fun _ h_=>h_.1));replace HO627:=zm (Kd.N_mono (Kd.N_told (Kd.N_told (Kd.N_old (yr HO627) hb) (Kd.S_base ho0)) (Kd.R_base ho1)) (fun _ h_=>h_.1));replace HO632:=yRb HO632 hb;replace HO638:=zm (Kd.N_mono (Kd.N_told (Kd.N_told (Kd.N_old (yr HO638) hb) (Kd.S_base ho0)) (Kd.R_base ho1)) (fun _ h_=>h_.1));replace BK616:=ybb BK616 hb;replace BK629:=ybb BK629 hb;replace HB:=ybs hb;(try clear hb);(try clear ho0);(try clear ho1))|((with_reducible refine gate_dst (N:=6) rfl ?_);(try (refine gate_guard (by rfl) ?_;dsimp only));refine ybx 6 #[.bool false, .slice none 0 0, .slice none 0 0] 25 ?_;intro gb647 hg w63 hbox hb;replace HO594:=zm (Kd.N_below (Kd.N_elderB (yr HO594) gb647 (Nat.le_of_eq hg.symm)) hb);replace HO615:=zm (Kd.N_below (Kd.N_elderB (yr HO615) gb647 (Nat.le_of_eq hg.symm)) hb);replace HO619:=yRb HO619 hb;replace HO624:=zm (Kd.N_below (Kd.N_elderB (yr HO624) gb647 (Nat.le_of_eq hg.symm)) hb);replace HO627:=zm (Kd.N_below (Kd.N_elderB (yr HO627) gb647 (Nat.le_of_eq hg.symm)) hb);replace HO632:=yRb HO632 hb;replace HO638:=zm (Kd.N_below (Kd.N_elderB (yr HO638) gb647 (Nat.le_of_eq hg.symm)) hb);replace HO642:=zm (Kd.N_below (Kd.N_elderB (yr HO642) gb647 (Nat.le_of_eq hg.symm)) hb);replace HO645:=zm (Kd.N_below (Kd.N_elderB (yr HO645) gb647 (Nat.le_of_eq hg.symm)) hb);have BK647:=zm (hbox);have GW647:=ygw hg;have GE647:=ygw hg;replace HB:=ybs hb;have NB616_647:=ynl BK616 hg;have NB647_616:=yng BK616 hg;replace BK616:=ybb BK616 hb;have NB629_647:=ynl BK629 hg;have NB647_629:=yng BK629 hg;replace BK629:=ybb BK629 hb;clear hb hbox hg;have:=NB647_616.out;have:=NB616_647.out;have:=NB647_629.out;have:=NB629_647.out;obtain ⟨_,_,_,_,_,_⟩:=yc3 BK647;obtain ⟨Ao67,co67,eo67⟩:=Kd.N_slice HO642.out;subst eo67;obtain ⟨Ao68,co68,eo68⟩:=Kd.N_slice HO645.out;subst eo68))
     obtain ⟨w69,hw_⟩ : ∃ x,x=(((w63.setCell ⟨gb647,0,none⟩ (.bool false)).setCell ⟨gb647,1,none⟩ (.slice Ao67 t640.length co67)).setCell ⟨gb647,2,none⟩ (.slice Ao68 t643.length co68)):=⟨_,rfl⟩
     rw [← hw_]
     replace HO594 : Aside0 (Kd.N (Kd.slice 3 (Kd.int .i64)) 49 w69 w.heap.size (fun k_=>some k_≠(.slice Ao41 y613.length co41 : Value).ownBlock∧some k_≠(.slice Ao46 t617.length co46 : Value).ownBlock∧some k_≠(.slice Ao51 t622.length co51 : Value).ownBlock∧some k_≠(.slice Ao52 t625.length co52 : Value).ownBlock∧some k_≠(.slice Ao60 y630.length co60 : Value).ownBlock∧some k_≠(.slice Ao61 y636.length co61 : Value).ownBlock∧some k_≠(.slice Ao67 t640.length co67 : Value).ownBlock∧some k_≠(.slice Ao68 t643.length co68 : Value).ownBlock∧k_≠gb616∧k_≠gb629∧k_≠gb647) (.slice Ao42 y592.length co42) y592):=⟨by rw [hw_];exact (yN0 HO594)⟩
     replace HO615 : Aside0 (Kd.N (Kd.slice 49 (Kd.slice 3 (Kd.int .i64))) 22 w69 w.heap.size (fun k_=>some k_≠(.slice Ao42 y592.length co42 : Value).ownBlock∧some k_≠(.slice Ao46 t617.length co46 : Value).ownBlock∧some k_≠(.slice Ao51 t622.length co51 : Value).ownBlock∧some k_≠(.slice Ao52 t625.length co52 : Value).ownBlock∧some k_≠(.slice Ao60 y630.length co60 : Value).ownBlock∧some k_≠(.slice Ao61 y636.length co61 : Value).ownBlock∧some k_≠(.slice Ao67 t640.length co67 : Value).ownBlock∧some k_≠(.slice Ao68 t643.length co68 : Value).ownBlock∧k_≠gb616∧k_≠gb629∧k_≠gb647) (.slice Ao41 y613.length co41) y613):=⟨by rw [hw_];exact (yN0 HO615)⟩
     replace HO619 : Aside0 (Kd.R (Kd.int .u8) 5 w69 w.heap.size (fun k_=>some k_≠(.slice Ao60 y630.length co60 : Value).ownBlock) (.slice Ao46 t617.length co46) t617):=⟨by rw [hw_];exact (yR1 HO619 BK647)⟩
     replace HO624 : Aside0 (Kd.N (Kd.slice 3 (Kd.int .i64)) 49 w69 w.heap.size (fun k_=>some k_≠(.slice Ao42 y592.length co42 : Value).ownBlock∧some k_≠(.slice Ao41 y613.length co41 : Value).ownBlock∧some k_≠(.slice Ao46 t617.length co46 : Value).ownBlock∧some k_≠(.slice Ao52 t625.length co52 : Value).ownBlock∧some k_≠(.slice Ao60 y630.length co60 : Value).ownBlock∧some k_≠(.slice Ao61 y636.length co61 : Value).ownBlock∧some k_≠(.slice Ao67 t640.length co67 : Value).ownBlock∧some k_≠(.slice Ao68 t643.length co68 : Value).ownBlock∧k_≠gb616∧k_≠gb629∧k_≠gb647) (.slice Ao51 t622.length co51) t622):=⟨by rw [hw_];exact (yN0 HO624)⟩
     replace HO627 : Aside0 (Kd.N (Kd.slice 49 (Kd.slice 3 (Kd.int .i64))) 22 w69 w.heap.size (fun k_=>some k_≠(.slice Ao42 y592.length co42 : Value).ownBlock∧some k_≠(.slice Ao41 y613.length co41 : Value).ownBlock∧some k_≠(.slice Ao46 t617.length co46 : Value).ownBlock∧some k_≠(.slice Ao51 t622.length co51 : Value).ownBlock∧some k_≠(.slice Ao60 y630.length co60 : Value).ownBlock∧some k_≠(.slice Ao61 y636.length co61 : Value).ownBlock∧some k_≠(.slice Ao67 t640.length co67 : Value).ownBlock∧some k_≠(.slice Ao68 t643.length co68 : Value).ownBlock∧k_≠gb616∧k_≠gb629∧k_≠gb647) (.slice Ao52 t625.length co52) t625):=⟨by rw [hw_];exact (yN0 HO627)⟩
     replace HO632 : Aside0 (Kd.R (Kd.int .u8) 5 w69 w.heap.size (fun k_=>some k_≠(.slice Ao46 t617.length co46 : Value).ownBlock) (.slice Ao60 y630.length co60) y630):=⟨by rw [hw_];exact (yR1 HO632 BK647)⟩
     replace HO638 : Aside0 (Kd.N (Kd.slice 3 (Kd.int .i64)) 49 w69 w.heap.size (fun k_=>some k_≠(.slice Ao42 y592.length co42 : Value).ownBlock∧some k_≠(.slice Ao41 y613.length co41 : Value).ownBlock∧some k_≠(.slice Ao46 t617.length co46 : Value).ownBlock∧some k_≠(.slice Ao51 t622.length co51 : Value).ownBlock∧some k_≠(.slice Ao52 t625.length co52 : Value).ownBlock∧some k_≠(.slice Ao60 y630.length co60 : Value).ownBlock∧some k_≠(.slice Ao67 t640.length co67 : Value).ownBlock∧some k_≠(.slice Ao68 t643.length co68 : Value).ownBlock∧k_≠gb616∧k_≠gb629∧k_≠gb647) (.slice Ao61 y636.length co61) y636):=⟨by rw [hw_];exact (yN0 HO638)⟩
     replace HO642 : Aside0 (Kd.N (Kd.slice 3 (Kd.int .i64)) 49 w69 w.heap.size (fun k_=>some k_≠(.slice Ao42 y592.length co42 : Value).ownBlock∧some k_≠(.slice Ao41 y613.length co41 : Value).ownBlock∧some k_≠(.slice Ao46 t617.length co46 : Value).ownBlock∧some k_≠(.slice Ao51 t622.length co51 : Value).ownBlock∧some k_≠(.slice Ao52 t625.length co52 : Value).ownBlock∧some k_≠(.slice Ao60 y630.length co60 : Value).ownBlock∧some k_≠(.slice Ao61 y636.length co61 : Value).ownBlock∧some k_≠(.slice Ao68 t643.length co68 : Value).ownBlock∧k_≠gb616∧k_≠gb629∧k_≠gb647) (.slice Ao67 t640.length co67) t640):=⟨by rw [hw_];exact (yN0 HO642)⟩
     replace HO645 : Aside0 (Kd.N (Kd.slice 49 (Kd.slice 3 (Kd.int .i64))) 22 w69 w.heap.size (fun k_=>some k_≠(.slice Ao42 y592.length co42 : Value).ownBlock∧some k_≠(.slice Ao41 y613.length co41 : Value).ownBlock∧some k_≠(.slice Ao46 t617.length co46 : Value).ownBlock∧some k_≠(.slice Ao51 t622.length co51 : Value).ownBlock∧some k_≠(.slice Ao52 t625.length co52 : Value).ownBlock∧some k_≠(.slice Ao60 y630.length co60 : Value).ownBlock∧some k_≠(.slice Ao61 y636.length co61 : Value).ownBlock∧some k_≠(.slice Ao67 t640.length co67 : Value).ownBlock∧k_≠gb616∧k_≠gb629∧k_≠gb647) (.slice Ao68 t643.length co68) t643):=⟨by rw [hw_];exact (yN0 HO645)⟩
     replace BK616 : Aside0 (w69.heap[gb616]? = some (.cells #[.bool true, .slice Ao42 y592.length co42, .slice Ao41 y613.length co41] 25 (0,0))):=⟨by rw [hw_];exact (yk BK616)⟩
     replace BK629 : Aside0 (w69.heap[gb629]? = some (.cells #[.bool t621, .slice Ao51 t622.length co51, .slice Ao52 t625.length co52] 25 (0,0))):=⟨by rw [hw_];exact (yk BK629)⟩
     replace BK647 : Aside0 (w69.heap[gb647]? = some (.cells #[.bool false, .slice Ao67 t640.length co67, .slice Ao68 t643.length co68] 25 (0,0))):=⟨by rw [hw_];exact (ykp BK647)⟩
     replace HB : Aside0 (Below w.heap.size w w69):=⟨by rw [hw_];exact (yhb)⟩
     clear hw_
     replace HO594:=zm (Kd.N_drew HO594.out)
     replace HO615:=zm (Kd.N_drew HO615.out)
     replace HO619:=zm (zq HO619.out)
     replace HO624:=zm (Kd.N_drew HO624.out)
     replace HO627:=zm (Kd.N_drew HO627.out)
     replace HO632:=zm (zq HO632.out)
     replace HO638:=zm (Kd.N_drew HO638.out)
     replace HO642:=zm (Kd.N_drew HO642.out)
     replace HO645:=zm (Kd.N_drew HO645.out)
     replace BK616:=zm (zj BK616.out)
     replace BK629:=zm (zj BK629.out)
     replace BK647:=zm (zj BK647.out)
     replace HB:=zm (zf HB.out)
     refine yst (fun w' => w'.cell? ⟨gb629,0,none⟩=some (.bool t621)∧w'.cell? ⟨gb629,1,none⟩=some (.slice Ao51 t622.length co51)∧w'.cell? ⟨gb629,2,none⟩=some (.slice Ao52 t625.length co52)∧w'.cell? ⟨gb616,0,none⟩=some (.bool true)∧w'.cell? ⟨gb616,1,none⟩=some (.slice Ao42 y592.length co42)∧w'.cell? ⟨gb616,2,none⟩=some (.slice Ao41 y613.length co41)∧w'.cell? ⟨gb647,0,none⟩=some (.bool false)∧w'.cell? ⟨gb647,1,none⟩=some (.slice Ao67 t640.length co67)∧w'.cell? ⟨gb647,2,none⟩=some (.slice Ao68 t643.length co68)) [] 39 psalterylaw13_knows.tab5 psalterylaw13_knows.bits5 (fun hHeld HT_ HW_ => ?_)
     generalize w69.drew=w70 at HO594 HO615 HO619 HO624 HO627 HO632 HO638 HO642 HO645 BK616 BK629 BK647 HB hHeld ⊢
     refine yp 0 35 HT_ ?_
     refine yp 1 36 HT_ ?_
     refine yp 2 37 HT_ ?_
     refine yp 3 38 HT_ ?_
     refine yp 4 39 HT_ ?_
     refine yp 5 40 HT_ ?_
     refine yp 6 41 HT_ ?_
     refine yp 7 42 HT_ ?_
     refine yl 8 43 HT_ HW_ hHeld ?_
     refine yl 10 45 HT_ HW_ hHeld ?_
     refine yw 9 44 HT_ (fun K hK => ?_)
     refine ygs Try.func14 #[.agg #[.bool t621, .slice Ao51 t622.length co51, .slice Ao52 t625.length co52]] ?_
     with_reducible refine (psalterylaw13_As.calls t621 (fun k_=>(some k_≠(.slice Ao42 y592.length co42 : Value).ownBlock∧(some k_≠(.slice Ao41 y613.length co41 : Value).ownBlock∧(some k_≠(.slice Ao46 t617.length co46 : Value).ownBlock∧(some k_≠(.slice Ao52 t625.length co52 : Value).ownBlock∧(some k_≠(.slice Ao60 y630.length co60 : Value).ownBlock∧(some k_≠(.slice Ao61 y636.length co61 : Value).ownBlock∧(some k_≠(.slice Ao67 t640.length co67 : Value).ownBlock∧(some k_≠(.slice Ao68 t643.length co68 : Value).ownBlock∧(k_≠gb616∧(k_≠gb629∧k_≠gb647))))))))))) _ _ t622 (fun k_=>(some k_≠(.slice Ao42 y592.length co42 : Value).ownBlock∧(some k_≠(.slice Ao41 y613.length co41 : Value).ownBlock∧(some k_≠(.slice Ao46 t617.length co46 : Value).ownBlock∧(some k_≠(.slice Ao51 t622.length co51 : Value).ownBlock∧(some k_≠(.slice Ao60 y630.length co60 : Value).ownBlock∧(some k_≠(.slice Ao61 y636.length co61 : Value).ownBlock∧(some k_≠(.slice Ao67 t640.length co67 : Value).ownBlock∧(some k_≠(.slice Ao68 t643.length co68 : Value).ownBlock∧(k_≠gb616∧(k_≠gb629∧k_≠gb647))))))))))) _ _ t625 t648 t649 t652 _ ?side1 ?side2 A6.out).mono ?_
     (case side1=>exact Kd.N_V (HO624.out))
     (case side2=>exact Kd.N_V (HO627.out))
     rintro e w71 ⟨v650,v653,rfl,ho0,ho1,hb⟩
     refine ⟨_,rfl, ?_⟩
     replace HO624:=yNb HO624 hb
     replace HO627:=yNb HO627 hb
     have HO651:=yho (fun k_=>some k_≠(.slice Ao42 y592.length co42 : Value).ownBlock∧some k_≠(.slice Ao41 y613.length co41 : Value).ownBlock∧some k_≠(.slice Ao46 t617.length co46 : Value).ownBlock∧some k_≠(.slice Ao60 y630.length co60 : Value).ownBlock∧some k_≠(.slice Ao61 y636.length co61 : Value).ownBlock∧some k_≠(.slice Ao67 t640.length co67 : Value).ownBlock∧some k_≠(.slice Ao68 t643.length co68 : Value).ownBlock∧k_≠gb616∧k_≠gb629∧k_≠gb647) ho0 (fun k_ hk_=>⟨yoN HO594 hk_,yoN HO615 hk_,yoR HO619 hk_,yoR HO632 hk_,yoN HO638 hk_,yoN HO642 hk_,yoN HO645 hk_,yoB BK616 hk_,yoB BK629 hk_,yoB BK647 hk_⟩)
     have HO654:=yho (fun k_=>some k_≠(.slice Ao42 y592.length co42 : Value).ownBlock∧some k_≠(.slice Ao41 y613.length co41 : Value).ownBlock∧some k_≠(.slice Ao46 t617.length co46 : Value).ownBlock∧some k_≠(.slice Ao60 y630.length co60 : Value).ownBlock∧some k_≠(.slice Ao61 y636.length co61 : Value).ownBlock∧some k_≠(.slice Ao67 t640.length co67 : Value).ownBlock∧some k_≠(.slice Ao68 t643.length co68 : Value).ownBlock∧k_≠gb616∧k_≠gb629∧k_≠gb647) ho1 (fun k_ hk_=>⟨yoN HO594 hk_,yoN HO615 hk_,yoR HO619 hk_,yoR HO632 hk_,yoN HO638 hk_,yoN HO642 hk_,yoN HO645 hk_,yoB BK616 hk_,yoB BK629 hk_,yoB BK647 hk_⟩)
     replace HO594:=yNb HO594 hb
     replace HO615:=yNb HO615 hb
     replace HO619:=yRb HO619 hb
     replace HO632:=yRb HO632 hb
     replace HO638:=yNb HO638 hb
     replace HO642:=yNb HO642 hb
     replace HO645:=yNb HO645 hb
     replace BK616:=ybb BK616 hb
     replace BK629:=ybb BK629 hb
     replace BK647:=ybb BK647 hb
     replace HB:=ybs hb
     (try clear hb)
     (try clear ho0)
     (try clear ho1)
     refine hK.out _ _ yH (fun hHeld => ?_)
     clear hK K
     refine ym (some 44) ?_
     refine yw 11 46 HT_ (fun K hK => ?_)
     refine ygs Try.func14 #[.agg #[.bool true, .slice Ao42 y592.length co42, .slice Ao41 y613.length co41]] ?_
     with_reducible refine (psalterylaw13_As.calls true (fun k_=>(some k_≠(.slice Ao41 y613.length co41 : Value).ownBlock∧(some k_≠(.slice Ao46 t617.length co46 : Value).ownBlock∧(some k_≠(.slice Ao51 t622.length co51 : Value).ownBlock∧(some k_≠(.slice Ao52 t625.length co52 : Value).ownBlock∧(some k_≠(.slice Ao60 y630.length co60 : Value).ownBlock∧(some k_≠(.slice Ao61 y636.length co61 : Value).ownBlock∧(some k_≠(.slice Ao67 t640.length co67 : Value).ownBlock∧(some k_≠(.slice Ao68 t643.length co68 : Value).ownBlock∧(k_≠gb616∧(k_≠gb629∧k_≠gb647))))))))))) _ _ y592 (fun k_=>(some k_≠(.slice Ao42 y592.length co42 : Value).ownBlock∧(some k_≠(.slice Ao46 t617.length co46 : Value).ownBlock∧(some k_≠(.slice Ao51 t622.length co51 : Value).ownBlock∧(some k_≠(.slice Ao52 t625.length co52 : Value).ownBlock∧(some k_≠(.slice Ao60 y630.length co60 : Value).ownBlock∧(some k_≠(.slice Ao61 y636.length co61 : Value).ownBlock∧(some k_≠(.slice Ao67 t640.length co67 : Value).ownBlock∧(some k_≠(.slice Ao68 t643.length co68 : Value).ownBlock∧(k_≠gb616∧(k_≠gb629∧k_≠gb647))))))))))) _ _ y613 t655 t656 t659 _ ?side1 ?side2 A7.out).mono ?_
     (case side1=>exact Kd.N_V (HO594.out))
     (case side2=>exact Kd.N_V (HO615.out))
     rintro e w72 ⟨v657,v660,rfl,ho0,ho1,hb⟩
     refine ⟨_,rfl, ?_⟩
     replace HO594:=yNb HO594 hb
     replace HO615:=yNb HO615 hb
     replace HO651:=yVb HO651 hb
     replace HO654:=yVb HO654 hb
     have HO658:=yho (fun k_=>some k_≠(.slice Ao46 t617.length co46 : Value).ownBlock∧some k_≠(.slice Ao51 t622.length co51 : Value).ownBlock∧some k_≠(.slice Ao52 t625.length co52 : Value).ownBlock∧some k_≠(.slice Ao60 y630.length co60 : Value).ownBlock∧some k_≠(.slice Ao61 y636.length co61 : Value).ownBlock∧some k_≠(.slice Ao67 t640.length co67 : Value).ownBlock∧some k_≠(.slice Ao68 t643.length co68 : Value).ownBlock∧k_≠gb616∧k_≠gb629∧k_≠gb647) ho0 (fun k_ hk_=>⟨yoR HO619 hk_,yoN HO624 hk_,yoN HO627 hk_,yoR HO632 hk_,yoN HO638 hk_,yoN HO642 hk_,yoN HO645 hk_,yoB BK616 hk_,yoB BK629 hk_,yoB BK647 hk_⟩)
     have HO661:=yho (fun k_=>some k_≠(.slice Ao46 t617.length co46 : Value).ownBlock∧some k_≠(.slice Ao51 t622.length co51 : Value).ownBlock∧some k_≠(.slice Ao52 t625.length co52 : Value).ownBlock∧some k_≠(.slice Ao60 y630.length co60 : Value).ownBlock∧some k_≠(.slice Ao61 y636.length co61 : Value).ownBlock∧some k_≠(.slice Ao67 t640.length co67 : Value).ownBlock∧some k_≠(.slice Ao68 t643.length co68 : Value).ownBlock∧k_≠gb616∧k_≠gb629∧k_≠gb647) ho1 (fun k_ hk_=>⟨yoR HO619 hk_,yoN HO624 hk_,yoN HO627 hk_,yoR HO632 hk_,yoN HO638 hk_,yoN HO642 hk_,yoN HO645 hk_,yoB BK616 hk_,yoB BK629 hk_,yoB BK647 hk_⟩)
     replace HO619:=yRb HO619 hb
     replace HO624:=yNb HO624 hb
     replace HO627:=yNb HO627 hb
     replace HO632:=yRb HO632 hb
     replace HO638:=yNb HO638 hb
     replace HO642:=yNb HO642 hb
     replace HO645:=yNb HO645 hb
     replace BK616:=ybb BK616 hb
     replace BK629:=ybb BK629 hb
     replace BK647:=ybb BK647 hb
     replace HB:=ybs hb
     (try clear hb)
     (try clear ho0)
     (try clear ho1)
     obtain ⟨Ao73,co73,eo73⟩:=Kd.V_slice HO651.out
     (first|subst eo73|(injection eo73 with f1_ f2_ f3_;have f4_:=f1_.symm;have f5_:=f3_.symm;clear f1_ f2_ f3_;subst f4_;subst f5_))
     obtain ⟨Ao74,co74,eo74⟩:=Kd.V_slice HO654.out
     (first|subst eo74|(injection eo74 with f1_ f2_ f3_;have f4_:=f1_.symm;have f5_:=f3_.symm;clear f1_ f2_ f3_;subst f4_;subst f5_))
     obtain ⟨Ao75,co75,eo75⟩:=Kd.V_slice HO658.out
     (first|subst eo75|(injection eo75 with f1_ f2_ f3_;have f4_:=f1_.symm;have f5_:=f3_.symm;clear f1_ f2_ f3_;subst f4_;subst f5_))
     obtain ⟨Ao76,co76,eo76⟩:=Kd.V_slice HO661.out
     (first|subst eo76|(injection eo76 with f1_ f2_ f3_;have f4_:=f1_.symm;have f5_:=f3_.symm;clear f1_ f2_ f3_;subst f4_;subst f5_))
     refine hK.out _ _ yH (fun hHeld => ?_)
     clear hK K
     refine ym (some 46) ?_
     refine yw 12 47 HT_ (fun K hK => ?_)
     refine ygs Try.func22 #[.agg #[.bool t648, .slice Ao73 t649.length co73, .slice Ao74 t652.length co74], .agg #[.bool t655, .slice Ao75 t656.length co75, .slice Ao76 t659.length co76]] ?_
     with_reducible refine (psalteryref13_Same.calls k t648 _ _ t649 _ _ t652 t655 _ _ t656 _ _ t659 true _ ?side1 ?side2 ?side3 ?side4 ?side5 ?side6 ?side7 ?side8 A8.out).mono ?_
     (case side1=>exact yce (Kd.V_reads' HO651.out).2.2)
     (case side2=>exact (Kd.V_reads' HO651.out).2.1)
     (case side3=>exact yce (Kd.V_reads' HO654.out).2.2)
     (case side4=>exact (Kd.V_reads' HO654.out).2.1)
     (case side5=>exact yce (Kd.V_reads' HO658.out).2.2)
     (case side6=>exact (Kd.V_reads' HO658.out).2.1)
     (case side7=>exact yce (Kd.V_reads' HO661.out).2.2)
     (case side8=>exact (Kd.V_reads' HO661.out).2.1)
     rintro e w77 ⟨rfl,hb⟩
     refine ⟨_,rfl, ?_⟩
     replace HO594:=yNb HO594 hb
     replace HO615:=yNb HO615 hb
     replace HO619:=yRb HO619 hb
     replace HO624:=yNb HO624 hb
     replace HO627:=yNb HO627 hb
     replace HO632:=yRb HO632 hb
     replace HO638:=yNb HO638 hb
     replace HO642:=yNb HO642 hb
     replace HO645:=yNb HO645 hb
     replace HO651:=yVb HO651 hb
     replace HO654:=yVb HO654 hb
     replace HO658:=yVb HO658 hb
     replace HO661:=yVb HO661 hb
     replace BK616:=ybb BK616 hb
     replace BK629:=ybb BK629 hb
     replace BK647:=ybb BK647 hb
     replace HB:=ybs hb
     (try clear hb)
     refine hK.out _ _ yH (fun hHeld => ?_)
     clear hK K
     refine ym (some 47) ?_
     refine yp 13 48 HT_ ?_
     refine yp 14 49 HT_ ?_
     refine yp 15 50 HT_ ?_
     refine yp 16 51 HT_ ?_
     refine yp 17 52 HT_ ?_
     refine yp 18 53 HT_ ?_
     refine yp 19 54 HT_ ?_
     refine yl 20 55 HT_ HW_ hHeld ?_
     refine yp 21 56 HT_ ?_
     refine yp 22 57 HT_ ?_
     refine yp 23 58 HT_ ?_
     refine yp 24 59 HT_ ?_
     refine yl 25 60 HT_ HW_ hHeld ?_
     refine yw 26 61 HT_ (fun K hK => ?_)
     refine Kd.R_lit_step (Kd.int .i64) _ 3 ?hg (N:=61) ?hd (xs:=([6,0,0,1,2] : List Int)) (inner := [.int .i64 6, .int .i64 0, .int .i64 0, .int .i64 1, .int .i64 2]) (ok:=fun _=>True) (okp:=fun _=>True) ?hr ?hp (fun _ hk=>hk) trivial (Below.refl _ _) (Nat.le_refl _) (by simp) ?_;(case hd=>rfl);(case hg=>rfl);(case hr=>first|(go_simp;done)|(go_simp;rfl));(case hp=>exact (Reps.one (show Kd.M (Kd.int .i64) _ _ _ 6 [.int .i64 6] from rfl) (Reps.one (show Kd.M (Kd.int .i64) _ _ _ 0 [.int .i64 0] from rfl) (Reps.one (show Kd.M (Kd.int .i64) _ _ _ 0 [.int .i64 0] from rfl) (Reps.one (show Kd.M (Kd.int .i64) _ _ _ 1 [.int .i64 1] from rfl) (Reps.one (show Kd.M (Kd.int .i64) _ _ _ 2 [.int .i64 2] from rfl) (Reps.none _ _)))))))
     intro v664 w78 ho79 hb hg_ hnew_
     clear hg_ hnew_
     (first|rw [← Ny663.out] at ho79|(simp only [Int.reduceToNat] at ho79;rw [← Ny663.out] at ho79)|rw [show (List.replicate (Int.toNat 11) (0 : Int))=y663 from Ny663.out.symm] at ho79)
     replace HO594:=zm (Kd.N_elder' (yr HO594) (Kd.R_base ho79) hb)
     replace HO615:=zm (Kd.N_elder' (yr HO615) (Kd.R_base ho79) hb)
     replace HO619:=yRb HO619 hb
     replace HO624:=zm (Kd.N_elder' (yr HO624) (Kd.R_base ho79) hb)
     replace HO627:=zm (Kd.N_elder' (yr HO627) (Kd.R_base ho79) hb)
     replace HO632:=yRb HO632 hb
     replace HO638:=zm (Kd.N_elder' (yr HO638) (Kd.R_base ho79) hb)
     replace HO642:=zm (Kd.N_elder' (yr HO642) (Kd.R_base ho79) hb)
     replace HO645:=zm (Kd.N_elder' (yr HO645) (Kd.R_base ho79) hb)
     replace HO651:=zm (Kd.V_elder' (yr HO651) (Kd.R_base ho79) hb)
     replace HO654:=zm (Kd.V_elder' (yr HO654) (Kd.R_base ho79) hb)
     replace HO658:=zm (Kd.V_elder' (yr HO658) (Kd.R_base ho79) hb)
     replace HO661:=zm (Kd.V_elder' (yr HO661) (Kd.R_base ho79) hb)
     have HO665:=zm (Kd.R_lower ho79 (zE yhb))
     replace BK616:=ybb BK616 hb
     replace BK629:=ybb BK629 hb
     replace BK647:=ybb BK647 hb
     replace HB:=ybs hb
     clear hb ho79
     obtain ⟨Ao80,co80,eo80⟩:=Kd.R_slice HO665.out
     (first|subst eo80|(injection eo80 with f1_ f2_ f3_;have f4_:=f1_.symm;have f5_:=f3_.symm;clear f1_ f2_ f3_;subst f4_;subst f5_))
     refine hK.out _ _ yH (fun hHeld => ?_)
     clear hK K
     refine ym (some 61) ?_
     refine yw 27 62 HT_ (fun K hK => ?_)
     refine Kd.N_lit_step (Kd.slice 3 (Kd.int .i64)) _ 49 ?hg (N' := 62) ?hd (xs:=([y663] : List (List Int))) (inner := [.slice Ao80 y663.length co80]) (ok:=(fun k_=>some k_≠(.slice Ao42 y592.length co42 : Value).ownBlock∧some k_≠(.slice Ao41 y613.length co41 : Value).ownBlock∧some k_≠(.slice Ao46 t617.length co46 : Value).ownBlock∧some k_≠(.slice Ao51 t622.length co51 : Value).ownBlock∧some k_≠(.slice Ao52 t625.length co52 : Value).ownBlock∧some k_≠(.slice Ao60 y630.length co60 : Value).ownBlock∧some k_≠(.slice Ao61 y636.length co61 : Value).ownBlock∧some k_≠(.slice Ao67 t640.length co67 : Value).ownBlock∧some k_≠(.slice Ao68 t643.length co68 : Value).ownBlock∧k_≠gb616∧k_≠gb629∧k_≠gb647)) (okp:=(fun k_=>some k_≠(.slice Ao42 y592.length co42 : Value).ownBlock∧some k_≠(.slice Ao41 y613.length co41 : Value).ownBlock∧some k_≠(.slice Ao46 t617.length co46 : Value).ownBlock∧some k_≠(.slice Ao51 t622.length co51 : Value).ownBlock∧some k_≠(.slice Ao52 t625.length co52 : Value).ownBlock∧some k_≠(.slice Ao60 y630.length co60 : Value).ownBlock∧some k_≠(.slice Ao61 y636.length co61 : Value).ownBlock∧some k_≠(.slice Ao67 t640.length co67 : Value).ownBlock∧some k_≠(.slice Ao68 t643.length co68 : Value).ownBlock∧k_≠gb616∧k_≠gb629∧k_≠gb647)) ?hr ?hp (fun _ hk=>hk) ((show ∀ k_,w78.heap.size≤k_→(fun k_=>some k_≠(.slice Ao42 y592.length co42 : Value).ownBlock∧some k_≠(.slice Ao41 y613.length co41 : Value).ownBlock∧some k_≠(.slice Ao46 t617.length co46 : Value).ownBlock∧some k_≠(.slice Ao51 t622.length co51 : Value).ownBlock∧some k_≠(.slice Ao52 t625.length co52 : Value).ownBlock∧some k_≠(.slice Ao60 y630.length co60 : Value).ownBlock∧some k_≠(.slice Ao61 y636.length co61 : Value).ownBlock∧some k_≠(.slice Ao67 t640.length co67 : Value).ownBlock∧some k_≠(.slice Ao68 t643.length co68 : Value).ownBlock∧k_≠gb616∧k_≠gb629∧k_≠gb647) k_ from fun k_ hk=>⟨Kd.fresh' (Kd.N_lt (yr HO594)) k_ hk,Kd.fresh' (Kd.N_lt (yr HO615)) k_ hk,Kd.fresh' (Kd.R_lt (yr HO619)) k_ hk,Kd.fresh' (Kd.N_lt (yr HO624)) k_ hk,Kd.fresh' (Kd.N_lt (yr HO627)) k_ hk,Kd.fresh' (Kd.R_lt (yr HO632)) k_ hk,Kd.fresh' (Kd.N_lt (yr HO638)) k_ hk,Kd.fresh' (Kd.N_lt (yr HO642)) k_ hk,Kd.fresh' (Kd.N_lt (yr HO645)) k_ hk,Kd.freshB (yk BK616) k_ hk,Kd.freshB (yk BK629) k_ hk,Kd.freshB (yk BK647) k_ hk⟩) _ (Nat.le_refl _)) (Below.refl _ _) (Nat.le_refl _) (by simp) ?_;(case hd=>rfl);(case hg=>rfl);(case hr=>first|(go_simp;done)|(go_simp;rfl));(case hp=>exact (Reps.one (show Kd.FK (Kd.slice 3 (Kd.int .i64)) _ _ y663 [.slice Ao80 y663.length co80] from (Kd.FK_slice_mk (Kd.R_reads' (zG (ok' := (fun k_=>some k_≠(.slice Ao42 y592.length co42 : Value).ownBlock∧some k_≠(.slice Ao41 y613.length co41 : Value).ownBlock∧some k_≠(.slice Ao46 t617.length co46 : Value).ownBlock∧some k_≠(.slice Ao51 t622.length co51 : Value).ownBlock∧some k_≠(.slice Ao52 t625.length co52 : Value).ownBlock∧some k_≠(.slice Ao60 y630.length co60 : Value).ownBlock∧some k_≠(.slice Ao61 y636.length co61 : Value).ownBlock∧some k_≠(.slice Ao67 t640.length co67 : Value).ownBlock∧some k_≠(.slice Ao68 t643.length co68 : Value).ownBlock∧k_≠gb616∧k_≠gb629∧k_≠gb647)) (Kd.R_types (Kd.R_types (Kd.R_types (Kd.R_apart' (Kd.R_apart' (Kd.R_apart' (Kd.R_apart' (Kd.R_apart' (Kd.R_apart' (Kd.R_apart' (Kd.R_apart' (Kd.R_apart' (HO665.out) (Kd.N_typed HO594.out) (by decide)) (Kd.N_typed HO615.out) (by decide)) (Kd.R_typed HO619.out) (by decide)) (Kd.N_typed HO624.out) (by decide)) (Kd.N_typed HO627.out) (by decide)) (Kd.R_typed HO632.out) (by decide)) (Kd.N_typed HO638.out) (by decide)) (Kd.N_typed HO642.out) (by decide)) (Kd.N_typed HO645.out) (by decide)) BK616.out (by decide)) BK629.out (by decide)) BK647.out (by decide)) (fun k_ hk=>⟨hk.1.1.1.1.1.1.1.1.1.1.1.2,⟨hk.1.1.1.1.1.1.1.1.1.1.2,⟨hk.1.1.1.1.1.1.1.1.1.2,⟨hk.1.1.1.1.1.1.1.1.2,⟨hk.1.1.1.1.1.1.1.2,⟨hk.1.1.1.1.1.1.2,⟨hk.1.1.1.1.1.2,⟨hk.1.1.1.1.2,⟨hk.1.1.1.2,⟨hk.1.1.2,⟨hk.1.2,hk.2⟩⟩⟩⟩⟩⟩⟩⟩⟩⟩⟩))).2.1 (Kd.R_F (zG (ok' := (fun k_=>some k_≠(.slice Ao42 y592.length co42 : Value).ownBlock∧some k_≠(.slice Ao41 y613.length co41 : Value).ownBlock∧some k_≠(.slice Ao46 t617.length co46 : Value).ownBlock∧some k_≠(.slice Ao51 t622.length co51 : Value).ownBlock∧some k_≠(.slice Ao52 t625.length co52 : Value).ownBlock∧some k_≠(.slice Ao60 y630.length co60 : Value).ownBlock∧some k_≠(.slice Ao61 y636.length co61 : Value).ownBlock∧some k_≠(.slice Ao67 t640.length co67 : Value).ownBlock∧some k_≠(.slice Ao68 t643.length co68 : Value).ownBlock∧k_≠gb616∧k_≠gb629∧k_≠gb647)) (Kd.R_types (Kd.R_types (Kd.R_types (Kd.R_apart' (Kd.R_apart' (Kd.R_apart' (Kd.R_apart' (Kd.R_apart' (Kd.R_apart' (Kd.R_apart' (Kd.R_apart' (Kd.R_apart' (HO665.out) (Kd.N_typed HO594.out) (by decide)) (Kd.N_typed HO615.out) (by decide)) (Kd.R_typed HO619.out) (by decide)) (Kd.N_typed HO624.out) (by decide)) (Kd.N_typed HO627.out) (by decide)) (Kd.R_typed HO632.out) (by decide)) (Kd.N_typed HO638.out) (by decide)) (Kd.N_typed HO642.out) (by decide)) (Kd.N_typed HO645.out) (by decide)) BK616.out (by decide)) BK629.out (by decide)) BK647.out (by decide)) (fun k_ hk=>⟨hk.1.1.1.1.1.1.1.1.1.1.1.2,⟨hk.1.1.1.1.1.1.1.1.1.1.2,⟨hk.1.1.1.1.1.1.1.1.1.2,⟨hk.1.1.1.1.1.1.1.1.2,⟨hk.1.1.1.1.1.1.1.2,⟨hk.1.1.1.1.1.1.2,⟨hk.1.1.1.1.1.2,⟨hk.1.1.1.1.2,⟨hk.1.1.1.2,⟨hk.1.1.2,⟨hk.1.2,hk.2⟩⟩⟩⟩⟩⟩⟩⟩⟩⟩⟩))))) (Reps.none _ _)))
     intro v667 w81 ho82 hb hg_ hnew_
     clear hg_ hnew_
     (first|rw [← Ny666.out] at ho82|(simp only [Int.reduceToNat] at ho82;rw [← Ny666.out] at ho82)|rw [show (List.replicate (Int.toNat 11) (0 : Int))=y666 from Ny666.out.symm] at ho82)
     replace HO594:=zm (Kd.N_elder' (yr HO594) (Kd.N_base ho82) hb)
     replace HO615:=zm (Kd.N_elder' (yr HO615) (Kd.N_base ho82) hb)
     replace HO619:=yRb HO619 hb
     replace HO624:=zm (Kd.N_elder' (yr HO624) (Kd.N_base ho82) hb)
     replace HO627:=zm (Kd.N_elder' (yr HO627) (Kd.N_base ho82) hb)
     replace HO632:=yRb HO632 hb
     replace HO638:=zm (Kd.N_elder' (yr HO638) (Kd.N_base ho82) hb)
     replace HO642:=zm (Kd.N_elder' (yr HO642) (Kd.N_base ho82) hb)
     replace HO645:=zm (Kd.N_elder' (yr HO645) (Kd.N_base ho82) hb)
     replace HO651:=zm (Kd.V_elder' (yr HO651) (Kd.N_base ho82) hb)
     replace HO654:=zm (Kd.V_elder' (yr HO654) (Kd.N_base ho82) hb)
     replace HO658:=zm (Kd.V_elder' (yr HO658) (Kd.N_base ho82) hb)
     replace HO661:=zm (Kd.V_elder' (yr HO661) (Kd.N_base ho82) hb)
     have HO668:=zm (Kd.N_lower ho82 (zE yhb))
     replace BK616:=ybb BK616 hb
     replace BK629:=ybb BK629 hb
     replace BK647:=ybb BK647 hb
     replace HB:=ybs hb
     clear HO665;clear hb ho82
     obtain ⟨Ao83,co83,eo83⟩:=Kd.N_slice HO668.out
     (first|subst eo83|(injection eo83 with f1_ f2_ f3_;have f4_:=f1_.symm;have f5_:=f3_.symm;clear f1_ f2_ f3_;subst f4_;subst f5_))
     refine hK.out _ _ yH (fun hHeld => ?_)
     clear hK K
     refine ym (some 62) ?_
     refine yw 28 63 HT_ (fun K hK => ?_)
     refine ygs Try.func24 #[.slice Ao67 t640.length co67, .slice Ao83 y666.length co83] ?_
     with_reducible refine (psalteryref12_Same.calls k _ _ t640 _ _ y666 true _ ?side1 ?side2 ?side3 ?side4 A12.out).mono ?_
     (case side1=>exact yce (Kd.N_reads' HO642.out).2.2)
     (case side2=>exact (Kd.N_reads' HO642.out).2.1)
     (case side3=>exact yce (Kd.N_reads' HO668.out).2.2)
     (case side4=>exact (Kd.N_reads' HO668.out).2.1)
     rintro e w' ⟨rfl,⟨nd,rfl⟩⟩
     refine ⟨_,rfl, ?_⟩
     refine hK.out _ _ yH (fun hHeld => ?_)
     clear hK K
     refine ym (some 63) ?_
     refine yp 29 64 HT_ ?_
     refine yp 30 65 HT_ ?_
     refine yp 31 66 HT_ ?_
     refine yp 32 67 HT_ ?_
     refine yp 33 68 HT_ ?_
     refine yp 34 69 HT_ ?_
     refine yl 35 70 HT_ HW_ hHeld ?_
     refine yw 36 71 HT_ (fun K hK => ?_)
     refine ygs Try.func15 #[.int .i64 11, .int .i64 1, .agg #[.bool true, .slice Ao42 y592.length co42, .slice Ao41 y613.length co41]] ?_
     with_reducible refine (cpack_Right.calls k 11 1 true _ _ y592 _ _ y613 t670 _ ?side1 ?side2 ?side3 ?side4 A15.out).mono ?_
     (case side1=>exact yce (Kd.N_reads' HO594.out).2.2)
     (case side2=>exact (Kd.N_reads' HO594.out).2.1)
     (case side3=>exact yce (Kd.N_reads' HO615.out).2.2)
     (case side4=>exact (Kd.N_reads' HO615.out).2.1)
     rintro e w84 ⟨rfl,hb⟩
     refine ⟨_,rfl, ?_⟩
     replace HO594:=yNb HO594 hb
     replace HO615:=yNb HO615 hb
     replace HO619:=yRb HO619 hb
     replace HO624:=yNb HO624 hb
     replace HO627:=yNb HO627 hb
     replace HO632:=yRb HO632 hb
     replace HO638:=yNb HO638 hb
     replace HO642:=yNb HO642 hb
     replace HO645:=yNb HO645 hb
     replace HO651:=yVb HO651 hb
     replace HO654:=yVb HO654 hb
     replace HO658:=yVb HO658 hb
     replace HO661:=yVb HO661 hb
     replace HO668:=yNb HO668 hb
     replace BK616:=ybb BK616 hb
     replace BK629:=ybb BK629 hb
     replace BK647:=ybb BK647 hb
     replace HB:=ybs hb
     (try clear hb)
     refine hK.out _ _ yH (fun hHeld => ?_)
     clear hK K
     refine ym (some 71) ?_
     refine yp 37 72 HT_ ?_
     refine yp 38 0 HT_ ?_
     refine done_ (done_of HT_.out (by kernel_rfl)) ?_
     try go_wp2
     go_ret
     exact ⟨ye,yhb⟩
    ·
     rw [if_neg c14] at H
     have c14b0 : (t646 == 0)=false:=beq_eq_false_iff_ne.mpr c14
     have c14b1 : (t646 != 0)=true:=bne_iff_ne.mpr c14
     exact absurd H (by simp)
   ·
    rw [if_neg c10] at H
    have c10b0 : (t628 == 0)=false:=beq_eq_false_iff_ne.mpr c10
    have c10b1 : (t628 != 0)=true:=bne_iff_ne.mpr c10
    exact absurd H (by simp)
  ·
   rw [if_neg c5] at H
   have c5b0 : (t620 == 0)=false:=beq_eq_false_iff_ne.mpr c5
   have c5b1 : (t620 != 0)=true:=bne_iff_ne.mpr c5
   exact absurd H (by simp)
 ·
  rw [if_neg c4] at H
  have c4b0 : ((t617.length : Int) == 11)=false:=beq_eq_false_iff_ne.mpr c4
  have c4b1 : ((t617.length : Int) != 11)=true:=bne_iff_ne.mpr c4
  exact absurd H (by simp)
def psalteryref11_Right.l0 : Nat→List Int→Bool→Int→Option (Bool)
 | 0,_,_,_=>none
 | k+1,x0,x3,x4=>if x4 < (x0.length : Int) then (if x3=true then (if 0≤x4 then (if (rd x0 x4) ≥ 0 then (psalteryref11_Right.l0 k x0 (decide ((rd x0 x4)≤44)) (wrap64 (x4+1))) else (psalteryref11_Right.l0 k x0 false (wrap64 (x4+1)))) else (none)) else (psalteryref11_Right.l0 k x0 false (wrap64 (x4+1)))) else (some x3)
def psalteryref11_Right.f (k : Nat) (l0 : List Int) : Option (Bool):=psalteryref11_Right.l0 k l0 ((l0.length : Int) == 5) 0
theorem psalteryref11_Right.mono_l : ∀ k,(∀ y0 y1 y2,LeO (psalteryref11_Right.l0 k y0 y1 y2) (psalteryref11_Right.l0 (k+1) y0 y1 y2))
 | 0=>fun _ _ _ r h=>by simp [psalteryref11_Right.l0] at h
 | k+1=>by
  have ih0:=psalteryref11_Right.mono_l k
  ·
   intro y0 y1 y2
   unfold psalteryref11_Right.l0
   repeat' with_reducible first|apply ih0|apply yLr|apply yLn|apply yLi|apply yLb|intro _
theorem psalteryref11_Right.mono : ∀ a0 k,LeO (psalteryref11_Right.f k a0) (psalteryref11_Right.f (k+1) a0):=by
 intro a0 k
 have ih0:=psalteryref11_Right.mono_l k
 unfold psalteryref11_Right.f
 repeat' with_reducible first|apply ih0|apply yLr|apply yLn|apply yLi|apply yLb|intro _
set_option maxHeartbeats 8000000 in
set_option maxRecDepth 100000 in
theorem psalteryref11_Right.calls (k : Nat) (A0 : Option Addr) (c0 : Nat) (l0 : List Int) (r : Bool) (w : World) (hr0 : Kd.C (Kd.int .i64) w A0 l0.length l0) (hc0 : l0.length≤c0) (h : psalteryref11_Right.f k l0=some r) :
  Calls Try.prog 47 #[.slice A0 l0.length c0] w fun e w' => e=.returned (.bool r)∧Drawn0 w w' := by
 have HR0:=zm hr0;have HC0:=zm hc0;clear hr0 hc0
 have H : (psalteryref11_Right.l0 k l0 ((l0.length : Int) == 5) 0)=some r:=h
 clear h
 have H' := zm H
 clear H
 go_enter Try.func47,Try.ntmps47
 go_wp2
 go_loopg [3,4] k (fun kq v3 v4 w' => ∃ (x3_1 : Bool) (x4_1 : Int),v3=.bool x3_1∧v4=.int .i64 x4_1∧Aside0 (psalteryref11_Right.l0 kq l0 x3_1 x4_1=some r)∧Aside0 (kq≤k)∧Drawn0 w w')
 case atStart=>exact ⟨(((l0.length : Int) == 5)),(0),yq,yq,H',⟨Nat.le_refl _⟩,yd⟩
 case round =>
  clear H'
  obtain ⟨x3_1,x4_1,rfl,rfl,HA,HK1,⟨m1,rfl⟩⟩:=hrel
  obtain ⟨k1,rfl⟩:=ysu gk (fun h=>by subst h;exact absurd HA.out (by simp [psalteryref11_Right.l0]))
  have H:=HA.out;clear HA
  simp only [psalteryref11_Right.l0] at H
  by_cases c2 : x4_1 < (l0.length : Int)
  ·
   rw [if_pos c2] at H
   have c2b0 : decide (x4_1 < (l0.length : Int))=true:=decide_eq_true c2
   clear c2
   by_cases c3 : x3_1=true
   ·
    subst c3
    rw [if_pos rfl] at H
    obtain ⟨c4,H⟩:=yif H
    have c4b0 : decide (0≤x4_1)=true:=decide_eq_true c4
    clear c4
    by_cases c5 : (rd l0 x4_1) ≥ 0
    ·
     rw [if_pos c5] at H
     have c5b0 : decide (0≤(rd l0 x4_1))=true:=decide_eq_true c5
     clear c5
     have H' := zm H
     clear H
     obtain ⟨ad671,e671,hx671_0,p671,q671⟩:=yai HR0 x4_1
     cases e671
     have p672 : 0≤(x4_1 : Int):=yt
     have q672 : x4_1 < (l0.length : Int):=yt
     obtain ⟨ad672,e672,hx672_0⟩:=Kd.at_int HR0.out x4_1 p672 q672
     obtain rfl : ad671=ad672:=(by injection e672)
     replace p672:=eq_true p672
     replace q672:=eq_true q672
     go_wp2
     go_roundg k1
     case measure=>exact yom1 HK1
     case rel=>exact ⟨(decide ((rd l0 x4_1)≤44)),(wrap64 (x4_1+1)),yq,yq,H',⟨yom1 HK1⟩,yd⟩
    ·
     rw [if_neg c5] at H
     have c5b0 : decide (0≤(rd l0 x4_1))=false:=decide_eq_false c5
     clear c5
     have H' := zm H
     clear H
     obtain ⟨ad671,e671,hx671_0,p671,q671⟩:=yai HR0 x4_1
     cases e671
     go_wp2
     go_roundg k1
     case measure=>exact yom1 HK1
     case rel=>exact ⟨(false),(wrap64 (x4_1+1)),yq,yq,H',⟨yom1 HK1⟩,yd⟩
   ·
    replace c3:=Bool.eq_false_iff.mpr c3
    subst c3
    rw [ynf] at H
    have H' := zm H
    clear H
    go_wp2
    go_roundg k1
    case measure=>exact yom1 HK1
    case rel=>exact ⟨(false),(wrap64 (x4_1+1)),yq,yq,H',⟨yom1 HK1⟩,yd⟩
  ·
   rw [if_neg c2] at H
   have c2b0 : decide (x4_1 < (l0.length : Int))=false:=decide_eq_false c2
   clear c2
   obtain rfl:=Option.some.inj H
   go_wp2
   go_ret
   exact ⟨yq,yd⟩
def psalteryref12_Fair.l0 : Nat→List (List Int)→Int→Option (Bool)
 | 0,_,_=>none
 | k+1,x1,x5=>if x5 < (x1.length : Int) then (if 0≤x5 then ((psalteryref11_Right.f k (rd_L1 x1 x5)).bind fun t674=>(if t674=true then (psalteryref12_Fair.l0 k x1 (wrap64 (x5+1))) else (some false))) else (none)) else (some true)
def psalteryref12_Fair.f (k : Nat) (a0 : Int) (l1 : List (List Int)) : Option (Bool):=if (l1.length : Int)=a0 then (psalteryref12_Fair.l0 k l1 0) else (some false)
theorem psalteryref12_Fair.mono_l : ∀ k,(∀ y0 y1,LeO (psalteryref12_Fair.l0 k y0 y1) (psalteryref12_Fair.l0 (k+1) y0 y1))
 | 0=>fun _ _ r h=>by simp [psalteryref12_Fair.l0] at h
 | k+1=>by
  have ih0:=psalteryref12_Fair.mono_l k
  ·
   intro y0 y1
   unfold psalteryref12_Fair.l0
   repeat' with_reducible first|apply ih0|apply psalteryref11_Right.mono|apply yLr|apply yLn|apply yLi|apply yLb|intro _
theorem psalteryref12_Fair.mono : ∀ a0 a1 k,LeO (psalteryref12_Fair.f k a0 a1) (psalteryref12_Fair.f (k+1) a0 a1):=by
 intro a0 a1 k
 have ih0:=psalteryref12_Fair.mono_l k
 unfold psalteryref12_Fair.f
 repeat' with_reducible first|apply ih0|apply psalteryref11_Right.mono|apply yLr|apply yLn|apply yLi|apply yLb|intro _
set_option maxHeartbeats 8000000 in
set_option maxRecDepth 100000 in
theorem psalteryref12_Fair.calls (k : Nat) (a0 : Int) (A1 : Option Addr) (c1 : Nat) (l1 : List (List Int)) (r : Bool) (w : World) (hr1 : Kd.C (Kd.slice 3 (Kd.int .i64)) w A1 l1.length l1) (hc1 : l1.length≤c1) (h : psalteryref12_Fair.f k a0 l1=some r) :
  Calls Try.prog 17 #[.int .i64 a0, .slice A1 l1.length c1] w fun e w' => e=.returned (.bool r)∧Drawn0 w w' := by
 have HR1:=zm hr1;have HC1:=zm hc1;clear hr1 hc1
 have H : (if (l1.length : Int)=a0 then (psalteryref12_Fair.l0 k l1 0) else (some false))=some r:=h
 clear h
 by_cases c3 : (l1.length : Int)=a0
 ·
  rw [if_pos c3] at H
  have c3b0 : ((l1.length : Int) == a0)=true:=beq_iff_eq.mpr c3
  have c3b1 : ((l1.length : Int) != a0)=false:=bne_eq_false_iff_eq.mpr c3
  clear c3
  have H' := zm H
  clear H
  go_enter Try.func17,Try.ntmps17
  go_wp2
  go_loopg [5] k (fun kq v5 w' => ∃ (x5_1 : Int),v5=.int .i64 x5_1∧Aside0 (psalteryref12_Fair.l0 kq l1 x5_1=some r)∧Aside0 (kq≤k)∧Drawn0 w w')
  case atStart=>exact ⟨(0),yq,H',⟨Nat.le_refl _⟩,yd⟩
  case round =>
   clear H'
   try clear c1
   try clear c3b0
   try clear c3b1
   obtain ⟨x5_1,rfl,HA,HK1,⟨m1,rfl⟩⟩:=hrel
   obtain ⟨k1,rfl⟩:=ysu gk (fun h=>by subst h;exact absurd HA.out (by simp [psalteryref12_Fair.l0]))
   have H:=HA.out;clear HA
   simp only [psalteryref12_Fair.l0] at H
   by_cases c4 : x5_1 < (l1.length : Int)
   ·
    rw [if_pos c4] at H
    have c4b0 : decide (x5_1 < (l1.length : Int))=true:=decide_eq_true c4
    clear c4
    obtain ⟨c5,H⟩:=yif H
    have c5b0 : decide (0≤x5_1)=true:=decide_eq_true c5
    clear c5
    obtain ⟨t674,A6,H⟩:=ybi H
    by_cases c7 : t674=true
    ·
     subst c7
     rw [if_pos rfl] at H
     have H' := zm H
     clear H
     have p673 : 0≤(x5_1 : Int):=yt
     have q673 : x5_1 < (l1.length : Int):=yt
     obtain ⟨ad673,A673_0,c673_0,e673,hx673_0,hl673_0,hi673_0⟩:=at_L1 HR1.out x5_1 p673 q673
     cases e673
     have HR673_0:=zm hi673_0;have HC673_0:=zm hl673_0;clear hi673_0 hl673_0
     replace p673:=eq_true p673
     replace q673:=eq_true q673
     go_wp2_with (first|((with_reducible refine gate_callee (f:=47) rfl ?_);refine ygl 20 Try.func47 #[.slice A673_0 (rd_L1 l1 x5_1).length c673_0] ?_;(with_reducible refine (psalteryref11_Right.calls k1 _ _ (rd_L1 l1 x5_1) true _ ?side1 HC673_0.out A6.out).mono ?_);(case side1=>exact yce HR673_0.out);rintro e w' ⟨rfl,⟨nd,rfl⟩⟩;refine ⟨_,rfl, ?_⟩))
     go_roundg k1
     case measure=>exact yom1 HK1
     case rel=>exact ⟨(wrap64 (x5_1+1)),yq,H',⟨yom1 HK1⟩,yd⟩
    ·
     replace c7:=Bool.eq_false_iff.mpr c7
     subst c7
     rw [ynf] at H
     obtain rfl:=Option.some.inj H
     have p673 : 0≤(x5_1 : Int):=yt
     have q673 : x5_1 < (l1.length : Int):=yt
     obtain ⟨ad673,A673_0,c673_0,e673,hx673_0,hl673_0,hi673_0⟩:=at_L1 HR1.out x5_1 p673 q673
     cases e673
     have HR673_0:=zm hi673_0;have HC673_0:=zm hl673_0;clear hi673_0 hl673_0
     replace p673:=eq_true p673
     replace q673:=eq_true q673
     go_wp2_with (first|((with_reducible refine gate_callee (f:=47) rfl ?_);refine ygl 20 Try.func47 #[.slice A673_0 (rd_L1 l1 x5_1).length c673_0] ?_;(with_reducible refine (psalteryref11_Right.calls k1 _ _ (rd_L1 l1 x5_1) false _ ?side1 HC673_0.out A6.out).mono ?_);(case side1=>exact yce HR673_0.out);rintro e w' ⟨rfl,⟨nd,rfl⟩⟩;refine ⟨_,rfl, ?_⟩))
     go_ret
     exact ⟨yq,yd⟩
   ·
    rw [if_neg c4] at H
    have c4b0 : decide (x5_1 < (l1.length : Int))=false:=decide_eq_false c4
    clear c4
    obtain rfl:=Option.some.inj H
    go_wp2
    go_ret
    exact ⟨yq,yd⟩
 ·
  rw [if_neg c3] at H
  have c3b0 : ((l1.length : Int) == a0)=false:=beq_eq_false_iff_ne.mpr c3
  have c3b1 : ((l1.length : Int) != a0)=true:=bne_iff_ne.mpr c3
  obtain rfl:=Option.some.inj H
  go_enter Try.func17,Try.ntmps17
  go_wp2
  go_ret
  exact ⟨yq,yd⟩
def psalteryref06_Size.l0 : Nat→Int→Int→Option (Int)
 | 0,_,_=>none
 | k+1,x0,x3=>if x3≤12 then (if x0=x3 then (some x3) else (if x0=(wrap64 (-x3)) then (some x3) else (psalteryref06_Size.l0 k x0 (wrap64 (x3+1))))) else (some 13)
def psalteryref06_Size.f (k : Nat) (a0 : Int) : Option (Int):=psalteryref06_Size.l0 k a0 0
theorem psalteryref06_Size.mono_l : ∀ k,(∀ y0 y1,LeO (psalteryref06_Size.l0 k y0 y1) (psalteryref06_Size.l0 (k+1) y0 y1))
 | 0=>fun _ _ r h=>by simp [psalteryref06_Size.l0] at h
 | k+1=>by
  have ih0:=psalteryref06_Size.mono_l k
  ·
   intro y0 y1
   unfold psalteryref06_Size.l0
   repeat' with_reducible first|apply ih0|apply yLr|apply yLn|apply yLi|apply yLb|intro _
theorem psalteryref06_Size.mono : ∀ a0 k,LeO (psalteryref06_Size.f k a0) (psalteryref06_Size.f (k+1) a0):=by
 intro a0 k
 have ih0:=psalteryref06_Size.mono_l k
 unfold psalteryref06_Size.f
 repeat' with_reducible first|apply ih0|apply yLr|apply yLn|apply yLi|apply yLb|intro _
set_option maxHeartbeats 8000000 in
set_option maxRecDepth 100000 in
theorem psalteryref06_Size.calls (k : Nat) (a0 : Int) (r : Int) (w : World) (h : psalteryref06_Size.f k a0=some r) :
  Calls Try.prog 80 #[.int .i64 a0] w fun e w' => e=.returned (.int .i64 r)∧Drawn0 w w' := by
 have H : (psalteryref06_Size.l0 k a0 0)=some r:=h
 clear h
 have H' := zm H
 clear H
 go_enter Try.func80,Try.ntmps80
 go_wp2
 go_loopg [3] k (fun kq v3 w' => ∃ (x3_1 : Int),v3=.int .i64 x3_1∧Aside0 (psalteryref06_Size.l0 kq a0 x3_1=some r)∧Aside0 (kq≤k)∧Drawn0 w w')
 case atStart=>exact ⟨(0),yq,H',⟨Nat.le_refl _⟩,yd⟩
 case round =>
  clear H'
  obtain ⟨x3_1,rfl,HA,HK1,⟨m1,rfl⟩⟩:=hrel
  obtain ⟨k1,rfl⟩:=ysu gk (fun h=>by subst h;exact absurd HA.out (by simp [psalteryref06_Size.l0]))
  have H:=HA.out;clear HA
  simp only [psalteryref06_Size.l0] at H
  by_cases c2 : x3_1≤12
  ·
   rw [if_pos c2] at H
   have c2b0 : decide (x3_1≤12)=true:=decide_eq_true c2
   clear c2
   by_cases c3 : a0=x3_1
   ·
    rw [if_pos c3] at H
    have c3b0 : (a0 == x3_1)=true:=beq_iff_eq.mpr c3
    have c3b1 : (a0 != x3_1)=false:=bne_eq_false_iff_eq.mpr c3
    clear c3
    obtain rfl:=Option.some.inj H
    go_wp2
    go_ret
    exact ⟨yq,yd⟩
   ·
    rw [if_neg c3] at H
    have c3b0 : (a0 == x3_1)=false:=beq_eq_false_iff_ne.mpr c3
    have c3b1 : (a0 != x3_1)=true:=bne_iff_ne.mpr c3
    by_cases c4 : a0=(wrap64 (-x3_1))
    ·
     rw [if_pos c4] at H
     have c4b0 : (a0 == (wrap64 (-x3_1)))=true:=beq_iff_eq.mpr c4
     have c4b1 : (a0 != (wrap64 (-x3_1)))=false:=bne_eq_false_iff_eq.mpr c4
     clear c4
     obtain rfl:=Option.some.inj H
     go_wp2
     go_ret
     exact ⟨yq,yd⟩
    ·
     rw [if_neg c4] at H
     have c4b0 : (a0 == (wrap64 (-x3_1)))=false:=beq_eq_false_iff_ne.mpr c4
     have c4b1 : (a0 != (wrap64 (-x3_1)))=true:=bne_iff_ne.mpr c4
     have H' := zm H
     clear H
     go_wp2
     go_roundg k1
     case measure=>exact yom1 HK1
     case rel=>exact ⟨(wrap64 (x3_1+1)),yq,H',⟨yom1 HK1⟩,yd⟩
  ·
   rw [if_neg c2] at H
   have c2b0 : decide (x3_1≤12)=false:=decide_eq_false c2
   clear c2
   obtain rfl:=Option.some.inj H
   go_wp2
   go_ret
   exact ⟨yq,yd⟩
def psalteryref06_Pulses.l0 : Nat→List Int→Int→Int→Option (Int)
 | 0,_,_,_=>none
 | k+1,x0,x3,x4=>if x4 < (x0.length : Int) then (if 0≤x4 then ((psalteryref06_Size.f k (rd x0 x4)).bind fun t676=>(psalteryref06_Pulses.l0 k x0 (wrap64 (x3+t676)) (wrap64 (x4+1)))) else (none)) else (some x3)
def psalteryref06_Pulses.f (k : Nat) (l0 : List Int) : Option (Int):=psalteryref06_Pulses.l0 k l0 0 0
theorem psalteryref06_Pulses.mono_l : ∀ k,(∀ y0 y1 y2,LeO (psalteryref06_Pulses.l0 k y0 y1 y2) (psalteryref06_Pulses.l0 (k+1) y0 y1 y2))
 | 0=>fun _ _ _ r h=>by simp [psalteryref06_Pulses.l0] at h
 | k+1=>by
  have ih0:=psalteryref06_Pulses.mono_l k
  ·
   intro y0 y1 y2
   unfold psalteryref06_Pulses.l0
   repeat' with_reducible first|apply ih0|apply psalteryref06_Size.mono|apply yLr|apply yLn|apply yLi|apply yLb|intro _
theorem psalteryref06_Pulses.mono : ∀ a0 k,LeO (psalteryref06_Pulses.f k a0) (psalteryref06_Pulses.f (k+1) a0):=by
 intro a0 k
 have ih0:=psalteryref06_Pulses.mono_l k
 unfold psalteryref06_Pulses.f
 repeat' with_reducible first|apply ih0|apply psalteryref06_Size.mono|apply yLr|apply yLn|apply yLi|apply yLb|intro _
set_option maxHeartbeats 8000000 in
set_option maxRecDepth 100000 in
theorem psalteryref06_Pulses.calls (k : Nat) (A0 : Option Addr) (c0 : Nat) (l0 : List Int) (r : Int) (w : World) (hr0 : Kd.C (Kd.int .i64) w A0 l0.length l0) (hc0 : l0.length≤c0) (h : psalteryref06_Pulses.f k l0=some r) :
  Calls Try.prog 40 #[.slice A0 l0.length c0] w fun e w' => e=.returned (.int .i64 r)∧Drawn0 w w' := by
 have HR0:=zm hr0;have HC0:=zm hc0;clear hr0 hc0
 have H : (psalteryref06_Pulses.l0 k l0 0 0)=some r:=h
 clear h
 have H' := zm H
 clear H
 go_enter Try.func40,Try.ntmps40
 go_wp2
 go_loopg [3,4] k (fun kq v3 v4 w' => ∃ (x3_1 : Int) (x4_1 : Int),v3=.int .i64 x3_1∧v4=.int .i64 x4_1∧Aside0 (psalteryref06_Pulses.l0 kq l0 x3_1 x4_1=some r)∧Aside0 (kq≤k)∧Drawn0 w w')
 case atStart=>exact ⟨(0),(0),yq,yq,H',⟨Nat.le_refl _⟩,yd⟩
 case round =>
  clear H'
  obtain ⟨x3_1,x4_1,rfl,rfl,HA,HK1,⟨m1,rfl⟩⟩:=hrel
  obtain ⟨k1,rfl⟩:=ysu gk (fun h=>by subst h;exact absurd HA.out (by simp [psalteryref06_Pulses.l0]))
  have H:=HA.out;clear HA
  simp only [psalteryref06_Pulses.l0] at H
  by_cases c2 : x4_1 < (l0.length : Int)
  ·
   rw [if_pos c2] at H
   have c2b0 : decide (x4_1 < (l0.length : Int))=true:=decide_eq_true c2
   clear c2
   obtain ⟨c3,H⟩:=yif H
   have c3b0 : decide (0≤x4_1)=true:=decide_eq_true c3
   clear c3
   obtain ⟨t676,A4,H⟩:=ybi H
   have H' := zm H
   clear H
   obtain ⟨ad675,e675,hx675_0,p675,q675⟩:=yai HR0 x4_1
   cases e675
   go_wp2_with (first|((with_reducible refine gate_callee (f:=80) rfl ?_);refine ygl 16 Try.func80 #[.int .i64 (rd l0 x4_1)] ?_;(with_reducible refine (psalteryref06_Size.calls k1 (rd l0 x4_1) t676 _ A4.out).mono ?_);rintro e w' ⟨rfl,⟨nd,rfl⟩⟩;refine ⟨_,rfl, ?_⟩))
   go_roundg k1
   case measure=>exact yom1 HK1
   case rel=>exact ⟨(wrap64 (x3_1+t676)),(wrap64 (x4_1+1)),yq,yq,H',⟨yom1 HK1⟩,yd⟩
  ·
   rw [if_neg c2] at H
   have c2b0 : decide (x4_1 < (l0.length : Int))=false:=decide_eq_false c2
   clear c2
   obtain rfl:=Option.some.inj H
   go_wp2
   go_ret
   exact ⟨yq,yd⟩
def psalteryref10_Width.j0 : Nat→Int→Bool→Option (Int)
 | 0,_,_=>none
 | k+1,x3,x4=>if x4=true then (some 1) else (if x3=2 then (some 2) else (if x3=3 then (some 4) else (if x3=4 then (some 8) else (some 0))))
def psalteryref10_Width.f (k : Nat) (a0 : Int) : Option (Int):=if a0=0 then (psalteryref10_Width.j0 k a0 (a0 == 0)) else (psalteryref10_Width.j0 k a0 (a0 == 1))
theorem psalteryref10_Width.mono_l : ∀ k,(∀ y0 y1,LeO (psalteryref10_Width.j0 k y0 y1) (psalteryref10_Width.j0 (k+1) y0 y1))
 | 0=>fun _ _ r h=>by simp [psalteryref10_Width.j0] at h
 | k+1=>by
  have ih0:=psalteryref10_Width.mono_l k
  ·
   intro y0 y1
   unfold psalteryref10_Width.j0
   repeat' with_reducible first|apply ih0|apply yLr|apply yLn|apply yLi|apply yLb|intro _
theorem psalteryref10_Width.mono : ∀ a0 k,LeO (psalteryref10_Width.f k a0) (psalteryref10_Width.f (k+1) a0):=by
 intro a0 k
 have ih0:=psalteryref10_Width.mono_l k
 unfold psalteryref10_Width.f
 repeat' with_reducible first|apply ih0|apply yLr|apply yLn|apply yLi|apply yLb|intro _
set_option maxHeartbeats 8000000 in
set_option maxRecDepth 100000 in
theorem psalteryref10_Width.calls (k : Nat) (a0 : Int) (r : Int) (w : World) (h : psalteryref10_Width.f k a0=some r) :
  Calls Try.prog 46 #[.int .i64 a0] w fun e w' => e=.returned (.int .i64 r)∧Drawn0 w w' := by
 have H : (if a0=0 then (psalteryref10_Width.j0 k a0 (a0 == 0)) else (psalteryref10_Width.j0 k a0 (a0 == 1)))=some r:=h
 clear h;have HC2:=zm H;clear H
 go_enter Try.func46,Try.ntmps46
 go_upto_if 4 with (fail)
 go_cut [4] (fun v4 wc => ∃ (kq : Nat) (x4_1 : Bool),v4=.bool x4_1∧Aside0 (psalteryref10_Width.j0 kq a0 x4_1=some r)∧Aside0 (kq≤k)∧Drawn0 w wc)
 case first =>
  have H:=HC2.out;clear HC2
  by_cases c3 : a0=0
  ·
   rw [if_pos c3] at H
   have c3b0 : (a0 == 0)=true:=beq_iff_eq.mpr c3
   have c3b1 : (a0 != 0)=false:=bne_eq_false_iff_eq.mpr c3
   clear c3
   (first|rw [c3b0]|(simp only [i64_w,i32_w];rw [c3b0])|skip)
   have H' := zm H
   clear H
   go_wp2
   go_meet
   case rel=>exact ⟨_,((a0 == 0)),yq,H',⟨yo⟩,yd⟩
  ·
   rw [if_neg c3] at H
   have c3b0 : (a0 == 0)=false:=beq_eq_false_iff_ne.mpr c3
   have c3b1 : (a0 != 0)=true:=bne_iff_ne.mpr c3
   (first|rw [c3b0]|(simp only [i64_w,i32_w];rw [c3b0])|skip)
   have H' := zm H
   clear H
   go_wp2
   go_meet
   case rel=>exact ⟨_,((a0 == 1)),yq,H',⟨yo⟩,yd⟩
 case rest =>
  clear HC2
  obtain ⟨kq,x4_1,rfl,HA,HJ1,⟨mc1,rfl⟩⟩:=hcut
  obtain ⟨kj1,rfl⟩:=ysu kq (fun h=>by subst h;exact absurd HA.out (by simp [psalteryref10_Width.j0]))
  have H:=HA.out;clear HA
  simp only [psalteryref10_Width.j0] at H
  by_cases c4 : x4_1=true
  ·
   subst c4
   rw [if_pos rfl] at H
   obtain rfl:=Option.some.inj H
   go_wp2
   go_ret
   exact ⟨yq,yd⟩
  ·
   replace c4:=Bool.eq_false_iff.mpr c4
   subst c4
   rw [ynf] at H
   by_cases c5 : a0=2
   ·
    rw [if_pos c5] at H
    have c5b0 : (a0 == 2)=true:=beq_iff_eq.mpr c5
    have c5b1 : (a0 != 2)=false:=bne_eq_false_iff_eq.mpr c5
    clear c5
    obtain rfl:=Option.some.inj H
    go_wp2
    go_ret
    exact ⟨yq,yd⟩
   ·
    rw [if_neg c5] at H
    have c5b0 : (a0 == 2)=false:=beq_eq_false_iff_ne.mpr c5
    have c5b1 : (a0 != 2)=true:=bne_iff_ne.mpr c5
    by_cases c6 : a0=3
    ·
     rw [if_pos c6] at H
     have c6b0 : (a0 == 3)=true:=beq_iff_eq.mpr c6
     have c6b1 : (a0 != 3)=false:=bne_eq_false_iff_eq.mpr c6
     clear c6
     obtain rfl:=Option.some.inj H
     go_wp2
     go_ret
     exact ⟨yq,yd⟩
    ·
     rw [if_neg c6] at H
     have c6b0 : (a0 == 3)=false:=beq_eq_false_iff_ne.mpr c6
     have c6b1 : (a0 != 3)=true:=bne_iff_ne.mpr c6
     by_cases c7 : a0=4
     ·
      rw [if_pos c7] at H
      have c7b0 : (a0 == 4)=true:=beq_iff_eq.mpr c7
      have c7b1 : (a0 != 4)=false:=bne_eq_false_iff_eq.mpr c7
      clear c7
      obtain rfl:=Option.some.inj H
      go_wp2
      go_ret
      exact ⟨yq,yd⟩
     ·
      rw [if_neg c7] at H
      have c7b0 : (a0 == 4)=false:=beq_eq_false_iff_ne.mpr c7
      have c7b1 : (a0 != 4)=true:=bne_iff_ne.mpr c7
      obtain rfl:=Option.some.inj H
      go_wp2
      go_ret
      exact ⟨yq,yd⟩
def psalteryref12_More.f (l0 : List Int) (a1 : Int) : Option (List Int):=(some (([] : List Int) : List Int)).bind fun y677=>(if y677.length+l0.length < 17592186044416 then ((some (y677 ++ l0 : List Int)).bind fun y680=>(if 0≤a1 then (if a1 < (y680.length : Int) then (some (y680.set (a1 : Int).toNat (wrap64 ((rd y680 a1)+1)))) else (none)) else (none))) else (none))
set_option maxHeartbeats 8000000 in
set_option maxRecDepth 100000 in
theorem psalteryref12_More.calls (A0 : Option Addr) (c0 : Nat) (l0 : List Int) (a1 : Int) (r : List Int) (w : World) (hr0 : Kd.C (Kd.int .i64) w A0 l0.length l0) (hc0 : l0.length≤c0) (h : psalteryref12_More.f l0 a1=some r) :
  Calls Try.prog 96 #[.slice A0 l0.length c0, .int .i64 a1] w fun e w' => ∃ v0_ : Value,e=.returned (v0_)∧Kd.R (Kd.int .i64) 3 w' w.heap.size (fun _=>True) v0_ r∧Below w.heap.size w w' := by
 have HR0:=zm hr0;have HC0:=zm hc0;clear hr0 hc0;have HB:=zm (Below.refl w.heap.size w)
 have H : ((some (([] : List Int) : List Int)).bind fun y677=>(if y677.length+l0.length < 17592186044416 then ((some (y677 ++ l0 : List Int)).bind fun y680=>(if 0≤a1 then (if a1 < (y680.length : Int) then (some (y680.set (a1 : Int).toNat (wrap64 ((rd y680 a1)+1)))) else (none)) else (none))) else (none)))=some r:=h
 clear h
 obtain ⟨y677,hy677⟩ : ∃ y_ : List Int,y_=(([] : List Int)):=⟨_,rfl⟩
 replace H : (if y677.length+l0.length < 17592186044416 then ((some (y677 ++ l0 : List Int)).bind fun y680=>(if 0≤a1 then (if a1 < (y680.length : Int) then (some (y680.set (a1 : Int).toNat (wrap64 ((rd y680 a1)+1)))) else (none)) else (none))) else (none))=some r:=yrw hy677 H
 have Ny677:=zm hy677;clear hy677
 obtain ⟨c3,H⟩:=yif H
 have LMc3:=zm c3;clear c3
 obtain ⟨y680,hy680⟩ : ∃ y_ : List Int,y_=(y677 ++ l0):=⟨_,rfl⟩
 replace H : (if 0≤a1 then (if a1 < (y680.length : Int) then (some (y680.set (a1 : Int).toNat (wrap64 ((rd y680 a1)+1)))) else (none)) else (none))=some r:=yrw hy680 H
 have Ny680:=zm hy680;clear hy680
 obtain ⟨c4,H⟩:=yif H
 have c4b0 : decide (0≤a1)=true:=decide_eq_true c4
 clear c4
 obtain ⟨c5,H⟩:=yif H
 have c5b0 : decide (a1 < (y680.length : Int))=true:=decide_eq_true c5
 clear c5
 obtain ⟨y684,hy684⟩ : ∃ y_ : List Int,y_=(y680.set (a1 : Int).toNat (wrap64 ((rd y680 a1)+1))):=⟨_,rfl⟩
 replace H : (some y684)=some r:=yrw hy684 H
 have Ny684:=zm hy684;clear hy684
 obtain rfl:=Option.some.inj H
 go_enter Try.func96,Try.ntmps96
 go_wp2_with (first|((with_reducible refine gate_dst (N:=6) rfl ?_);refine Kd.R_lit (Kd.int .i64) _ 3 ?hg (N:=6) ?hd (xs:=([] : List Int)) (inner := []) (ok:=fun _=>True) (okp:=fun _=>True) ?hr ?hp (fun _ hk=>hk) trivial (Below.refl _ _) (Nat.le_refl _) (by simp) ?_;(case hd=>rfl);(case hg=>rfl);(case hr=>first|(go_simp;done)|(go_simp;rfl));(case hp=>exact (Reps.none _ _));intro v678 w7 ho8 hb hg_ hnew_;clear hg_ hnew_;(first|rw [← Ny677.out] at ho8|(simp only [Int.reduceToNat] at ho8;rw [← Ny677.out] at ho8));have HO679:=zm (Kd.R_lower ho8 (zE yhb));replace HB:=ybs hb;clear hb ho8)|((with_reducible refine gate_builtin (b:=.append) (xs := #[.tmp 6, .tmp 7]) rfl ?_);at_builtin;refine Kd.R_append_rows (Kd.int .i64) (w0:=w) w.heap.size rfl (.tmp 6) (.tmp 7) 49 3 (.int .i64 0) 8 rfl Try.underlying49 info3 rfl (by decide) (by omega) v678 y677 l0 _ _ _ (fun _=>True) (fun _=>False) rfl rfl ?aO ?aR (fun _ _ h=>h) (fun _ h=>h.elim) ?aF ?aB ?aS ?aL ?_;(case aR=>exact ycb HR0);(case aB=>exact yhb);(case aF=>exact (fun _ _=>trivial));(case aO=>exact (yr HO679));(case aS=>exact (zE yhb));(case aL=>have:=LMc3.out;omega);intro v681 w9 ho hb hg hat;rw [← Ny680.out] at ho;replace HB:=zm (hb);have HO682:=zm (ho);clear HO679;clear ho hb hg hat;obtain ⟨Ao10,co10,eo10⟩:=Kd.R_slice HO682.out;subst eo10;have p683 : 0≤(a1 : Int):=yt;have q683 : a1 < (y680.length : Int):=yt;obtain ⟨ad683,e683,hx683_0⟩:=Kd.at_int (Kd.R_reads' HO682.out).2.2 a1 p683 q683;cases e683;replace p683:=eq_true p683;replace q683:=eq_true q683;have p6 : 0≤(a1 : Int):=yt;have q6 : (a1 : Int) < ((y680.length : Int) : Int):=yt;obtain ⟨go6,co6,eo6,gb6,gl6,cl6,HG6⟩:=Kd.R_form HO682.out (by omega);(first|cases eo6|(injection eo6 with ea_ en_ ec_;(first|subst ea_|(injection ea_ with ea_;subst ea_));subst ec_;clear en_));have GB6:=zm gb6;have GG6:=zm HG6;clear gb6 gl6 HG6;(first|simp only [add_plain] at hx683_0|skip);obtain ⟨hx6_0,hf6_0⟩:=Kd.R_celln 0 HO682.out (a1 : Int) p6 q6;replace p6:=eq_true p6;replace q6:=eq_true q6;obtain ⟨hy11_,hz11_⟩:=Kd.R_celln 0 HO682.out (a1 : Int) (yt) (yt);have HP11:=Kd.R_putg HO682.out (a1 : Int) (wrap64 ((rd y680 a1)+1)))|((with_reducible refine gate_store (t:=3) (p:=16) rfl ?_);refine store_event (t:=3) (p:=16) (v := ?vo_w12) (w1:=(w9.setCell ⟨go6,(a1 : Int).toNat,none⟩ (.int .i64 (wrap64 ((rd y680 a1)+1))))) ?hg ?ho ?hn ?hr ?_;(case ho=>rfl);(case hg=>rfl);(case hn=>rfl);(case hr=>first|(go_simp;done)|(go_simp;rfl));intro w12 hw;have hg : w9.grownBy w12 (some go6):=(by rw [hw];exact HP11.2);have hp_ : Kd.R (Kd.int .i64) 3 w12 w.heap.size (fun _=>True) (.slice (some ⟨go6,0,none⟩) y680.length co10) y684:=(by rw [hw,Ny684.out];exact HP11.1);clear HP11;replace HO682:=zm (hp_);replace HB:=zm ((by rw [hw];exact zk (HB.out) GB6.out : Below w.heap.size w w12));clear hg hw hp_))
 go_ret
 exact ⟨_,ye,yr HO682,yhb⟩
def psalteryref03_Log2.f : Nat→Int→Option (Int)
 | 0,_=>none
 | k+1,a0=>if a0=0 then (some (-1)) else ((psalteryref03_Log2.f k (IntKind.u64.wrap (Int.tdiv a0 2))).bind fun t700=>(some (wrap64 (1+t700))))
theorem psalteryref03_Log2.mono_l : ∀ k,(∀ y0,LeO (psalteryref03_Log2.f k y0) (psalteryref03_Log2.f (k+1) y0))
 | 0=>fun _ r h=>by simp [psalteryref03_Log2.f] at h
 | k+1=>by
  have ih0:=psalteryref03_Log2.mono_l k
  ·
   intro y0
   unfold psalteryref03_Log2.f
   repeat' with_reducible first|apply ih0|apply yLr|apply yLn|apply yLi|apply yLb|intro _
theorem psalteryref03_Log2.mono : ∀ a0 k,LeO (psalteryref03_Log2.f k a0) (psalteryref03_Log2.f (k+1) a0):=by
 intro a0 k
 have ih0:=psalteryref03_Log2.mono_l k
 exact ih0 a0
set_option maxHeartbeats 8000000 in
set_option maxRecDepth 100000 in
theorem psalteryref03_Log2.calls (k : Nat) : ∀ (a0 : Int) (r : Int) (w : World) (h : psalteryref03_Log2.f k a0=some r),
  Calls Try.prog 102 #[.int .u64 a0] w fun e w' => e=.returned (.int .i64 r)∧Drawn0 w w' := by
 induction k using Nat.strongRecOn with
 | _ k ih =>
 intro a0 r w h
 cases k with
 | zero=>exact absurd h (by simp [psalteryref03_Log2.f])
 | succ k =>
 simp only [psalteryref03_Log2.f] at h
 have H : (if a0=0 then (some (-1)) else ((psalteryref03_Log2.f k (IntKind.u64.wrap (Int.tdiv a0 2))).bind fun t700=>(some (wrap64 (1+t700)))))=some r:=h
 clear h
 by_cases c2 : a0=0
 ·
  rw [if_pos c2] at H
  have c2b0 : (a0 == 0)=true:=beq_iff_eq.mpr c2
  have c2b1 : (a0 != 0)=false:=bne_eq_false_iff_eq.mpr c2
  clear c2
  obtain rfl:=Option.some.inj H
  go_enter Try.func102,Try.ntmps102
  go_wp2
  go_ret
  exact ⟨yq,yd⟩
 ·
  rw [if_neg c2] at H
  have c2b0 : (a0 == 0)=false:=beq_eq_false_iff_ne.mpr c2
  have c2b1 : (a0 != 0)=true:=bne_iff_ne.mpr c2
  obtain ⟨t700,A3,H⟩:=ybi H
  obtain rfl:=Option.some.inj H
  go_enter Try.func102,Try.ntmps102
  go_wp2_with (first|((with_reducible refine gate_callee (f:=102) rfl ?_);refine ygl 7 Try.func102 #[.int .u64 (IntKind.u64.wrap (Int.tdiv a0 2))] ?_;(with_reducible refine (ih k (by omega) (IntKind.u64.wrap (Int.tdiv a0 2)) t700 _ A3.out).mono ?_);rintro e w' ⟨rfl,⟨nd,rfl⟩⟩;refine ⟨_,rfl, ?_⟩))
  go_ret
  exact ⟨yq,yd⟩
mutual
def psalteryref06_Row.l0 : Nat→Int→List Int→Int→Option (List Int)
 | 0,_,_,_=>none
 | k+1,x0,x3,x4=>if x4≤12 then (if x4=0 then (if x3.length < 17592186044416 then (psalteryref06_Row.l0 k x0 (x3 ++ [1]) (wrap64 (x4+1))) else (none)) else (if x3.length < 17592186044416 then (psalteryref06_Row.l0 k x0 (x3 ++ [0]) (wrap64 (x4+1))) else (none))) else (psalteryref06_Row.l1 k x0 x3 0)
def psalteryref06_Row.l1 : Nat→Int→List Int→Int→Option (List Int)
 | 0,_,_,_=>none
 | k+1,x0,x3,x5=>if x5 < x0 then (psalteryref06_Row.l2 k x0 x3 x5 ([] : List Int) 0) else (some x3)
def psalteryref06_Row.l2 : Nat→Int→List Int→Int→List Int→Int→Option (List Int)
 | 0,_,_,_,_,_=>none
 | k+1,x0,x3,x5,x6,x7=>if x7≤12 then (if 0≤x7 then (if x7 < (x3.length : Int) then (psalteryref06_Row.l3 k x0 x3 x5 x6 x7 (rd x3 x7) 1) else (none)) else (none)) else (psalteryref06_Row.l1 k x0 x6 (wrap64 (x5+1)))
def psalteryref06_Row.l3 : Nat→Int→List Int→Int→List Int→Int→Int→Int→Option (List Int)
 | 0,_,_,_,_,_,_,_=>none
 | k+1,x0,x3,x5,x6,x7,x8,x9=>if x9≤x7 then (if 0≤(wrap64 (x7 - x9)) then (if (wrap64 (x7 - x9)) < (x3.length : Int) then (psalteryref06_Row.l3 k x0 x3 x5 x6 x7 (IntKind.u64.wrap (x8+(IntKind.u64.wrap (2 * (rd x3 (wrap64 (x7 - x9))))))) (wrap64 (x9+1))) else (none)) else (none)) else (if x6.length < 17592186044416 then (psalteryref06_Row.l2 k x0 x3 x5 (x6 ++ [x8]) (wrap64 (x7+1))) else (none))
end
def psalteryref06_Row.f (k : Nat) (a0 : Int) : Option (List Int):=psalteryref06_Row.l0 k a0 ([] : List Int) 0
theorem psalteryref06_Row.mono_l : ∀ k,(∀ y0 y1 y2,LeO (psalteryref06_Row.l0 k y0 y1 y2) (psalteryref06_Row.l0 (k+1) y0 y1 y2))∧(∀ y0 y1 y2,LeO (psalteryref06_Row.l1 k y0 y1 y2) (psalteryref06_Row.l1 (k+1) y0 y1 y2))∧(∀ y0 y1 y2 y3 y4,LeO (psalteryref06_Row.l2 k y0 y1 y2 y3 y4) (psalteryref06_Row.l2 (k+1) y0 y1 y2 y3 y4))∧(∀ y0 y1 y2 y3 y4 y5 y6,LeO (psalteryref06_Row.l3 k y0 y1 y2 y3 y4 y5 y6) (psalteryref06_Row.l3 (k+1) y0 y1 y2 y3 y4 y5 y6))
 | 0=>⟨fun _ _ _ r h=>by simp [psalteryref06_Row.l0] at h,fun _ _ _ r h=>by simp [psalteryref06_Row.l1] at h,fun _ _ _ _ _ r h=>by simp [psalteryref06_Row.l2] at h,fun _ _ _ _ _ _ _ r h=>by simp [psalteryref06_Row.l3] at h⟩
 | k+1=>by
  obtain ⟨ih0,ih1,ih2,ih3⟩:=psalteryref06_Row.mono_l k
  refine ⟨?_, ?_, ?_, ?_⟩
  ·
   intro y0 y1 y2
   unfold psalteryref06_Row.l0
   repeat' with_reducible first|apply ih0|apply ih1|apply ih2|apply ih3|apply yLr|apply yLn|apply yLi|apply yLb|intro _
  ·
   intro y0 y1 y2
   unfold psalteryref06_Row.l1
   repeat' with_reducible first|apply ih0|apply ih1|apply ih2|apply ih3|apply yLr|apply yLn|apply yLi|apply yLb|intro _
  ·
   intro y0 y1 y2 y3 y4
   unfold psalteryref06_Row.l2
   repeat' with_reducible first|apply ih0|apply ih1|apply ih2|apply ih3|apply yLr|apply yLn|apply yLi|apply yLb|intro _
  ·
   intro y0 y1 y2 y3 y4 y5 y6
   unfold psalteryref06_Row.l3
   repeat' with_reducible first|apply ih0|apply ih1|apply ih2|apply ih3|apply yLr|apply yLn|apply yLi|apply yLb|intro _
theorem psalteryref06_Row.mono : ∀ a0 k,LeO (psalteryref06_Row.f k a0) (psalteryref06_Row.f (k+1) a0):=by
 intro a0 k
 obtain ⟨ih0,ih1,ih2,ih3⟩:=psalteryref06_Row.mono_l k
 unfold psalteryref06_Row.f
 repeat' with_reducible first|apply ih0|apply ih1|apply ih2|apply ih3|apply yLr|apply yLn|apply yLi|apply yLb|intro _
set_option maxHeartbeats 8000000 in
set_option maxRecDepth 100000 in
theorem psalteryref06_Row.calls (k : Nat) (a0 : Int) (r : List Int) (w : World) (h : psalteryref06_Row.f k a0=some r) :
  Calls Try.prog 81 #[.int .i64 a0] w fun e w' => ∃ v0_ : Value,e=.returned (v0_)∧Kd.R (Kd.int .u64) 51 w' w.heap.size (fun _=>True) v0_ r∧Below w.heap.size w w' := by
 have HB:=zm (Below.refl w.heap.size w)
 have H : (psalteryref06_Row.l0 k a0 ([] : List Int) 0)=some r:=h
 clear h
 have H' := zm H
 clear H
 go_enter Try.func81,Try.ntmps81
 go_wp2
 go_loopg [3,4] k (fun kq v3 v4 w' => ∃ (x3_1 : List Int) (x4_1 : Int),v4=.int .i64 x4_1∧Aside0 (psalteryref06_Row.l0 kq a0 x3_1 x4_1=some r)∧Aside0 (kq≤k)∧Aside0 (Kd.R (Kd.int .u64) 51 w' w.heap.size (fun _=>True) v3 x3_1)∧Aside0 (Below w.heap.size w w'))
 case atStart=>exact ⟨(([] : List Int)),(0),yq,H',⟨Nat.le_refl _⟩,⟨yn⟩,⟨yhb⟩⟩
 case round =>
  clear H'
  obtain ⟨x3_1,x4_1,rfl,HA,HK1,HO_3,HB⟩:=hrel
  obtain ⟨k1,rfl⟩:=ysu gk (fun h=>by subst h;exact absurd HA.out (by simp [psalteryref06_Row.l0]))
  have H:=HA.out;clear HA
  simp only [psalteryref06_Row.l0] at H
  by_cases c2 : x4_1≤12
  ·
   rw [if_pos c2] at H
   have c2b0 : decide (x4_1≤12)=true:=decide_eq_true c2
   clear c2
   by_cases c3 : x4_1=0
   ·
    rw [if_pos c3] at H
    have c3b0 : (x4_1 == 0)=true:=beq_iff_eq.mpr c3
    have c3b1 : (x4_1 != 0)=false:=bne_eq_false_iff_eq.mpr c3
    clear c3
    obtain ⟨c4,H⟩:=yif H
    have LMc4:=zm c4;clear c4
    obtain ⟨y685,hy685⟩ : ∃ y_ : List Int,y_=(x3_1 ++ [1]):=⟨_,rfl⟩
    replace H : (psalteryref06_Row.l0 k1 a0 y685 (wrap64 (x4_1+1)))=some r:=yrw hy685 H
    have Ny685:=zm hy685;clear hy685
    have H' := zm H
    clear H
    go_wp2_with (first|((with_reducible refine gate_builtin (b:=.append) (xs := #[.tmp 16, .tmp 17]) rfl ?_);at_builtin;refine Kd.R_append (Kd.int .u64) (w0:=w) w.heap.size rfl (.tmp 16) (.tmp 17) 126 51 (.int .u64 0) 8 rfl Try.underlying126 info51 rfl (by decide) (by omega) u3 x3_1 1 [.int .u64 1] (fun _=>True) (fun _=>False) rfl rfl ?aP (fun _ hk=>hk.elim) ?aF ?aO ?aB ?aS ?aL ?_;(case aP=>exact rfl);(case aB=>exact yhb);(case aF=>exact (fun _ _=>trivial));(case aO=>exact (yr HO_3));(case aS=>exact (zE yhb));(case aL=>have:=LMc4.out;omega);intro v686 w5 ho hb hg hat;rw [← Ny685.out] at ho;replace HB:=zm (hb);have HO687:=zm (ho);clear HO_3;clear ho hb hg hat))
    go_roundg k1
    case measure=>exact yom1 HK1
    case rel=>exact ⟨(y685),(wrap64 (x4_1+1)),yq,H',⟨yom1 HK1⟩,⟨yr HO687⟩,⟨yhb⟩⟩
   ·
    rw [if_neg c3] at H
    have c3b0 : (x4_1 == 0)=false:=beq_eq_false_iff_ne.mpr c3
    have c3b1 : (x4_1 != 0)=true:=bne_iff_ne.mpr c3
    obtain ⟨c6,H⟩:=yif H
    have LMc6:=zm c6;clear c6
    obtain ⟨y688,hy688⟩ : ∃ y_ : List Int,y_=(x3_1 ++ [0]):=⟨_,rfl⟩
    replace H : (psalteryref06_Row.l0 k1 a0 y688 (wrap64 (x4_1+1)))=some r:=yrw hy688 H
    have Ny688:=zm hy688;clear hy688
    have H' := zm H
    clear H
    go_wp2_with (first|((with_reducible refine gate_builtin (b:=.append) (xs := #[.tmp 19, .tmp 20]) rfl ?_);at_builtin;refine Kd.R_append (Kd.int .u64) (w0:=w) w.heap.size rfl (.tmp 19) (.tmp 20) 126 51 (.int .u64 0) 8 rfl Try.underlying126 info51 rfl (by decide) (by omega) u3 x3_1 0 [.int .u64 0] (fun _=>True) (fun _=>False) rfl rfl ?aP (fun _ hk=>hk.elim) ?aF ?aO ?aB ?aS ?aL ?_;(case aP=>exact rfl);(case aB=>exact yhb);(case aF=>exact (fun _ _=>trivial));(case aO=>exact (yr HO_3));(case aS=>exact (zE yhb));(case aL=>have:=LMc6.out;omega);intro v689 w7 ho hb hg hat;rw [← Ny688.out] at ho;replace HB:=zm (hb);have HO690:=zm (ho);clear HO_3;clear ho hb hg hat))
    go_roundg k1
    case measure=>exact yom1 HK1
    case rel=>exact ⟨(y688),(wrap64 (x4_1+1)),yq,H',⟨yom1 HK1⟩,⟨yr HO690⟩,⟨yhb⟩⟩
  ·
   rw [if_neg c2] at H
   have c2b0 : decide (x4_1≤12)=false:=decide_eq_false c2
   clear c2
   have H' := zm H
   clear H
   go_wp2
   go_loopg [3,5] k1 (fun kq v3 v5 w' => ∃ (x3_2 : List Int) (x5_2 : Int),v5=.int .i64 x5_2∧Aside0 (psalteryref06_Row.l1 kq a0 x3_2 x5_2=some r)∧Aside0 (kq≤k1)∧Aside0 (Kd.R (Kd.int .u64) 51 w' w.heap.size (fun _=>True) v3 x3_2)∧Aside0 (Below w.heap.size w w'))
   case atStart=>exact ⟨(x3_1),(0),yq,H',⟨Nat.le_refl _⟩,⟨yr HO_3⟩,⟨yhb⟩⟩
   case round =>
    clear H'
    try clear c2b0
    try clear c3
    obtain ⟨x3_2,x5_2,rfl,HA,HK2,HO_3,HB⟩:=hrel
    obtain ⟨k2,rfl⟩:=ysu gk (fun h=>by subst h;exact absurd HA.out (by simp [psalteryref06_Row.l1]))
    have H:=HA.out;clear HA
    simp only [psalteryref06_Row.l1] at H
    by_cases c8 : x5_2 < a0
    ·
     rw [if_pos c8] at H
     have c8b0 : decide (x5_2 < a0)=true:=decide_eq_true c8
     clear c8
     have H' := zm H
     clear H
     go_wp2
     go_loopg [6,7] k2 (fun kq v6 v7 w' => ∃ (x6_3 : List Int) (x7_3 : Int),v7=.int .i64 x7_3∧Aside0 (psalteryref06_Row.l2 kq a0 x3_2 x5_2 x6_3 x7_3=some r)∧Aside0 (kq≤k2)∧Aside0 (Kd.R (Kd.int .u64) 51 w' w.heap.size (fun k_=>some k_≠(v6 : Value).ownBlock) u3 x3_2)∧Aside0 (Kd.R (Kd.int .u64) 51 w' w.heap.size (fun k_=>some k_≠(u3 : Value).ownBlock) v6 x6_3)∧Aside0 (Below w.heap.size w w'))
     case atStart=>exact ⟨(([] : List Int)),(0),yq,H',⟨Nat.le_refl _⟩,⟨yR0 HO_3⟩,⟨yn⟩,⟨yhb⟩⟩
     case round =>
      clear H'
      try clear c8b0
      obtain ⟨x6_3,x7_3,rfl,HA,HK3,HO_3,HO_6,HB⟩:=hrel
      obtain ⟨k3,rfl⟩:=ysu gk (fun h=>by subst h;exact absurd HA.out (by simp [psalteryref06_Row.l2]))
      have H:=HA.out;clear HA
      simp only [psalteryref06_Row.l2] at H
      by_cases c9 : x7_3≤12
      ·
       rw [if_pos c9] at H
       have c9b0 : decide (x7_3≤12)=true:=decide_eq_true c9
       clear c9
       obtain ⟨c10,H⟩:=yif H
       have c10b0 : decide (0≤x7_3)=true:=decide_eq_true c10
       clear c10
       obtain ⟨c11,H⟩:=yif H
       have c11b0 : decide (x7_3 < (x3_2.length : Int))=true:=decide_eq_true c11
       clear c11
       have H' := zm H
       clear H
       obtain ⟨Ao12,co12,eo12⟩:=Kd.R_slice HO_3.out
       subst eo12
       have p691 : 0≤(x7_3 : Int):=yt
       have q691 : x7_3 < (x3_2.length : Int):=yt
       obtain ⟨ad691,e691,hx691_0⟩:=Kd.at_int (Kd.R_reads' HO_3.out).2.2 x7_3 p691 q691
       cases e691
       replace p691:=eq_true p691
       replace q691:=eq_true q691
       go_wp2
       go_loopg [8,9] k3 (fun kq v8 v9 w' => ∃ (x8_4 : Int) (x9_4 : Int),v8=.int .u64 x8_4∧v9=.int .i64 x9_4∧Aside0 (psalteryref06_Row.l3 kq a0 x3_2 x5_2 x6_3 x7_3 x8_4 x9_4=some r)∧Aside0 (kq≤k3)∧Aside0 (Kd.R (Kd.int .u64) 51 w' w.heap.size (fun k_=>some k_≠(u6 : Value).ownBlock) (.slice (some ad691) x3_2.length co12) x3_2)∧Aside0 (Kd.R (Kd.int .u64) 51 w' w.heap.size (fun k_=>some k_≠((.slice (some ad691) x3_2.length co12) : Value).ownBlock) u6 x6_3)∧Aside0 (Below w.heap.size w w'))
       case atStart=>exact ⟨(rd x3_2 x7_3),(1),yq,yq,H',⟨Nat.le_refl _⟩,⟨yr HO_3⟩,⟨yr HO_6⟩,⟨yhb⟩⟩
       case round =>
        clear H'
        try clear c9b0
        try clear c10b0
        try clear c11b0
        try clear hx691_0
        try clear p691
        try clear q691
        obtain ⟨x8_4,x9_4,rfl,rfl,HA,HK4,HO_3,HO_6,HB⟩:=hrel
        obtain ⟨k4,rfl⟩:=ysu gk (fun h=>by subst h;exact absurd HA.out (by simp [psalteryref06_Row.l3]))
        have H:=HA.out;clear HA
        simp only [psalteryref06_Row.l3] at H
        by_cases c13 : x9_4≤x7_3
        ·
         rw [if_pos c13] at H
         have c13b0 : decide (x9_4≤x7_3)=true:=decide_eq_true c13
         clear c13
         obtain ⟨ji14,hji14⟩ : ∃ j_ : Int,(wrap64 (x7_3 - x9_4))=j_:=⟨_,rfl⟩
         replace H : (if 0≤(ji14) then (if (ji14) < (x3_2.length : Int) then (psalteryref06_Row.l3 k4 a0 x3_2 x5_2 x6_3 x7_3 (IntKind.u64.wrap (x8_4+(IntKind.u64.wrap (2 * (rd x3_2 (ji14)))))) (wrap64 (x9_4+1))) else (none)) else (none))=some r:=by first|(rw [hji14] at H;exact H)|(simp only [hji14] at H ⊢; exact H)
         have hji14w : (IntKind.i64.wrap (x7_3 - x9_4))=ji14:=(i64_w _).trans hji14
         obtain ⟨c15,H⟩:=yif H
         have c15b0 : decide (0≤(ji14))=true:=decide_eq_true c15
         clear c15
         obtain ⟨c16,H⟩:=yif H
         have c16b0 : decide ((ji14) < (x3_2.length : Int))=true:=decide_eq_true c16
         clear c16
         have H' := zm H
         clear H
         have p692 : 0≤((ji14) : Int):=yt
         have q692 : (ji14) < (x3_2.length : Int):=yt
         obtain ⟨ad692,e692,hx692_0⟩:=Kd.at_int (Kd.R_reads' HO_3.out).2.2 (ji14) p692 q692
         obtain rfl : ad691=ad692:=(by injection e692)
         replace p692:=eq_true p692
         replace q692:=eq_true q692
         go_wp2
         go_roundg k4
         case measure=>exact yom4 HK1 HK2 HK3 HK4
         case rel=>exact ⟨(IntKind.u64.wrap (x8_4+(IntKind.u64.wrap (2 * (rd x3_2 (ji14)))))),(wrap64 (x9_4+1)),(by first|rfl|(simp;done)|(simp only [← hji14] <;> (first|rfl|simp))|(simp [*];done)),yq,H',⟨yom4 HK1 HK2 HK3 HK4⟩,⟨yr HO_3⟩,⟨yr HO_6⟩,⟨yhb⟩⟩
        ·
         rw [if_neg c13] at H
         have c13b0 : decide (x9_4≤x7_3)=false:=decide_eq_false c13
         clear c13
         obtain ⟨c17,H⟩:=yif H
         have LMc17:=zm c17;clear c17
         obtain ⟨y693,hy693⟩ : ∃ y_ : List Int,y_=(x6_3 ++ [x8_4]):=⟨_,rfl⟩
         replace H : (psalteryref06_Row.l2 k4 a0 x3_2 x5_2 y693 (wrap64 (x7_3+1)))=some r:=yrw hy693 H
         have Ny693:=zm hy693;clear hy693
         have H' := zm H
         clear H
         go_wp2_with (first|((with_reducible refine gate_builtin (b:=.append) (xs := #[.tmp 49, .tmp 51]) rfl ?_);at_builtin;refine Kd.R_append (Kd.int .u64) (w0:=w) w.heap.size rfl (.tmp 49) (.tmp 51) 126 51 (.int .u64 0) 8 rfl Try.underlying126 info51 rfl (by decide) (by omega) u6 x6_3 x8_4 [.int .u64 x8_4] (fun k_=>some k_≠(.slice (some ad691) x3_2.length co12 : Value).ownBlock) (fun _=>False) rfl rfl ?aP (fun _ hk=>hk.elim) ?aF ?aO ?aB ?aS ?aL ?_;(case aP=>exact rfl);(case aB=>exact yhb);(case aF=>exact (fun k_ hk=>Kd.fresh' (Kd.R_lt (yr HO_3)) k_ hk));(case aO=>exact (yr HO_6));(case aS=>exact (zE yhb));(case aL=>have:=LMc17.out;omega);intro v694 w18 ho hb hg hat;rw [← Ny693.out] at ho;replace HO_3:=zm (Kd.R_after (ok:=(fun _=>True)) (yR0 HO_3) hg hat);replace HB:=zm (hb);have HO695:=zm (ho);clear HO_6;clear ho hb hg hat))
         go_roundg k4
         case measure=>exact yom4 HK1 HK2 HK3 HK4
         case rel=>exact ⟨(y693),(wrap64 (x7_3+1)),yq,H',⟨yom4 HK1 HK2 HK3 HK4⟩,⟨yR0 HO_3⟩,⟨yr HO695⟩,⟨yhb⟩⟩
      ·
       rw [if_neg c9] at H
       have c9b0 : decide (x7_3≤12)=false:=decide_eq_false c9
       clear c9
       have H' := zm H
       clear H
       go_wp2
       go_roundg k3
       case measure=>exact yom3 HK1 HK2 HK3
       case rel=>exact ⟨(x6_3),(wrap64 (x5_2+1)),yq,H',⟨yom3 HK1 HK2 HK3⟩,⟨yR0 HO_6⟩,⟨yhb⟩⟩
    ·
     rw [if_neg c8] at H
     have c8b0 : decide (x5_2 < a0)=false:=decide_eq_false c8
     clear c8
     obtain rfl:=Option.some.inj H
     go_wp2
     go_ret
     exact ⟨_,ye,yr HO_3,yhb⟩
def psalteryref06_Count.f (k : Nat) (a0 : Int) (a1 : Int) : Option (Int):=(psalteryref06_Row.f k a0).bind fun t696=>(if 0≤a1 then (if a1 < (t696.length : Int) then (some (rd t696 a1)) else (none)) else (none))
theorem psalteryref06_Count.mono : ∀ a0 a1 k,LeO (psalteryref06_Count.f k a0 a1) (psalteryref06_Count.f (k+1) a0 a1):=by
 intro a0 a1 k
 unfold psalteryref06_Count.f
 repeat' with_reducible first|apply psalteryref06_Row.mono|apply yLr|apply yLn|apply yLi|apply yLb|intro _
set_option maxHeartbeats 8000000 in
set_option maxRecDepth 100000 in
theorem psalteryref06_Count.calls (k : Nat) (a0 : Int) (a1 : Int) (r : Int) (w : World) (h : psalteryref06_Count.f k a0 a1=some r) :
  Calls Try.prog 43 #[.int .i64 a0, .int .i64 a1] w fun e w' => e=.returned (.int .u64 r)∧Below w.heap.size w w' := by
 have HB:=zm (Below.refl w.heap.size w)
 have H : ((psalteryref06_Row.f k a0).bind fun t696=>(if 0≤a1 then (if a1 < (t696.length : Int) then (some (rd t696 a1)) else (none)) else (none)))=some r:=h
 clear h
 obtain ⟨t696,A3,H⟩:=ybi H
 obtain ⟨c4,H⟩:=yif H
 have c4b0 : decide (0≤a1)=true:=decide_eq_true c4
 clear c4
 obtain ⟨c5,H⟩:=yif H
 have c5b0 : decide (a1 < (t696.length : Int))=true:=decide_eq_true c5
 clear c5
 obtain rfl:=Option.some.inj H
 go_enter Try.func43,Try.ntmps43
 go_wp2_with (first|((with_reducible refine gate_callee (f:=81) rfl ?_);refine ygl 6 Try.func81 #[.int .i64 a0] ?_;(with_reducible refine (psalteryref06_Row.calls k a0 t696 _ A3.out).mono ?_);rintro e w6 ⟨v697,rfl,ho0,hb⟩;refine ⟨_,rfl, ?_⟩;have HO698:=zm (Kd.R_lower ho0 (zE yhb));replace HB:=ybs hb;(try clear hb);(try clear ho0);obtain ⟨Ao7,co7,eo7⟩:=Kd.R_slice HO698.out;subst eo7;have p699 : 0≤(a1 : Int):=yt;have q699 : a1 < (t696.length : Int):=yt;obtain ⟨ad699,e699,hx699_0⟩:=Kd.at_int (Kd.R_reads' HO698.out).2.2 a1 p699 q699;cases e699;replace p699:=eq_true p699;replace q699:=eq_true q699))
 go_ret
 exact ⟨ye,yhb⟩
def psalteryref06_Cost.f (k : Nat) (a0 : Int) (a1 : Int) : Option (Int):=(psalteryref06_Count.f k a0 a1).bind fun t701=>(if (IntKind.u64.wrap (t701 - 1)) < 65536 then ((psalteryref03_Log2.f k (IntKind.u64.wrap (t701 - 1))).bind fun t702=>(some (wrap64 (1+t702)))) else ((psalteryref03_Log2.f k (IntKind.u64.wrap (Int.tdiv (IntKind.u64.wrap (t701 - 1)) 65536))).bind fun t703=>(some (wrap64 (17+t703)))))
theorem psalteryref06_Cost.mono : ∀ a0 a1 k,LeO (psalteryref06_Cost.f k a0 a1) (psalteryref06_Cost.f (k+1) a0 a1):=by
 intro a0 a1 k
 unfold psalteryref06_Cost.f
 repeat' with_reducible first|apply psalteryref03_Log2.mono|apply psalteryref06_Count.mono|apply yLr|apply yLn|apply yLi|apply yLb|intro _
set_option maxHeartbeats 8000000 in
set_option maxRecDepth 100000 in
theorem psalteryref06_Cost.calls (k : Nat) (a0 : Int) (a1 : Int) (r : Int) (w : World) (h : psalteryref06_Cost.f k a0 a1=some r) :
  Calls Try.prog 101 #[.int .i64 a0, .int .i64 a1] w fun e w' => e=.returned (.int .i64 r)∧Below w.heap.size w w' := by
 have HB:=zm (Below.refl w.heap.size w)
 have H : ((psalteryref06_Count.f k a0 a1).bind fun t701=>(if (IntKind.u64.wrap (t701 - 1)) < 65536 then ((psalteryref03_Log2.f k (IntKind.u64.wrap (t701 - 1))).bind fun t702=>(some (wrap64 (1+t702)))) else ((psalteryref03_Log2.f k (IntKind.u64.wrap (Int.tdiv (IntKind.u64.wrap (t701 - 1)) 65536))).bind fun t703=>(some (wrap64 (17+t703))))))=some r:=h
 clear h
 obtain ⟨t701,A3,H⟩:=ybi H
 by_cases c4 : (IntKind.u64.wrap (t701 - 1)) < 65536
 ·
  rw [if_pos c4] at H
  have c4b0 : decide ((IntKind.u64.wrap (t701 - 1)) < 65536)=true:=decide_eq_true c4
  clear c4
  obtain ⟨t702,A5,H⟩:=ybi H
  obtain rfl:=Option.some.inj H
  go_enter Try.func101,Try.ntmps101
  go_wp2_with (first|((with_reducible refine gate_callee (f:=43) rfl ?_);refine ygl 8 Try.func43 #[.int .i64 a0, .int .i64 a1] ?_;(with_reducible refine (psalteryref06_Count.calls k a0 a1 t701 _ A3.out).mono ?_);rintro e w6 ⟨rfl,hb⟩;refine ⟨_,rfl, ?_⟩;replace HB:=ybs hb;(try clear hb))|((with_reducible refine gate_callee (f:=102) rfl ?_);refine ygl 13 Try.func102 #[.int .u64 (IntKind.u64.wrap (t701 - 1))] ?_;(with_reducible refine (psalteryref03_Log2.calls k (IntKind.u64.wrap (t701 - 1)) t702 _ A5.out).mono ?_);rintro e w' ⟨rfl,⟨nd,rfl⟩⟩;refine ⟨_,rfl, ?_⟩))
  go_ret
  exact ⟨ye,yhb⟩
 ·
  rw [if_neg c4] at H
  have c4b0 : decide ((IntKind.u64.wrap (t701 - 1)) < 65536)=false:=decide_eq_false c4
  clear c4
  obtain ⟨t703,A7,H⟩:=ybi H
  obtain rfl:=Option.some.inj H
  go_enter Try.func101,Try.ntmps101
  go_wp2_with (first|((with_reducible refine gate_callee (f:=43) rfl ?_);refine ygl 8 Try.func43 #[.int .i64 a0, .int .i64 a1] ?_;(with_reducible refine (psalteryref06_Count.calls k a0 a1 t701 _ A3.out).mono ?_);rintro e w8 ⟨rfl,hb⟩;refine ⟨_,rfl, ?_⟩;replace HB:=ybs hb;(try clear hb))|((with_reducible refine gate_callee (f:=102) rfl ?_);refine ygl 17 Try.func102 #[.int .u64 (IntKind.u64.wrap (Int.tdiv (IntKind.u64.wrap (t701 - 1)) 65536))] ?_;(with_reducible refine (psalteryref03_Log2.calls k (IntKind.u64.wrap (Int.tdiv (IntKind.u64.wrap (t701 - 1)) 65536)) t703 _ A7.out).mono ?_);rintro e w' ⟨rfl,⟨nd,rfl⟩⟩;refine ⟨_,rfl, ?_⟩))
  go_ret
  exact ⟨ye,yhb⟩
def psalteryref12_Spent.l0 : Nat→List Int→Int→Int→Option (Int)
 | 0,_,_,_=>none
 | k+1,x0,x3,x4=>if x4 < 5 then ((psalteryref10_Width.f k x4).bind fun t704=>(if 0≤x4 then (if x4 < (x0.length : Int) then ((psalteryref06_Cost.f k t704 (rd x0 x4)).bind fun t706=>(psalteryref12_Spent.l0 k x0 (wrap64 (x3+t706)) (wrap64 (x4+1)))) else (none)) else (none))) else (some x3)
def psalteryref12_Spent.f (k : Nat) (l0 : List Int) : Option (Int):=psalteryref12_Spent.l0 k l0 0 0
theorem psalteryref12_Spent.mono_l : ∀ k,(∀ y0 y1 y2,LeO (psalteryref12_Spent.l0 k y0 y1 y2) (psalteryref12_Spent.l0 (k+1) y0 y1 y2))
 | 0=>fun _ _ _ r h=>by simp [psalteryref12_Spent.l0] at h
 | k+1=>by
  have ih0:=psalteryref12_Spent.mono_l k
  ·
   intro y0 y1 y2
   unfold psalteryref12_Spent.l0
   repeat' with_reducible first|apply ih0|apply psalteryref06_Cost.mono|apply psalteryref10_Width.mono|apply yLr|apply yLn|apply yLi|apply yLb|intro _
theorem psalteryref12_Spent.mono : ∀ a0 k,LeO (psalteryref12_Spent.f k a0) (psalteryref12_Spent.f (k+1) a0):=by
 intro a0 k
 have ih0:=psalteryref12_Spent.mono_l k
 unfold psalteryref12_Spent.f
 repeat' with_reducible first|apply ih0|apply psalteryref06_Cost.mono|apply psalteryref10_Width.mono|apply yLr|apply yLn|apply yLi|apply yLb|intro _
def psalteryref12_Spent.T5 : Bool × List (List Nat × List Nat):=(true, [([], []),([], []),([1], [1]),([], []),([], []),([3,4], [3,4]),([5], [5]),([2,6,2], [2,6]),([0,7], [0,7]),([8,7,0,1,2,3,4,5,6,7,8], [0,8])])
def psalteryref12_Spent.B5 : List Nat := [0,0,2,0,0,24,56,126,255,511]
theorem psalteryref12_Spent.tab5 : rtab .any (opsOf Try.f99 5)=psalteryref12_Spent.T5:=by kernel_rfl
theorem psalteryref12_Spent.bits5 : waitsOk psalteryref12_Spent.T5.2 psalteryref12_Spent.B5=true:=by kernel_rfl
set_option maxHeartbeats 8000000 in
set_option maxRecDepth 100000 in
theorem psalteryref12_Spent.calls (k : Nat) (A0 : Option Addr) (c0 : Nat) (l0 : List Int) (r : Int) (w : World) (hr0 : Kd.C (Kd.int .i64) w A0 l0.length l0) (hc0 : l0.length≤c0) (h : psalteryref12_Spent.f k l0=some r) :
  Calls Try.prog 99 #[.slice A0 l0.length c0] w fun e w' => e=.returned (.int .i64 r)∧Below w.heap.size w w' := by
 have HR0:=zm hr0;have HC0:=zm hc0;clear hr0 hc0;have HB:=zm (Below.refl w.heap.size w)
 have H : (psalteryref12_Spent.l0 k l0 0 0)=some r:=h
 clear h
 have H' := zm H
 clear H
 go_enter Try.func99,Try.ntmps99
 go_wp2
 go_loopg [3,4] k (fun kq v3 v4 w' => ∃ (x3_1 : Int) (x4_1 : Int),v3=.int .i64 x3_1∧v4=.int .i64 x4_1∧Aside0 (psalteryref12_Spent.l0 kq l0 x3_1 x4_1=some r)∧Aside0 (kq≤k)∧Aside0 (Below w.heap.size w w'))
 case atStart=>exact ⟨(0),(0),yq,yq,H',⟨Nat.le_refl _⟩,⟨yhb⟩⟩
 case round =>
  clear H'
  obtain ⟨x3_1,x4_1,rfl,rfl,HA,HK1,HB⟩:=hrel
  obtain ⟨k1,rfl⟩:=ysu gk (fun h=>by subst h;exact absurd HA.out (by simp [psalteryref12_Spent.l0]))
  have H:=HA.out;clear HA
  simp only [psalteryref12_Spent.l0] at H
  by_cases c2 : x4_1 < 5
  ·
   rw [if_pos c2] at H
   have c2b0 : decide (x4_1 < 5)=true:=decide_eq_true c2
   clear c2
   obtain ⟨t704,A3,H⟩:=ybi H
   obtain ⟨c4,H⟩:=yif H
   have c4b0 : decide (0≤x4_1)=true:=decide_eq_true c4
   clear c4
   obtain ⟨c5,H⟩:=yif H
   have c5b0 : decide (x4_1 < (l0.length : Int))=true:=decide_eq_true c5
   clear c5
   obtain ⟨t706,A6,H⟩:=ybi H
   have H' := zm H
   clear H
   try go_wp2
   replace HB:=zm (zf HB.out)
   have p705 : 0≤(x4_1 : Int):=yt
   have q705 : x4_1 < (l0.length : Int):=yt
   obtain ⟨ad705,e705,hx705_0⟩:=Kd.at_int HR0.out x4_1 p705 q705
   have hw705_0:=hx705_0
   cases e705
   replace hx705_0:=yhx HB hx705_0
   replace p705:=eq_true p705
   replace q705:=eq_true q705
   refine start_ (n:=10) (S:=fun w' => w'.cell? (ad705.add (x4_1).toNat)=some (.int .i64 (rd l0 x4_1))) (ds := []) #[false,false,false,false,false,false,false,false,false,false] (by kernel_rfl) rfl rfl ((yhx HB hw705_0 :)) (fun hHeld => ?_);refine with_tabW psalteryref12_Spent.tab5 psalteryref12_Spent.bits5 (fun HT_ HW_ => ?_)
   generalize wr.drew=w7 at HB hx705_0 hHeld ⊢
   refine yp 0 9 HT_ ?_
   refine yp 1 10 HT_ ?_
   refine yp 3 12 HT_ ?_
   refine yp 4 13 HT_ ?_
   refine yp 5 14 HT_ ?_
   refine yl 6 15 HT_ HW_ hHeld ?_
   refine yw 2 11 HT_ (fun K hK => ?_)
   refine ygs Try.func46 #[.int .i64 x4_1] ?_
   with_reducible refine (psalteryref10_Width.calls k1 x4_1 t704 _ A3.out).mono ?_
   rintro e w' ⟨rfl,⟨nd,rfl⟩⟩
   refine ⟨_,rfl, ?_⟩
   refine hK.out _ _ ((yhx HB hw705_0 :)) (fun hHeld => ?_)
   clear hK K
   refine ym (some 11) ?_
   refine yw 7 16 HT_ (fun K hK => ?_)
   refine ygs Try.func101 #[.int .i64 t704, .int .i64 (rd l0 x4_1)] ?_
   with_reducible refine (psalteryref06_Cost.calls k1 t704 (rd l0 x4_1) t706 _ A6.out).mono ?_
   rintro e w8 ⟨rfl,hb⟩
   refine ⟨_,rfl, ?_⟩
   replace HB:=ybs hb
   (try clear hb)
   refine hK.out _ _ ((yhx HB hw705_0 :)) (fun hHeld => ?_)
   clear hK K
   refine ym (some 16) ?_
   refine yp 8 17 HT_ ?_
   refine yp 9 3 HT_ ?_
   refine done_ (done_of HT_.out (by kernel_rfl)) ?_
   try go_wp2
   go_roundg k1
   case measure=>exact yom1 HK1
   case rel=>exact ⟨(wrap64 (x3_1+t706)),(wrap64 (x4_1+1)),yq,yq,H',⟨yom1 HK1⟩,⟨yhb⟩⟩
  ·
   rw [if_neg c2] at H
   have c2b0 : decide (x4_1 < 5)=false:=decide_eq_false c2
   clear c2
   obtain rfl:=Option.some.inj H
   go_wp2
   go_ret
   exact ⟨ye,yhb⟩
end Go.Proofs.Ytnmbndkojpjkmaa.Prt
