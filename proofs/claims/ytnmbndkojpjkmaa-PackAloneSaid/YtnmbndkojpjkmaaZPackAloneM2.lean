-- Functions of the program and of the document as plain Lean, each with the proof that the code comes to it. Written by a program of this session (wip/tools/myprint.py, pack.py) over the kit's printer; Lean checks it.
import Derived.Test.YtnmbndkojpjkmaaZPackAlonePrt0
import Derived.Test.YtnmbndkojpjkmaaZPackAloneM1
import Derived.Test.YtnmbndkojpjkmaaZPackAloneSh2
import Derived.Test.YtnmbndkojpjkmaaZPackAloneSh
namespace Go.Proofs.Ytnmbndkojpjkmaa.Prt
open Go.RowKit Go.Proofs.YtnmbndkojpjkmaaW.PrintWords Go.Proofs.YtnmbndkojpjkmaaW.PrintLast Go.Proofs.YtnmbndkojpjkmaaW.PrintMore
attribute [local go_sem] max2_int min2_int max_two min_two max_three min_three max_four min_four   -- for this text's walks alone
set_option linter.unusedVariables false
set_option linter.unusedSimpArgs false


mutual
def cpack_Read.j0 : Nat→Int→Int→List (List Int)→Bool→Int→Int→List Int→Int→Bool→Option (Bool × (List (List Int)) × (List (List (List Int))) × Int)
 | 0,_,_,_,_,_,_,_,_,_=>none
 | k+1,x0,x1,x3,x65,bm,bn,bo,bp,bf=>if x65=true then (some (false,([] : List (List Int)),([] : List (List (List Int))),1)) else (cpack_Read.l0 k x0 x1 x3 x1 0 bm bn bo bp bf ([] : List (List Int)))
def cpack_Read.l0 : Nat→Int→Int→List (List Int)→Int→Int→Int→Int→List Int→Int→Bool→List (List Int)→Option (Bool × (List (List Int)) × (List (List (List Int))) × Int)
 | 0,_,_,_,_,_,_,_,_,_,_,_=>none
 | k+1,x0,x1,x3,x67,x68,bm,bn,bo,bp,bf,bl=>if x68 < x67 then ((cpack_of.f x3 x68).bind fun bL=>((gain_Take.f k bm bn bo bp bL bf).bind fun cv=>(if bl.length < 5864062014805 then (cpack_Read.l0 k x0 x1 x3 x67 (wrap64 (x68+1)) cv.1 cv.2.1 cv.2.2.1 cv.2.2.2.1 bf (bl ++ [cv.2.2.2.2.1])) else (none)))) else ((alloc_Pulses.f k x0 x1 bl).bind fun eU=>(cpack_Read.l1 k eU.1 x1 0 bm bn bo bp bf bl ([] : List (List (List Int)))))
def cpack_Read.l1 : Nat→List (List Int)→Int→Int→Int→Int→List Int→Int→Bool→List (List Int)→List (List (List Int))→Option (Bool × (List (List Int)) × (List (List (List Int))) × Int)
 | 0,_,_,_,_,_,_,_,_,_,_=>none
 | k+1,x18,x98,x99,bm,bn,bo,bp,bf,bl,bC=>if x99 < x98 then (cpack_Read.l2 k x18 x99 ([] : List (List Int)) x98 x99 0 bm bn bo bp bf bl bC) else (some (bf,bl,bC,0))
def cpack_Read.l2 : Nat→List (List Int)→Int→List (List Int)→Int→Int→Int→Int→Int→List Int→Int→Bool→List (List Int)→List (List (List Int))→Option (Bool × (List (List Int)) × (List (List (List Int))) × Int)
 | 0,_,_,_,_,_,_,_,_,_,_,_,_,_=>none
 | k+1,x18,x20,x21,x98,x99,b8,bm,bn,bo,bp,bf,bl,bC=>if b8 < 5 then ((band_Width.f b8).bind fun bV=>(if 0≤bV then (if (bV : Int).toNat≤35184372088832 then (if 0≤x20 then (if x20 < (x18.length : Int) then (if 0≤b8 then (if b8 < ((rd_L1 x18 x20).length : Int) then (if (rd (rd_L1 x18 x20) b8) > 0 then ((band_Width.f b8).bind fun cA=>((comb_Count.f cA (rd (rd_L1 x18 x20) b8)).bind fun de=>((coder_TakeNum.f k bm bn bo bp de.1).bind fun bF=>((band_Width.f b8).bind fun cB=>((comb_Vector.f k cB (rd (rd_L1 x18 x20) b8) bF.2.2.2.2.1).bind fun df=>(if x21.length < 5864062014805 then (cpack_Read.l2 k x18 x20 (x21 ++ [df.1]) x98 x99 (wrap64 (b8+1)) bF.1 bF.2.1 bF.2.2.1 bF.2.2.2.1 bf bl bC) else (none))))))) else (if x21.length < 5864062014805 then (cpack_Read.l2 k x18 x20 (x21 ++ [(List.replicate (bV : Int).toNat 0)]) x98 x99 (wrap64 (b8+1)) bm bn bo bp bf bl bC) else (none))) else (none)) else (none)) else (none)) else (none)) else (none)) else (none))) else (if bC.length < 5864062014805 then (cpack_Read.l1 k x18 x98 (wrap64 (x99+1)) bm bn bo bp bf bl (bC ++ [x21])) else (none))
end
def cpack_Read.f (k : Nat) (a0 : Int) (a1 : Int) (l2 : List Int) (l3 : List (List Int)) : Option (Bool × (List (List Int)) × (List (List (List Int))) × Int):=(alloc_Right.f a0 a1).bind fun eF=>(if eF=true then (if (l2.length : Int)=a0 then ((coder_Open.f l2).bind fun b5=>((coder_Get.f b5.1 b5.2.1 b5.2.2.1 b5.2.2.2 2).bind fun cw=>((coder_Take.f k b5.1 b5.2.1 b5.2.2.1 b5.2.2.2 cw.1 (wrap64 (cw.1+1)) 2).bind fun b6=>(if cw.1=1 then (cpack_Read.j0 k a0 a1 l3 false b6.1 b6.2.1 b6.2.2.1 b6.2.2.2.1 (cw.1 == 1)) else ((cpack_gains.f k a1 l3).bind fun dy=>(cpack_Read.j0 k a0 a1 l3 (!dy) b6.1 b6.2.1 b6.2.2.1 b6.2.2.2.1 (cw.1 == 1))))))) else (some (false,([] : List (List Int)),([] : List (List (List Int))),2))) else (some (false,([] : List (List Int)),([] : List (List (List Int))),1)))
theorem cpack_Read.mono_l : ∀ k,(∀ y0 y1 y2 y3 y4 y5 y6 y7 y8,LeO (cpack_Read.j0 k y0 y1 y2 y3 y4 y5 y6 y7 y8) (cpack_Read.j0 (k+1) y0 y1 y2 y3 y4 y5 y6 y7 y8))∧(∀ y0 y1 y2 y3 y4 y5 y6 y7 y8 y9 y10,LeO (cpack_Read.l0 k y0 y1 y2 y3 y4 y5 y6 y7 y8 y9 y10) (cpack_Read.l0 (k+1) y0 y1 y2 y3 y4 y5 y6 y7 y8 y9 y10))∧(∀ y0 y1 y2 y3 y4 y5 y6 y7 y8 y9,LeO (cpack_Read.l1 k y0 y1 y2 y3 y4 y5 y6 y7 y8 y9) (cpack_Read.l1 (k+1) y0 y1 y2 y3 y4 y5 y6 y7 y8 y9))∧(∀ y0 y1 y2 y3 y4 y5 y6 y7 y8 y9 y10 y11 y12,LeO (cpack_Read.l2 k y0 y1 y2 y3 y4 y5 y6 y7 y8 y9 y10 y11 y12) (cpack_Read.l2 (k+1) y0 y1 y2 y3 y4 y5 y6 y7 y8 y9 y10 y11 y12))
 | 0=>⟨fun _ _ _ _ _ _ _ _ _ r h=>by simp [cpack_Read.j0] at h,fun _ _ _ _ _ _ _ _ _ _ _ r h=>by simp [cpack_Read.l0] at h,fun _ _ _ _ _ _ _ _ _ _ r h=>by simp [cpack_Read.l1] at h,fun _ _ _ _ _ _ _ _ _ _ _ _ _ r h=>by simp [cpack_Read.l2] at h⟩
 | k+1=>by
  obtain ⟨ih0,ih1,ih2,ih3⟩:=cpack_Read.mono_l k
  refine ⟨?_, ?_, ?_, ?_⟩
  ·
   intro y0 y1 y2 y3 y4 y5 y6 y7 y8
   unfold cpack_Read.j0
   repeat' with_reducible first|apply ih0|apply ih1|apply ih2|apply ih3|apply alloc_Pulses.mono|apply coder_Take.mono|apply coder_TakeNum.mono|apply comb_Vector.mono|apply cpack_gains.mono|apply gain_Take.mono|apply yLr|apply yLn|apply yLi|apply yLb|intro _
  ·
   intro y0 y1 y2 y3 y4 y5 y6 y7 y8 y9 y10
   unfold cpack_Read.l0
   repeat' with_reducible first|apply ih0|apply ih1|apply ih2|apply ih3|apply alloc_Pulses.mono|apply coder_Take.mono|apply coder_TakeNum.mono|apply comb_Vector.mono|apply cpack_gains.mono|apply gain_Take.mono|apply yLr|apply yLn|apply yLi|apply yLb|intro _
  ·
   intro y0 y1 y2 y3 y4 y5 y6 y7 y8 y9
   unfold cpack_Read.l1
   repeat' with_reducible first|apply ih0|apply ih1|apply ih2|apply ih3|apply alloc_Pulses.mono|apply coder_Take.mono|apply coder_TakeNum.mono|apply comb_Vector.mono|apply cpack_gains.mono|apply gain_Take.mono|apply yLr|apply yLn|apply yLi|apply yLb|intro _
  intro y0 y1 y2 y3 y4 y5 y6 y7 y8 y9 y10 y11 y12
  unfold cpack_Read.l2
  repeat' with_reducible first|apply ih0|apply ih1|apply ih2|apply ih3|apply alloc_Pulses.mono|apply coder_Take.mono|apply coder_TakeNum.mono|apply comb_Vector.mono|apply cpack_gains.mono|apply gain_Take.mono|apply yLr|apply yLn|apply yLi|apply yLb|intro _
theorem cpack_Read.mono : ∀ a0 a1 a2 a3 k,LeO (cpack_Read.f k a0 a1 a2 a3) (cpack_Read.f (k+1) a0 a1 a2 a3):=by
 intro a0 a1 a2 a3 k
 obtain ⟨ih0,ih1,ih2,ih3⟩:=cpack_Read.mono_l k
 unfold cpack_Read.f
 repeat' with_reducible first|apply ih0|apply ih1|apply ih2|apply ih3|apply alloc_Pulses.mono|apply coder_Take.mono|apply coder_TakeNum.mono|apply comb_Vector.mono|apply cpack_gains.mono|apply gain_Take.mono|apply yLr|apply yLn|apply yLi|apply yLb|intro _
def cpack_Read.T14 : Bool × List (List Nat × List Nat):=(true, [([], []),([], []),([], []),([1,2], [1,2]),([], []),([4], [4]),([0,3,5,3], [0,3,5]),([6], [6]),([7], [7]),([7], [7]),([7], [7]),([], []),([11,8,6,0,1,2,3,4,5,6,7,8,11], [8,11]),([9,12,0,1,2,3,4,5,6,7,8,9,11,12], [9]),([10,13,0,1,2,3,4,5,6,7,8,9,10,11,12,13], [10])])
def cpack_Read.B14 : List Nat := [0,0,0,6,0,16,63,127,255,255,255,0,2559,7167,16383]
theorem cpack_Read.tab14 : rtab .any (opsOf Try.f20 14)=cpack_Read.T14:=by kernel_rfl
theorem cpack_Read.bits14 : waitsOk cpack_Read.T14.2 cpack_Read.B14=true:=by kernel_rfl
def cpack_Read.T15 : Bool × List (List Nat × List Nat):=(true, [([], []),([], []),([1], [1]),([], []),([3], [3]),([2,4], [2,4]),([0,5,0], [0]),([0,1,2,3,4,5,6], []),([7,5,6,0,1,2,3,4,5,6], [5,7])])
def cpack_Read.B15 : List Nat := [0,0,2,0,8,30,63,127,255]
theorem cpack_Read.tab15 : rtab .any (opsOf Try.f20 15)=cpack_Read.T15:=by kernel_rfl
theorem cpack_Read.bits15 : waitsOk cpack_Read.T15.2 cpack_Read.B15=true:=by kernel_rfl
def cpack_Read.T27 : Bool × List (List Nat × List Nat):=(true, [([], []),([0], [0]),([], []),([], []),([2,3], [2,3]),([4], [4]),([], []),([5,6], [5,6]),([7], [7]),([1,8,1], [1,8]),([9], [9]),([10], [10]),([10], [10]),([11,9,0,1,2,3,4,5,6,7,8,9,10,11], [11]),([12,13,0,1,2,3,4,5,6,7,8,9,10,11,12,13], [12])])
def cpack_Read.B27 : List Nat := [0,1,0,0,12,28,0,124,252,511,1023,2047,2047,4095,16383]
theorem cpack_Read.tab27 : rtab .any (opsOf Try.f20 27)=cpack_Read.T27:=by kernel_rfl
theorem cpack_Read.bits27 : waitsOk cpack_Read.T27.2 cpack_Read.B27=true:=by kernel_rfl
def cpack_Read.T30 : Bool × List (List Nat × List Nat):=(true, [([], []),([0], [0]),([], []),([], []),([2,3], [2,3]),([4], [4]),([], []),([5,6], [5,6]),([7], [7]),([], []),([1,8,9,1], [1,8,9]),([10], [10]),([11], [11]),([11], [11]),([12,10,0,1,2,3,4,5,6,7,8,9,10,11,12], [12])])
def cpack_Read.B30 : List Nat := [0,1,0,0,12,28,0,124,252,0,1023,2047,4095,4095,8191]
theorem cpack_Read.tab30 : rtab .any (opsOf Try.f20 30)=cpack_Read.T30:=by kernel_rfl
theorem cpack_Read.bits30 : waitsOk cpack_Read.T30.2 cpack_Read.B30=true:=by kernel_rfl
set_option maxHeartbeats 8000000 in
set_option maxRecDepth 100000 in
theorem cpack_Read.calls (k : Nat) (a0 : Int) (a1 : Int) (A2 : Option Addr) (c2 : Nat) (l2 : List Int) (A3 : Option Addr) (c3 : Nat) (l3 : List (List Int)) (r1 : Bool) (r2 : List (List Int)) (r3 : List (List (List Int))) (r4 : Int) (w : World) (hr2 : Kd.C (Kd.int .u8) w A2 l2.length l2) (hc2 : l2.length≤c2) (hr3 : Kd.C (Kd.slice 3 (Kd.int .i64)) w A3 l3.length l3) (hc3 : l3.length≤c3) (h : cpack_Read.f k a0 a1 l2 l3=some (r1,r2,r3,r4)) :
  Calls Try.prog 20 #[.int .i64 a0, .int .i64 a1, .slice A2 l2.length c2, .slice A3 l3.length c3] w fun e w' => ∃ v1_ v2_ : Value,e=.returned (.tuple #[.agg #[.bool r1,v1_,v2_], .int .i64 r4])∧Kd.S (Kd.slice 3 (Kd.int .i64)) 49 w' w.heap.size (fun _=>True) v1_ r2∧Kd.R (Kd.slice 49 (Kd.slice 3 (Kd.int .i64))) 22 w' w.heap.size (fun k_=>some k_≠(v1_ : Value).ownBlock) v2_ r3∧Below w.heap.size w w' := by
 have hu25:=Try.underlying25;have hu82:=Try.underlying82;have HR2:=zm hr2;have HC2:=zm hc2;clear hr2 hc2;have HR3:=zm hr3;have HC3:=zm hc3;clear hr3 hc3;have HB:=zm (Below.refl w.heap.size w);have H:=h
 unfold cpack_Read.f at H
 clear h
 obtain ⟨eF,A5,H⟩:=ybi H
 by_cases c6 : eF=true
 ·
  subst c6
  rw [if_pos rfl] at H
  by_cases c7 : (l2.length : Int)=a0
  ·
   rw [if_pos c7] at H
   obtain ⟨eV,eW⟩:=yE c7
   clear c7
   obtain ⟨⟨cS,cT,cC,cU⟩,A8,H⟩:=ybi H
   try dsimp only at H
   obtain ⟨⟨bd,f5⟩,A9,H⟩:=ybi H
   try dsimp only at H
   obtain ⟨⟨cD,cE,cj,cF,f6⟩,A10,H⟩:=ybi H
   try dsimp only at H
   have eG:=zm H;clear H
   go_enter Try.func20,Try.ntmps20
   go_upto_region 9 with (first|((with_reducible refine gate_dst (N:=8) rfl ?_);refine ybx 8 #[.bool false, .slice none 0 0, .slice none 0 0] 25 ?_;intro aq hg w12 hbox hb;have af:=zm (hbox);have eu:=ygw hg;have ev:=ygw hg;replace HB:=ybs hb;clear hb hbox hg)|((with_reducible refine gate_callee (f:=48) rfl ?_);refine ygl 31 Try.func48 #[.int .i64 a0, .int .i64 a1] ?_;(with_reducible refine (alloc_Right.calls a0 a1 true _ A5.out).mono ?_);rintro e w' ⟨rfl,⟨nd,rfl⟩⟩;refine ⟨_,rfl, ?_⟩;(try (rw [drewN_self w12];generalize hq_ : World.drewN w12 _=w12;replace af:=ykq hq_ af;replace HB:=ysq hq_;clear hq_)))|((with_reducible refine gate_callee (f:=49) rfl ?_);refine ygl 40 Try.func49 #[.slice A2 l2.length c2] ?_;(with_reducible refine (coder_Open.calls (fun k_=>k_ < w.heap.size) _ _ l2 cS cT cC cU _ ?br A8.out).mono ?_);(case br=>exact Kd.V_mk HC2.out (Kd.F_below (Kd.C_F (Kd.heap_int .u8) HR2.out) yhb));rintro e w13 ⟨gO,rfl,ho0,hb⟩;refine ⟨_,rfl, ?_⟩;have bE:=yho (fun k_=>k_≠aq) ho0 (fun k_ hk_=>yoB af hk_);replace af:=ybb af hb;replace HB:=ybs hb;(try clear hb);(try clear ho0))|((with_reducible refine gate_dst (N:=10) rfl ?_);refine ybx 10 #[.int .u64 0, .int .u32 0, .slice none 0 0, .int .i64 0] 82 ?_;intro aj hg w14 hbox hb;replace bE:=yVe bE hg hb;have ag:=zm (hbox);have gz:=ygw hg;have gA:=ygw hg;replace HB:=ybs hb;have bg:=ynl af hg;have bh:=yng af hg;replace af:=ybb af hb;clear hb hbox hg;have:=bh.out;have:=bg.out;obtain ⟨dz,dA,dB,dC,dD,dE,dF,dG⟩:=yc4 ag;obtain ⟨eH,dH,f7⟩:=Kd.V_slice bE.out;subst f7)|((with_reducible refine gate_callee (f:=50) rfl ?_);refine ygl 43 Try.func50 #[.agg #[.int .u64 cS, .int .u32 cT, .slice eH cC.length dH, .int .i64 cU], .int .i64 2] ?_;(with_reducible refine (coder_Get.calls cS cT _ _ cC cU 2 bd f5 _ ?br ?bR A9.out).mono ?_);(case br=>refine (Kd.V_reads' (e:=5) (base:=w.heap.size) (ok:=fun k_=>(k_≠aq∧k_≠aj)) (n:=cC.length) (c:=dH) ?_).2.2;exact (yV0 bE));(case bR=>exact (Kd.V_reads' bE.out).2.1);rintro e w18 ⟨rfl,hb⟩;refine ⟨_,rfl, ?_⟩;replace bE:=zm (Kd.V_below (yV0 bE) hb);replace af:=ybb af hb;replace ag:=zm (zF (g:=aj) (o:=.cells #[.int .u64 cS, .int .u32 cT, .slice eH cC.length dH, .int .i64 cU] 82 (0,0)) (ykp ag) hb);replace HB:=ybs hb;(try clear hb);obtain ⟨dI,dJ,dK,dL,dM,dN,dO,dP⟩:=yc4 ag)|((with_reducible refine gate_callee (f:=51) rfl ?_);refine ygl 51 Try.func51 #[.agg #[.int .u64 cS, .int .u32 cT, .slice eH cC.length dH, .int .i64 cU], .int .i64 bd, .int .i64 (wrap64 (bd+1)), .int .i64 2] ?_;(with_reducible refine (coder_Take.calls k cS cT (fun k_=>(k_≠aq∧k_≠aj)) _ _ cC cU bd (wrap64 (bd+1)) 2 cD cE cj cF f6 _ bE.out A10.out).mono ?_);rintro e w20 ⟨gP,rfl,ho0,hb⟩;refine ⟨_,rfl, ?_⟩;replace bE:=yVb bE hb;have cx:=yho (fun k_=>k_≠aq∧k_≠aj) ho0 (fun k_ hk_=>⟨yoB af hk_,yoB ag hk_⟩);replace af:=ybb af hb;replace ag:=ybb ag hb;replace HB:=ybs hb;(try clear hb);(try clear ho0);obtain ⟨dQ,dR,dS,dT,dU,dV,dW,dX⟩:=yc4 ag;obtain ⟨cV,cW,f8⟩:=Kd.V_slice cx.out;subst f8)|((with_reducible refine gate_dst (N:=13) rfl ?_);refine ybx 13 #[.bool false, .slice none 0 0, .slice none 0 0] 25 ?_;intro ak hg w23 hbox hb;replace bE:=zm (Kd.V_below (Kd.V_elderB (yV0 bE) ak (Nat.le_of_eq hg.symm)) hb);replace cx:=zm (Kd.V_below (Kd.V_elderB (yV0 cx) ak (Nat.le_of_eq hg.symm)) hb);have ah:=zm (hbox);have gB:=ygw hg;have gC:=ygw hg;replace HB:=ybs hb;have bi:=ynl af hg;have bj:=yng af hg;replace af:=ybb af hb;have aT:=zm ((by rw [hg];exact zn (zD (g:=aj) (o:=.cells #[.int .u64 cD, .int .u32 cE, .slice cV cj.length cW, .int .i64 cF] 82 (0,0)) (ykp ag)) : aj≠ak));have aU:=zm ((by rw [hg];exact zg (zD (g:=aj) (o:=.cells #[.int .u64 cD, .int .u32 cE, .slice cV cj.length cW, .int .i64 cF] 82 (0,0)) (ykp ag)) : ak≠aj));replace ag:=zm (zF (g:=aj) (o:=.cells #[.int .u64 cD, .int .u32 cE, .slice cV cj.length cW, .int .i64 cF] 82 (0,0)) (ykp ag) hb);clear hb hbox hg;have:=bj.out;have:=bi.out;have:=aU.out;have:=aT.out;obtain ⟨dY,dZ,d5,d6,d7,d8⟩:=yc3 ah))
   (try simp only [Act.put,List.setIfInBounds_toArray,List.set_cons_zero,List.set_cons_succ])
   go_cut [65] (fun v65 wc => ∃ (kq : Nat) (cq : Bool),v65=.bool cq∧Aside0 (cpack_Read.j0 kq a0 a1 l3 cq cD cE cj cF (bd == 1)=some (r1,r2,r3,r4))∧Aside0 (kq≤k)∧Aside0 (Kd.V (Kd.int .u8) 5 wc w.heap.size (fun k_=>k_≠aq∧k_≠aj∧k_≠ak) (.slice cV cj.length cW) cj)∧Aside0 (wc.heap[aq]? = some (.cells #[.bool false,(.slice none 0 0),(.slice none 0 0)] 25 (0,0)))∧Aside0 (wc.heap[aj]? = some (.cells #[.int .u64 cD, .int .u32 cE,(.slice cV cj.length cW), .int .i64 cF] 82 (0,0)))∧Aside0 (wc.heap[ak]? = some (.cells #[.bool (bd == 1),(.slice none 0 0),(.slice none 0 0)] 25 (0,0)))∧Aside0 (Below w.heap.size w wc))
   case first =>
    have H:=eG.out;clear eG
    by_cases c27 : bd=1
    ·
     rw [if_pos c27] at H
     obtain ⟨b9,eX⟩:=yE c27
     clear c27
     (first|rw [b9]|(simp only [i64_w,i32_w];rw [b9])|skip)
     have H' := zm H
     clear H
     have:=bj.out
     have:=bi.out
     have:=aU.out
     have:=aT.out
     obtain ⟨_,_,_,_,_,_⟩:=yc3 ah
     go_wp2
     go_meet
     case rel=>exact ⟨_,(false),yq,H',⟨yo⟩,⟨yV0 cx⟩,⟨yk af⟩,⟨yk ag⟩,⟨by rw [b9];(with_reducible repeat (first|refine zh ?_ _|refine zj ?_|refine zi ?_ _));refine zw (cs := #[.bool true, .slice none 0 0, .slice none 0 0]) ?_ 2 _ rfl;(with_reducible repeat (first|refine zh ?_ _|refine zj ?_|refine zi ?_ _));refine zw (cs := #[.bool true, .slice none 0 0, .slice none 0 0]) ?_ 1 _ rfl;(with_reducible repeat (first|refine zh ?_ _|refine zj ?_|refine zi ?_ _));refine zw (cs := #[.bool false, .slice none 0 0, .slice none 0 0]) ?_ 0 _ rfl;(with_reducible repeat (first|refine zh ?_ _|refine zj ?_|refine zi ?_ _));exact ah.out⟩,⟨yhb⟩⟩
    rw [if_neg c27] at H
    obtain ⟨b9,eX⟩:=yF c27
    (first|rw [b9]|(simp only [i64_w,i32_w];rw [b9])|skip)
    obtain ⟨dy,A31,H⟩:=ybi H
    have H' := zm H
    clear H
    have:=bj.out
    have:=bi.out
    have:=aU.out
    have:=aT.out
    obtain ⟨_,_,_,_,_,_⟩:=yc3 ah
    go_wp2_with (first|(go_at_call 25;(with_reducible refine (cpack_gains.calls k a1 _ _ l3 dy _ ?br HC3.out A31.out).mono ?_);(case br=>exact Kd.C_below HR3.out yhb);rintro e w' ⟨rfl,⟨nd,rfl⟩⟩))
    go_meet
    case rel=>exact ⟨_,(!dy),yq,H',⟨yo⟩,⟨yV0 cx⟩,⟨yk af⟩,⟨yk ag⟩,⟨by rw [b9];(with_reducible repeat (first|refine zh ?_ _|refine zj ?_|refine zi ?_ _));refine zw (cs := #[.bool false, .slice none 0 0, .slice none 0 0]) ?_ 2 _ rfl;(with_reducible repeat (first|refine zh ?_ _|refine zj ?_|refine zi ?_ _));refine zw (cs := #[.bool false, .slice none 0 0, .slice none 0 0]) ?_ 1 _ rfl;(with_reducible repeat (first|refine zh ?_ _|refine zj ?_|refine zi ?_ _));refine zw (cs := #[.bool false, .slice none 0 0, .slice none 0 0]) ?_ 0 _ rfl;(with_reducible repeat (first|refine zh ?_ _|refine zj ?_|refine zi ?_ _));exact ah.out⟩,⟨yhb⟩⟩
   case rest =>
    clear eG
    try clear c2
    try clear c3
    try clear eV
    try clear eW
    try clear dz
    try clear dA
    try clear dB
    try clear dC
    try clear dI
    try clear dJ
    try clear dK
    try clear dL
    try clear dQ
    try clear dR
    try clear dS
    try clear dT
    try clear dY
    try clear dZ
    try clear d5
    try clear dD
    try clear dE
    try clear dF
    try clear dG
    try clear dM
    try clear dN
    try clear dO
    try clear dP
    try clear dU
    try clear dV
    try clear dW
    try clear dX
    try clear d6
    try clear d7
    try clear d8
    obtain ⟨kq,cq,rfl,HA,cy,ac,af,ag,ah,HB⟩:=hcut
    obtain ⟨eY,rfl⟩:=ysu kq (fun h=>by subst h;exact absurd HA.out (by simp [cpack_Read.j0]))
    have H:=HA.out;clear HA
    simp only [cpack_Read.j0] at H
    by_cases c35 : cq=true
    ·
     subst c35
     rw [if_pos rfl] at H
     simp only [Option.some.injEq,Prod.mk.injEq] at H
     obtain ⟨rfl,rfl,rfl,rfl⟩:=H
     have:=bg.out
     have:=bh.out
     have:=bi.out
     have:=bj.out
     obtain ⟨d9,ea,eb,ec,ed,ee⟩:=yc3 af
     go_wp2
     refine bodyPost_ret (results_ct rfl _ _ aq 25 #[.bool false, .slice none 0 0, .slice none 0 0] (0,0) _ rfl (ykp af) Try.underlying25 rfl (by kernel_rfl)) rfl ?_
     exact ⟨_,_,ye,yn,yn,yhb⟩
    replace c35:=Bool.eq_false_iff.mpr c35
    subst c35
    rw [ynf] at H
    have H' := zm H
    clear H
    go_wp2
    go_loopg [68] eY (fun kq v68 w' => ∃ (bM : Int) (az : Int) (aA : Int) (ap : List Int) (aC : Int) (ae : List (List Int)) (a9 : Value) (ao : Value),v68=.int .i64 bM∧Aside0 (cpack_Read.l0 kq a0 a1 l3 a1 bM az aA ap aC (bd == 1) ae=some (r1,r2,r3,r4))∧Aside0 (kq≤eY)∧Aside0 (Kd.V (Kd.int .u8) 5 w' w.heap.size (fun k_=>some k_≠(ao : Value).ownBlock∧k_≠aq∧k_≠aj∧k_≠ak) a9 ap)∧Aside0 (Kd.S (Kd.slice 3 (Kd.int .i64)) 49 w' w.heap.size (fun _=>True) ao ae)∧Aside0 (w'.heap[aq]? = some (.cells #[.bool false,(.slice none 0 0),(.slice none 0 0)] 25 (0,0)))∧Aside0 (w'.heap[aj]? = some (.cells #[.int .u64 az, .int .u32 aA,a9, .int .i64 aC] 82 (0,0)))∧Aside0 (w'.heap[ak]? = some (.cells #[.bool (bd == 1),ao,(.slice none 0 0)] 25 (0,0)))∧Aside0 (Below w.heap.size w w'))
    case atStart=>exact ⟨(0),(cD),(cE),(cj),(cF),(([] : List (List Int))),(.slice cV cj.length cW),(.slice none 0 0),yq,H',⟨Nat.le_refl _⟩,⟨yV0 ac⟩,⟨yn⟩,⟨yk af⟩,⟨yk ag⟩,⟨yk ah⟩,⟨yhb⟩⟩
    case round =>
     clear H'
     try clear d9
     try clear ea
     try clear eb
     try clear ec
     try clear ed
     try clear ee
     obtain ⟨bM,az,aA,ap,aC,ae,a9,ao,rfl,HA,HK2,ac,aa,af,ag,ah,HB⟩:=hrel
     obtain ⟨k2,rfl⟩:=ysu gk (fun h=>by subst h;exact absurd HA.out (by simp [cpack_Read.l0]))
     have H:=HA.out;clear HA
     simp only [cpack_Read.l0] at H
     by_cases c39 : bM < a1
     ·
      rw [if_pos c39] at H
      have ew:=yD c39
      clear c39
      obtain ⟨bL,A40,H⟩:=ybi H
      obtain ⟨⟨ca,cb,bW,ce,bX,cX⟩,A41,H⟩:=ybi H
      try dsimp only at H
      obtain ⟨c42,H⟩:=yif H
      have LMc42:=zm c42;clear c42
      obtain ⟨eI,dg⟩ : ∃ y_ : List (List Int),y_=(ae ++ [bX]):=⟨_,rfl⟩
      replace H : (cpack_Read.l0 k2 a0 a1 l3 a1 (wrap64 (bM+1)) ca cb bW ce (bd == 1) eI)=some (r1,r2,r3,r4):=yrw dg H
      have eZ:=zm dg;clear dg
      have H' := zm H
      clear H
      obtain ⟨bY,bZ,ga⟩:=Kd.V_slice ac.out
      subst ga
      try go_wp2
      replace ac:=zm (zC ac.out)
      replace aa:=zm (Kd.S_drew aa.out)
      replace af:=zm (zj af.out)
      replace ag:=zm (zj ag.out)
      replace ah:=zm (zj ah.out)
      replace HB:=zm (zf HB.out)
      refine yst (fun w' => w'.cell? ⟨aj,0,none⟩=some (.int .u64 az)∧w'.cell? ⟨aj,1,none⟩=some (.int .u32 aA)∧w'.cell? ⟨aj,2,none⟩=some (.slice bY ap.length bZ)∧w'.cell? ⟨aj,3,none⟩=some (.int .i64 aC)∧w'.cell? ⟨ak,0,none⟩=some (.bool (bd == 1))∧w'.cell? ⟨ak,1,none⟩=some (ao)∧w'.cell? ⟨ak,2,none⟩=some (.slice none 0 0)) [] 15 cpack_Read.tab14 cpack_Read.bits14 (fun hHeld HT_ HW_ => ?_)
      generalize wr.drew=w44 at ac aa af ag ah HB hHeld ⊢
      refine yp 1 73 HT_ ?_
      refine yp 2 74 HT_ ?_
      refine yp 4 76 HT_ ?_
      refine yl 0 72 HT_ HW_ hHeld ?_
      refine yl 5 77 HT_ HW_ hHeld ?_
      refine join_ (σ:=Value × Value × Value × Nat) 3 #[true,true,true,true,true,true,true,true,true,true,true,true,false,false,false] (fun s_ => [(75,s_.1),(78, .tuple #[.agg #[.int .u64 ca, .int .u32 cb,s_.2.1, .int .i64 ce],s_.2.2.1, .int .i64 cX]),(15, .pointer (some ⟨s_.2.2.2,0,none⟩)),(71, .tuple #[.agg #[.int .u64 ca, .int .u32 cb,s_.2.1, .int .i64 ce],s_.2.2.1, .int .i64 cX]),(79, .agg #[.int .u64 ca, .int .u32 cb,s_.2.1, .int .i64 ce]),(80,s_.2.2.1),(81, .int .i64 cX)]) (fun s_ w' => (w'.cell? ⟨aj,0,none⟩=some (.int .u64 az)∧w'.cell? ⟨aj,1,none⟩=some (.int .u32 aA)∧w'.cell? ⟨aj,2,none⟩=some (.slice bY ap.length bZ)∧w'.cell? ⟨aj,3,none⟩=some (.int .i64 aC)∧w'.cell? ⟨ak,0,none⟩=some (.bool (bd == 1))∧w'.cell? ⟨ak,1,none⟩=some (ao)∧w'.cell? ⟨ak,2,none⟩=some (.slice none 0 0))∧(Kd.V (Kd.int .i64) 3 w' w.heap.size (fun k_=>some k_≠(s_.2.2.1 : Value).ownBlock∧some k_≠(ao : Value).ownBlock∧k_≠aq∧k_≠aj∧k_≠ak∧k_≠s_.2.2.2) s_.1 bL)∧(Kd.V (Kd.int .u8) 5 w' w.heap.size (fun k_=>some k_≠(s_.2.2.1 : Value).ownBlock∧some k_≠(ao : Value).ownBlock∧k_≠aq∧k_≠aj∧k_≠ak∧k_≠s_.2.2.2) s_.2.1 bW)∧(Kd.R (Kd.int .i64) 3 w' w.heap.size (fun _=>True) s_.2.2.1 bX)∧(Kd.V (Kd.int .u8) 5 w' w.heap.size (fun k_=>some k_≠(s_.2.2.1 : Value).ownBlock∧some k_≠(ao : Value).ownBlock∧k_≠aq∧k_≠aj∧k_≠ak∧k_≠s_.2.2.2) (.slice bY ap.length bZ) ap)∧(Kd.S (Kd.slice 3 (Kd.int .i64)) 49 w' w.heap.size (fun k_=>some k_≠(s_.2.2.1 : Value).ownBlock) ao ae)∧(w'.heap[aq]? = some (.cells #[.bool false, .slice none 0 0, .slice none 0 0] 25 (0,0)))∧(w'.heap[aj]? = some (.cells #[.int .u64 az, .int .u32 aA, .slice bY ap.length bZ, .int .i64 aC] 82 (0,0)))∧(w'.heap[ak]? = some (.cells #[.bool (bd == 1),ao, .slice none 0 0] 25 (0,0)))∧(w'.heap[s_.2.2.2]? = some (.cells #[.int .u64 0, .int .u32 0, .slice none 0 0, .int .i64 0] 82 (0,0)))∧(w.heap.size≤s_.2.2.2)∧(w.heap.size≤s_.2.2.2)∧(aq≠s_.2.2.2)∧(s_.2.2.2≠aq)∧(aj≠s_.2.2.2)∧(s_.2.2.2≠aj)∧(ak≠s_.2.2.2)∧(s_.2.2.2≠ak)∧(Below w.heap.size w w')) ?_ ?_
      rotate_left
      ·
       intro hCont
       refine two_ (i:=3) (j:=11) (Ni:=some 75) (Nj:=some 15) #[true,true,true,true,true,true,false,false,false,false,false,false,false,false,false] #[true,true,true,false,true,true,false,false,false,false,false,true,false,false,false] rfl rfl rfl rfl (two_of HT_.out (by kernel_rfl)) (by decide) (by decide) (fun K hK => ?_) (fun K hK => ?_)
       ·
        skip
        refine ygs Try.func29 #[.slice A3 l3.length c3, .int .i64 bM] ?_
        with_reducible refine (cpack_of.calls (fun k_=>k_ < w.heap.size) _ _ l3 bM bL _ ?br A40.out).mono ?_
        (case br=>exact Kd.V_mk HC3.out (Kd.F_below (Kd.C_F (Kd.heap_slice 3 (Kd.heap_int .i64)) HR3.out) yhb))
        rintro e w45 ⟨ef,rfl,ho0,hb⟩
        refine ⟨_,rfl, ?_⟩
        replace ac:=yVb ac hb
        have aM:=yho (fun k_=>some k_≠(ao : Value).ownBlock∧k_≠aq∧k_≠aj∧k_≠ak) ho0 (fun k_ hk_=>⟨yoS aa hk_,yoB af hk_,yoB ag hk_,yoB ah hk_⟩)
        replace aa:=ySb aa hb
        replace af:=ybb af hb
        replace ag:=ybb ag hb
        replace ah:=ybb ah hb
        replace HB:=ybs hb
        (try clear hb)
        (try clear ho0)
        obtain ⟨e8,e9,fa⟩:=Kd.V_slice aM.out
        (first|subst fa|(injection fa with f1_ f2_ f3_;have f4_:=f1_.symm;have f5_:=f3_.symm;clear f1_ f2_ f3_;subst f4_;subst f5_))
        refine hK.out _ _ yH (fun hHeld => ?_)
        clear hK K
        refine ym (some 75) ?_
        refine two_ (i:=6) (j:=11) (Ni:=some 78) (Nj:=some 15) #[true,true,true,true,true,true,true,false,false,false,false,false,false,false,false] #[true,true,true,true,true,true,false,false,false,false,false,true,false,false,false] rfl rfl rfl rfl (two_of HT_.out (by kernel_rfl)) (by decide) (by decide) (fun K hK => ?_) (fun K hK => ?_)
        ·
         skip
         refine ygs Try.func52 #[.agg #[.int .u64 az, .int .u32 aA, .slice bY ap.length bZ, .int .i64 aC], .slice e8 bL.length e9, .bool (bd == 1)] ?_
         with_reducible refine (gain_Take.calls k2 az aA (fun k_=>(some k_≠(ao : Value).ownBlock∧(k_≠aq∧(k_≠aj∧k_≠ak)))) _ _ ap aC _ _ bL (bd == 1) ca cb bW ce bX cX _ ?br ?bR ?cz A41.out).mono ?_
         (case br=>exact ac.out)
         (case bR=>exact yce (Kd.V_reads' aM.out).2.2)
         (case cz=>exact (Kd.V_reads' aM.out).2.1)
         rintro e w47 ⟨cG,bD,rfl,ho0,ho1,hb⟩
         refine ⟨_,rfl, ?_⟩
         replace ac:=zm (Kd.V_elder' (yr ac) (Kd.R_base ho1) hb)
         replace aM:=zm (Kd.V_elder' (yr aM) (Kd.R_base ho1) hb)
         have bs:=yho (fun k_=>some k_≠(bD : Value).ownBlock∧some k_≠(ao : Value).ownBlock∧k_≠aq∧k_≠aj∧k_≠ak) ho0 (fun k_ hk_=>⟨hk_.2,Or.elim hk_.1 (fun hs_=>hs_.1) (fun hn_=>(Kd.fresh' (Kd.S_lt (yr aa)) k_ hn_)),Or.elim hk_.1 (fun hs_=>hs_.2.1) (fun hn_=>(Kd.freshB (yk af) k_ hn_)),Or.elim hk_.1 (fun hs_=>hs_.2.2.1) (fun hn_=>(Kd.freshB (yk ag) k_ hn_)),Or.elim hk_.1 (fun hs_=>hs_.2.2.2) (fun hn_=>(Kd.freshB (yk ah) k_ hn_))⟩)
         replace aa:=zm (Kd.S_elder' (yr aa) (Kd.R_base ho1) hb)
         have bv:=zm (Kd.R_lower (zG (ok' := fun k_=>True) ho1 (fun _ hk_=>trivial)) (zE yhb))
         replace af:=ybb af hb
         replace ag:=ybb ag hb
         replace ah:=ybb ah hb
         replace HB:=ybs hb
         (try clear hb)
         (try clear ho0)
         (try clear ho1)
         refine hK.out _ _ yH (fun hHeld => ?_)
         clear hK K
         refine ym (some 78) ?_
         refine yp 7 71 HT_ ?_
         refine yp 8 79 HT_ ?_
         refine yp 9 80 HT_ ?_
         refine yp 10 81 HT_ ?_
         refine yw 11 15 HT_ (fun K hK => ?_)
         refine box_step ?hg (N:=15) ?hd (cs := #[.int .u64 0, .int .u32 0, .slice none 0 0, .int .i64 0]) (t:=82) ?hr ?_;(case hd=>rfl);(case hg=>rfl);(case hr=>first|(go_simp;done)|(go_simp;rfl))
         intro ay hg w48 hbox hb
         replace ac:=yVe ac hg hb
         replace aa:=ySb aa hb
         replace aM:=yVe aM hg hb
         replace bs:=yVe bs hg hb
         replace bv:=yRb bv hb
         have aD:=zm (hbox)
         have cm:=ygw hg
         have cn:=ygw hg
         replace HB:=ybs hb
         have ba:=ynl af hg
         have bb:=yng af hg
         replace af:=ybb af hb
         have aG:=ynl ag hg
         have aH:=yng ag hg
         replace ag:=ybb ag hb
         have aX:=ynl ah hg
         have aY:=yng ah hg
         replace ah:=ybb ah hb
         clear hb hbox hg
         refine hK.out _ _ yH (fun hHeld => ?_)
         clear hK K
         refine ym (some 15) ?_
         exact norm_ (by simp only [putAll,Act.put,List.setIfInBounds_toArray,List.set_cons_zero,List.set_cons_succ]) (hCont (.slice e8 bL.length e9,cG,bD,ay) _ ⟨hHeld,(yV0 aM),(yV0 bs),(yr bv),(yV0 ac),(yS0 aa),(yk af),(yk ag),(yk ah),(yk aD),cm.out,cn.out,ba.out,bb.out,aG.out,aH.out,aX.out,aY.out,yhb⟩)
        skip
        refine box_step ?hg (N:=15) ?hd (cs := #[.int .u64 0, .int .u32 0, .slice none 0 0, .int .i64 0]) (t:=82) ?hr ?_;(case hd=>rfl);(case hg=>rfl);(case hr=>first|(go_simp;done)|(go_simp;rfl))
        intro ay hg w46 hbox hb
        replace ac:=yVe ac hg hb
        replace aa:=ySb aa hb
        replace aM:=yVe aM hg hb
        have aD:=zm (hbox)
        have cm:=ygw hg
        have cn:=ygw hg
        replace HB:=ybs hb
        have ba:=ynl af hg
        have bb:=yng af hg
        replace af:=ybb af hb
        have aG:=ynl ag hg
        have aH:=yng ag hg
        replace ag:=ybb ag hb
        have aX:=ynl ah hg
        have aY:=yng ah hg
        replace ah:=ybb ah hb
        clear hb hbox hg
        obtain ⟨dh,di,dj⟩:=Kd.V_slice aM.out
        (first|subst dj|(injection dj with f1_ f2_ f3_;have f4_:=f1_.symm;have f5_:=f3_.symm;clear f1_ f2_ f3_;subst f4_;subst f5_))
        refine hK.out _ _ yH (fun hHeld => ?_)
        clear hK K
        refine ym (some 15) ?_
        refine yw 6 78 HT_ (fun K hK => ?_)
        refine ygs Try.func52 #[.agg #[.int .u64 az, .int .u32 aA, .slice bY ap.length bZ, .int .i64 aC], .slice dh bL.length di, .bool (bd == 1)] ?_
        with_reducible refine (gain_Take.calls k2 az aA (fun k_=>((some k_≠(ao : Value).ownBlock∧(k_≠aq∧(k_≠aj∧k_≠ak)))∧k_≠ay)) _ _ ap aC _ _ bL (bd == 1) ca cb bW ce bX cX _ ?br ?bR ?cz A41.out).mono ?_
        (case br=>exact ac.out)
        (case bR=>exact yce (Kd.V_reads' aM.out).2.2)
        (case cz=>exact (Kd.V_reads' aM.out).2.1)
        rintro e w48 ⟨cG,bD,rfl,ho0,ho1,hb⟩
        refine ⟨_,rfl, ?_⟩
        replace ac:=zm (Kd.V_elder' (yr ac) (Kd.R_base ho1) hb)
        replace aM:=zm (Kd.V_elder' (yr aM) (Kd.R_base ho1) hb)
        have bs:=yho (fun k_=>some k_≠(bD : Value).ownBlock∧some k_≠(ao : Value).ownBlock∧k_≠aq∧k_≠aj∧k_≠ak∧k_≠ay) ho0 (fun k_ hk_=>⟨hk_.2,Or.elim hk_.1 (fun hs_=>hs_.1.1) (fun hn_=>(Kd.fresh' (Kd.S_lt (yr aa)) k_ hn_)),Or.elim hk_.1 (fun hs_=>hs_.1.2.1) (fun hn_=>(Kd.freshB (yk af) k_ hn_)),Or.elim hk_.1 (fun hs_=>hs_.1.2.2.1) (fun hn_=>(Kd.freshB (yk ag) k_ hn_)),Or.elim hk_.1 (fun hs_=>hs_.1.2.2.2) (fun hn_=>(Kd.freshB (yk ah) k_ hn_)),Or.elim hk_.1 (fun hs_=>hs_.2) (fun hn_=>(Kd.freshB (yk aD) k_ hn_))⟩)
        replace aa:=zm (Kd.S_elder' (yr aa) (Kd.R_base ho1) hb)
        have bv:=zm (Kd.R_lower (zG (ok' := fun k_=>True) ho1 (fun _ hk_=>trivial)) (zE yhb))
        replace af:=ybb af hb
        replace ag:=ybb ag hb
        replace ah:=ybb ah hb
        replace aD:=ybb aD hb
        replace HB:=ybs hb
        (try clear hb)
        (try clear ho0)
        (try clear ho1)
        refine hK.out _ _ yH (fun hHeld => ?_)
        clear hK K
        refine ym (some 78) ?_
        refine yp 7 71 HT_ ?_
        refine yp 8 79 HT_ ?_
        refine yp 9 80 HT_ ?_
        refine yp 10 81 HT_ ?_
        exact norm_ (by simp only [putAll,Act.put,List.setIfInBounds_toArray,List.set_cons_zero,List.set_cons_succ]) (hCont (.slice dh bL.length di,cG,bD,ay) _ ⟨hHeld,(yV0 aM),(yr bs),(yr bv),(yV0 ac),(yS0 aa),(yk af),(yk ag),(yk ah),(yk aD),cm.out,cn.out,ba.out,bb.out,aG.out,aH.out,aX.out,aY.out,yhb⟩)
       skip
       refine box_step ?hg (N:=15) ?hd (cs := #[.int .u64 0, .int .u32 0, .slice none 0 0, .int .i64 0]) (t:=82) ?hr ?_;(case hd=>rfl);(case hg=>rfl);(case hr=>first|(go_simp;done)|(go_simp;rfl))
       intro ay hg w45 hbox hb
       replace ac:=yVe ac hg hb
       replace aa:=ySb aa hb
       have aD:=zm (hbox)
       have cm:=ygw hg
       have cn:=ygw hg
       replace HB:=ybs hb
       have ba:=ynl af hg
       have bb:=yng af hg
       replace af:=ybb af hb
       have aG:=ynl ag hg
       have aH:=yng ag hg
       replace ag:=ybb ag hb
       have aX:=ynl ah hg
       have aY:=yng ah hg
       replace ah:=ybb ah hb
       clear hb hbox hg
       refine hK.out _ _ yH (fun hHeld => ?_)
       clear hK K
       refine ym (some 15) ?_
       refine yw 3 75 HT_ (fun K hK => ?_)
       refine ygs Try.func29 #[.slice A3 l3.length c3, .int .i64 bM] ?_
       with_reducible refine (cpack_of.calls (fun k_=>k_ < w.heap.size) _ _ l3 bM bL _ ?br A40.out).mono ?_
       (case br=>exact Kd.V_mk HC3.out (Kd.F_below (Kd.C_F (Kd.heap_slice 3 (Kd.heap_int .i64)) HR3.out) yhb))
       rintro e w46 ⟨ef,rfl,ho0,hb⟩
       refine ⟨_,rfl, ?_⟩
       replace ac:=yVb ac hb
       have aM:=yho (fun k_=>some k_≠(ao : Value).ownBlock∧k_≠aq∧k_≠aj∧k_≠ak∧k_≠ay) ho0 (fun k_ hk_=>⟨yoS aa hk_,yoB af hk_,yoB ag hk_,yoB ah hk_,yoB aD hk_⟩)
       replace aa:=ySb aa hb
       replace af:=ybb af hb
       replace ag:=ybb ag hb
       replace ah:=ybb ah hb
       replace aD:=ybb aD hb
       replace HB:=ybs hb
       (try clear hb)
       (try clear ho0)
       obtain ⟨dh,di,dj⟩:=Kd.V_slice aM.out
       (first|subst dj|(injection dj with f1_ f2_ f3_;have f4_:=f1_.symm;have f5_:=f3_.symm;clear f1_ f2_ f3_;subst f4_;subst f5_))
       refine hK.out _ _ yH (fun hHeld => ?_)
       clear hK K
       refine ym (some 75) ?_
       refine yw 6 78 HT_ (fun K hK => ?_)
       refine ygs Try.func52 #[.agg #[.int .u64 az, .int .u32 aA, .slice bY ap.length bZ, .int .i64 aC], .slice dh bL.length di, .bool (bd == 1)] ?_
       with_reducible refine (gain_Take.calls k2 az aA (fun k_=>((some k_≠(ao : Value).ownBlock∧(k_≠aq∧(k_≠aj∧k_≠ak)))∧k_≠ay)) _ _ ap aC _ _ bL (bd == 1) ca cb bW ce bX cX _ ?br ?bR ?cz A41.out).mono ?_
       (case br=>exact ac.out)
       (case bR=>exact yce (Kd.V_reads' aM.out).2.2)
       (case cz=>exact (Kd.V_reads' aM.out).2.1)
       rintro e w48 ⟨cG,bD,rfl,ho0,ho1,hb⟩
       refine ⟨_,rfl, ?_⟩
       replace ac:=zm (Kd.V_elder' (yr ac) (Kd.R_base ho1) hb)
       replace aM:=zm (Kd.V_elder' (yr aM) (Kd.R_base ho1) hb)
       have bs:=yho (fun k_=>some k_≠(bD : Value).ownBlock∧some k_≠(ao : Value).ownBlock∧k_≠aq∧k_≠aj∧k_≠ak∧k_≠ay) ho0 (fun k_ hk_=>⟨hk_.2,Or.elim hk_.1 (fun hs_=>hs_.1.1) (fun hn_=>(Kd.fresh' (Kd.S_lt (yr aa)) k_ hn_)),Or.elim hk_.1 (fun hs_=>hs_.1.2.1) (fun hn_=>(Kd.freshB (yk af) k_ hn_)),Or.elim hk_.1 (fun hs_=>hs_.1.2.2.1) (fun hn_=>(Kd.freshB (yk ag) k_ hn_)),Or.elim hk_.1 (fun hs_=>hs_.1.2.2.2) (fun hn_=>(Kd.freshB (yk ah) k_ hn_)),Or.elim hk_.1 (fun hs_=>hs_.2) (fun hn_=>(Kd.freshB (yk aD) k_ hn_))⟩)
       replace aa:=zm (Kd.S_elder' (yr aa) (Kd.R_base ho1) hb)
       have bv:=zm (Kd.R_lower (zG (ok' := fun k_=>True) ho1 (fun _ hk_=>trivial)) (zE yhb))
       replace af:=ybb af hb
       replace ag:=ybb ag hb
       replace ah:=ybb ah hb
       replace aD:=ybb aD hb
       replace HB:=ybs hb
       (try clear hb)
       (try clear ho0)
       (try clear ho1)
       refine hK.out _ _ yH (fun hHeld => ?_)
       clear hK K
       refine ym (some 78) ?_
       refine yp 7 71 HT_ ?_
       refine yp 8 79 HT_ ?_
       refine yp 9 80 HT_ ?_
       refine yp 10 81 HT_ ?_
       exact norm_ (by simp only [putAll,Act.put,List.setIfInBounds_toArray,List.set_cons_zero,List.set_cons_succ]) (hCont (.slice dh bL.length di,cG,bD,ay) _ ⟨hHeld,(yV0 aM),(yr bs),(yr bv),(yV0 ac),(yS0 aa),(yk af),(yk ag),(yk ah),(yk aD),cm.out,cn.out,ba.out,bb.out,aG.out,aH.out,aX.out,aY.out,yhb⟩)
      rintro ⟨ef,cG,bD,ay⟩ w49 ⟨hS_,h0_,h1_,h2_,h3_,h4_,h5_,h6_,h7_,h8_,h9_,fb,fc,fd,fe,ff,fg,fh,fi⟩
      have n0_ : Aside0 (Kd.V (Kd.int .i64) 3 w49 w.heap.size (fun k_=>some k_≠(bD : Value).ownBlock∧some k_≠(ao : Value).ownBlock∧k_≠aq∧k_≠aj∧k_≠ak∧k_≠ay) ef bL):=⟨h0_⟩
      have n1_ : Aside0 (Kd.V (Kd.int .u8) 5 w49 w.heap.size (fun k_=>some k_≠(bD : Value).ownBlock∧some k_≠(ao : Value).ownBlock∧k_≠aq∧k_≠aj∧k_≠ak∧k_≠ay) cG bW):=⟨h1_⟩
      have n2_ : Aside0 (Kd.R (Kd.int .i64) 3 w49 w.heap.size (fun _=>True) bD bX):=⟨h2_⟩
      have n3_ : Aside0 (Kd.V (Kd.int .u8) 5 w49 w.heap.size (fun k_=>some k_≠(bD : Value).ownBlock∧some k_≠(ao : Value).ownBlock∧k_≠aq∧k_≠aj∧k_≠ak∧k_≠ay) (.slice bY ap.length bZ) ap):=⟨h3_⟩
      have n4_ : Aside0 (Kd.S (Kd.slice 3 (Kd.int .i64)) 49 w49 w.heap.size (fun k_=>some k_≠(bD : Value).ownBlock) ao ae):=⟨h4_⟩
      have n5_ : Aside0 (w49.heap[aq]? = some (.cells #[.bool false, .slice none 0 0, .slice none 0 0] 25 (0,0))):=⟨h5_⟩
      have n6_ : Aside0 (w49.heap[aj]? = some (.cells #[.int .u64 az, .int .u32 aA, .slice bY ap.length bZ, .int .i64 aC] 82 (0,0))):=⟨h6_⟩
      have n7_ : Aside0 (w49.heap[ak]? = some (.cells #[.bool (bd == 1),ao, .slice none 0 0] 25 (0,0))):=⟨h7_⟩
      have n8_ : Aside0 (w49.heap[ay]? = some (.cells #[.int .u64 0, .int .u32 0, .slice none 0 0, .int .i64 0] 82 (0,0))):=⟨h8_⟩
      have n9_ : Aside0 (w.heap.size≤ay):=⟨h9_⟩
      have fj : Aside0 (w.heap.size≤ay):=⟨fb⟩
      have fk : Aside0 (aq≠ay):=⟨fc⟩
      have fl : Aside0 (ay≠aq):=⟨fd⟩
      have fm : Aside0 (aj≠ay):=⟨fe⟩
      have fo : Aside0 (ay≠aj):=⟨ff⟩
      have fp : Aside0 (ak≠ay):=⟨fg⟩
      have fq : Aside0 (ay≠ak):=⟨fh⟩
      have ft : Aside0 (Below w.heap.size w w49):=⟨fi⟩
      clear ac aa af ag ah HB h0_ h1_ h2_ h3_ h4_ h5_ h6_ h7_ h8_ h9_ fb fc fd fe ff fg fh fi;have aM:=n0_;have bs:=n1_;have bv:=n2_;have ac:=n3_;have aa:=n4_;have af:=n5_;have ag:=n6_;have ah:=n7_;have aD:=n8_;have cm:=n9_;have cn:=fj;have ba:=fk;have bb:=fl;have aG:=fm;have aH:=fo;have aX:=fp;have aY:=fq;have HB:=ft;clear n0_ n1_ n2_ n3_ n4_ n5_ n6_ n7_ n8_ n9_ fj fk fl fm fo fp fq ft
      have hHeld : w49.cell? ⟨aj,0,none⟩=some (.int .u64 az)∧w49.cell? ⟨aj,1,none⟩=some (.int .u32 aA)∧w49.cell? ⟨aj,2,none⟩=some (.slice bY ap.length bZ)∧w49.cell? ⟨aj,3,none⟩=some (.int .i64 aC)∧w49.cell? ⟨ak,0,none⟩=some (.bool (bd == 1))∧w49.cell? ⟨ak,1,none⟩=some (ao)∧w49.cell? ⟨ak,2,none⟩=some (.slice none 0 0):=hS_
      obtain ⟨dk,dl,fu⟩:=Kd.V_slice bs.out
      (first|subst fu|(injection fu with f1_ f2_ f3_;have f4_:=f1_.symm;have f5_:=f3_.symm;clear f1_ f2_ f3_;subst f4_;subst f5_))
      refine norm_ (a' := ?_) ?_ ?_
      rotate_left
      ·
       simp only [putAll,Act.put,List.setIfInBounds_toArray,List.set_cons_zero,List.set_cons_succ]
       rfl
      refine yv 12 HT_ (fun K hK => ?_)
      have gQ : w49.cell? ⟨ay,0,none⟩=some (.int .u64 0):=(zs aD.out 0).trans rfl
      have hfs50:=zx aD.out 0
      have:=ba.out
      have:=aG.out
      have:=aX.out
      have:=bb.out
      have:=aH.out
      have:=aY.out
      have gR : w49.cell? ⟨ay,1,none⟩=some (.int .u32 0):=(zs aD.out 1).trans rfl
      have hfs51:=zx aD.out 1
      have:=ba.out
      have:=aG.out
      have:=aX.out
      have:=bb.out
      have:=aH.out
      have:=aY.out
      have gS : w49.cell? ⟨ay,2,none⟩=some (.slice none 0 0):=(zs aD.out 2).trans rfl
      have hfs53:=zx aD.out 2
      have:=ba.out
      have:=aG.out
      have:=aX.out
      have:=bb.out
      have:=aH.out
      have:=aY.out
      have gT : w49.cell? ⟨ay,3,none⟩=some (.int .i64 0):=(zs aD.out 3).trans rfl
      have hfs54:=zx aD.out 3
      have:=ba.out
      have:=aG.out
      have:=aX.out
      have:=bb.out
      have:=aH.out
      have:=aY.out
      refine skip_ (w1 := ?_) (by rfl) rfl ?_ ?_
      rotate_left
      ·
       go_simp
       rfl
      refine hK.out _ _ yH (fun hHeld => ?_)
      clear hK K
      refine yp 13 16 HT_ ?_
      refine yp 14 17 HT_ ?_
      refine done_ (done_of HT_.out (by kernel_rfl)) ?_
      try go_wp2
      obtain ⟨w55,hw_⟩ : ∃ x,x=((((w49.setCell ⟨ay,0,none⟩ (.int .u64 ca)).setCell ⟨ay,1,none⟩ (.int .u32 cb)).setCell ⟨ay,2,none⟩ (.slice dk bW.length dl)).setCell ⟨ay,3,none⟩ (.int .i64 ce)):=⟨_,rfl⟩
      rw [← hw_]
      replace ac : Aside0 (Kd.V (Kd.int .u8) 5 w55 w.heap.size (fun k_=>some k_≠(ao : Value).ownBlock∧some k_≠(bD : Value).ownBlock∧k_≠aq∧k_≠aj∧k_≠ak∧k_≠ay) (.slice bY ap.length bZ) ap):=⟨by rw [hw_];exact (yV0 ac)⟩
      replace aa : Aside0 (Kd.S (Kd.slice 3 (Kd.int .i64)) 49 w55 w.heap.size (fun k_=>some k_≠(bD : Value).ownBlock) ao ae):=⟨by rw [hw_];exact (yS1 aa aD)⟩
      replace aM : Aside0 (Kd.V (Kd.int .i64) 3 w55 w.heap.size (fun k_=>some k_≠(ao : Value).ownBlock∧some k_≠(bD : Value).ownBlock∧k_≠aq∧k_≠aj∧k_≠ak∧k_≠ay) ef bL):=⟨by rw [hw_];exact (yV0 aM)⟩
      replace bs : Aside0 (Kd.V (Kd.int .u8) 5 w55 w.heap.size (fun k_=>some k_≠(ao : Value).ownBlock∧some k_≠(bD : Value).ownBlock∧k_≠aq∧k_≠aj∧k_≠ak∧k_≠ay) (.slice dk bW.length dl) bW):=⟨by rw [hw_];exact (yV0 bs)⟩
      replace bv : Aside0 (Kd.R (Kd.int .i64) 3 w55 w.heap.size (fun _=>True) bD bX):=⟨by rw [hw_];exact (yR1 bv aD)⟩
      replace af : Aside0 (w55.heap[aq]? = some (.cells #[.bool false, .slice none 0 0, .slice none 0 0] 25 (0,0))):=⟨by rw [hw_];exact (yk af)⟩
      replace ag : Aside0 (w55.heap[aj]? = some (.cells #[.int .u64 az, .int .u32 aA, .slice bY ap.length bZ, .int .i64 aC] 82 (0,0))):=⟨by rw [hw_];exact (yk ag)⟩
      replace ah : Aside0 (w55.heap[ak]? = some (.cells #[.bool (bd == 1),ao, .slice none 0 0] 25 (0,0))):=⟨by rw [hw_];exact (yk ah)⟩
      replace aD : Aside0 (w55.heap[ay]? = some (.cells #[.int .u64 ca, .int .u32 cb, .slice dk bW.length dl, .int .i64 ce] 82 (0,0))):=⟨by rw [hw_];exact (ykp aD)⟩
      replace HB : Aside0 (Below w.heap.size w w55):=⟨by rw [hw_];exact (yhb)⟩
      clear hw_
      replace ac:=zm (zC ac.out)
      replace aa:=zm (Kd.S_drew aa.out)
      replace aM:=zm (zC aM.out)
      replace bs:=zm (zC bs.out)
      replace bv:=zm (zq bv.out)
      replace af:=zm (zj af.out)
      replace ag:=zm (zj ag.out)
      replace ah:=zm (zj ah.out)
      replace aD:=zm (zj aD.out)
      replace HB:=zm (zf HB.out)
      obtain ⟨dm,dp,fv⟩:=Kd.R_slice bv.out
      (first|subst fv|(injection fv with f1_ f2_ f3_;have f4_:=f1_.symm;have f5_:=f3_.symm;clear f1_ f2_ f3_;subst f4_;subst f5_))
      refine yst (fun w' => w'.cell? ⟨ay,0,none⟩=some (.int .u64 ca)∧w'.cell? ⟨ay,1,none⟩=some (.int .u32 cb)∧w'.cell? ⟨ay,2,none⟩=some (.slice dk bW.length dl)∧w'.cell? ⟨ay,3,none⟩=some (.int .i64 ce)∧w'.cell? ⟨ak,0,none⟩=some (.bool (bd == 1))∧w'.cell? ⟨ak,1,none⟩=some (ao)∧w'.cell? ⟨ak,2,none⟩=some (.slice none 0 0)) [8] 9 cpack_Read.tab15 cpack_Read.bits15 (fun hHeld HT_ HW_ => ?_)
      generalize w55.drew=w56 at ac aa aM bs bv af ag ah aD HB hHeld ⊢
      refine yp 1 83 HT_ ?_
      refine yp 3 85 HT_ ?_
      refine yl 0 82 HT_ HW_ hHeld ?_
      refine yl 2 84 HT_ HW_ hHeld ?_
      refine yw 4 86 HT_ (fun K hK => ?_)
      refine value_ (w1 := ?_) (v := ?_) (by rfl) rfl ?_ ?_
      rotate_left 2
      ·
       go_simp
       constructor
       ·
        rfl
       rfl
      refine hK.out _ _ ⟨(zs (zi aD.out _) 0).trans rfl,(zs (zi aD.out _) 1).trans rfl,(zs (zi aD.out _) 2).trans rfl,(zs (zi aD.out _) 3).trans rfl,(zs (zi ah.out _) 0).trans rfl,(zs (zi ah.out _) 1).trans rfl,(zs (zi ah.out _) 2).trans rfl⟩ (fun hHeld => ?_)
      clear hK K
      refine ym (some 86) ?_
      refine yw 5 87 HT_ (fun K hK => ?_)
      refine Kd.S_append_step (Kd.slice 3 (Kd.int .i64)) (w0:=w) w.heap.size (by rfl) (.tmp 84) (.tmp 86) 22 49 (.slice none 0 0) 24 rfl Try.underlying22 info49 rfl (by decide) (by omega) ao ae bX [.slice dm bX.length dp] (fun _=>True) (fun k_=>some k_=(.slice dm bX.length dp : Value).ownBlock) rfl rfl ?aP (fun k_ hk_=>((zG (ok' := fun k_=>((fun _=>True)) k_∧some k_≠(ao : Value).ownBlock) (Kd.R_apart' (bv.out) (Kd.S_typed aa.out) (by decide)) (fun k_ hk=>⟨trivial,hk.2⟩))).1 k_ hk_.symm) ?aF ?aO ?aB ?aS ?aL ?_
      (case aP=>exact Kd.M_row (zG (Kd.R_tight rfl (zG (ok' := fun k_=>((fun _=>True)) k_∧some k_≠(ao : Value).ownBlock) (Kd.R_apart' (bv.out) (Kd.S_typed aa.out) (by decide)) (fun k_ hk=>⟨trivial,hk.2⟩))) (fun _ h_=>h_)))
      (case aB=>exact yhb)
      (case aF=>exact (fun _ _=>trivial))
      (case aO=>exact (yS0 aa))
      (case aS=>exact (zE yhb))
      (case aL=>have:=LMc42.out;omega)
      intro gU w57 ho hb hg hat
      rw [← eZ.out] at ho
      replace ac:=zm (Kd.V_afterv (ok:=(fun k_=>some k_≠(.slice dm bX.length dp : Value).ownBlock∧k_≠aq∧k_≠aj∧k_≠ak∧k_≠ay)) (yV0 ac) hg hat)
      replace af:=zm (blk_grown (yk af) hg (Kd.S_ne aa.out af.out (by decide)))
      replace ag:=zm (blk_grown (yk ag) hg (Kd.S_ne aa.out ag.out (by decide)))
      replace ah:=zm (blk_grown (yk ah) hg (Kd.S_ne aa.out ah.out (by decide)))
      replace aM:=zm (Kd.V_afterv (ok:=(fun k_=>some k_≠(.slice dm bX.length dp : Value).ownBlock∧k_≠aq∧k_≠aj∧k_≠ak∧k_≠ay)) (yV0 aM) hg hat)
      replace bs:=zm (Kd.V_afterv (ok:=(fun k_=>some k_≠(.slice dm bX.length dp : Value).ownBlock∧k_≠aq∧k_≠aj∧k_≠ak∧k_≠ay)) (yV0 bs) hg hat)
      replace aD:=zm (blk_grown (yk aD) hg (Kd.S_ne aa.out aD.out (by decide)))
      replace HB:=zm (hb)
      have ey:=zm (ho);clear aa bv ho hb hg hat
      obtain ⟨gb,gc,fw⟩:=Kd.S_slice ey.out
      (first|subst fw|(injection fw with f1_ f2_ f3_;have f4_:=f1_.symm;have f5_:=f3_.symm;clear f1_ f2_ f3_;subst f4_;subst f5_))
      refine hK.out _ _ yH (fun hHeld => ?_)
      clear hK K
      refine ym (some 87) ?_
      refine yv 6 HT_ (fun K hK => ?_)
      have gV : w57.cell? ⟨aj,0,none⟩=some (.int .u64 az):=(zs ag.out 0).trans rfl
      have hfs59:=zx ag.out 0
      have:=bg.out
      have:=aU.out
      have:=aH.out
      have:=bh.out
      have:=aT.out
      have:=aG.out
      have gW : w57.cell? ⟨aj,1,none⟩=some (.int .u32 aA):=(zs ag.out 1).trans rfl
      have hfs60:=zx ag.out 1
      have:=bg.out
      have:=aU.out
      have:=aH.out
      have:=bh.out
      have:=aT.out
      have:=aG.out
      have gX : w57.cell? ⟨aj,2,none⟩=some (.slice bY ap.length bZ):=(zs ag.out 2).trans rfl
      have hfs61:=zx ag.out 2
      have:=bg.out
      have:=aU.out
      have:=aH.out
      have:=bh.out
      have:=aT.out
      have:=aG.out
      have gY : w57.cell? ⟨aj,3,none⟩=some (.int .i64 aC):=(zs ag.out 3).trans rfl
      have hfs62:=zx ag.out 3
      have:=bg.out
      have:=aU.out
      have:=aH.out
      have:=bh.out
      have:=aT.out
      have:=aG.out
      refine skip_ (w1 := ?_) (by rfl) rfl ?_ ?_
      rotate_left
      ·
       go_simp
       rfl
      refine hK.out _ _ yH (fun hHeld => ?_)
      clear hK K
      refine yp 7 88 HT_ ?_
      refine last_ (i:=8) (N:=none) #[true,true,true,true,true,true,true,true,true] rfl rfl (one_of HT_.out (by kernel_rfl)) (by decide) (fun K hK => ?_)
      have gZ : w57.cell? ⟨ak,1,none⟩=some (ao):=(zs ah.out 1).trans rfl
      have hfs64:=zx ah.out 1
      have:=bi.out
      have:=aT.out
      have:=aY.out
      have:=bj.out
      have:=aU.out
      have:=aX.out
      refine skip_ (w1 := ?_) (by rfl) rfl ?_ ?_
      rotate_left
      ·
       go_simp
       rfl
      refine hK.out _ _ ?_
      clear hK K
      refine done_ (done_of HT_.out (by kernel_rfl)) ?_
      try go_wp2
      go_roundg k2
      case measure=>exact yom2 cy HK2
      case rel=>exact ⟨(wrap64 (bM+1)),(ca),(cb),(bW),(ce),(eI),(.slice dk bW.length dl),(.slice gb eI.length gc),yq,H',⟨yom2 cy HK2⟩,⟨yV0 bs⟩,⟨yS2 ey ag ah⟩,⟨yk af⟩,⟨ykp ag⟩,⟨ykp ah⟩,⟨yhb⟩⟩
     rw [if_neg c39] at H
     have ew:=yG c39
     clear c39
     obtain ⟨⟨ax,ge⟩,A65,H⟩:=ybi H
     try dsimp only at H
     have H' := zm H
     clear H
     have:=bj.out
     have:=bi.out
     have:=aU.out
     have:=aT.out
     obtain ⟨eg,eh,ei,ej,ek,el⟩:=yc3 ah
     obtain ⟨aV,aW,gf⟩:=Kd.S_slice aa.out
     subst gf
     go_wp2_with (first|((with_reducible refine gate_callee (f:=30) rfl ?_);refine ygl 95 Try.func30 #[.int .i64 a0, .int .i64 a1, .slice aV ae.length aW] ?_;(with_reducible refine (alloc_Pulses.calls k2 a0 a1 _ _ ae ax ge _ ?br ?bR A65.out).mono ?_);(case br=>exact yce (Kd.S_reads' aa.out).2.2);(case bR=>exact (Kd.S_reads' aa.out).2.1);rintro e w70 ⟨b7,rfl,ho0,hb⟩;refine ⟨_,rfl, ?_⟩;replace ac:=zm (Kd.V_elder' (yr ac) (Kd.S_base ho0) hb);have fx:=zm (Kd.S_lower (Kd.S_new' ho0 (Kd.S_lt (yr aa))) (zE yhb));replace aa:=zm (Kd.S_elder' (yr aa) (Kd.S_base ho0) hb);replace af:=ybb af hb;replace ag:=ybb ag hb;replace ah:=ybb ah hb;replace HB:=ybs hb;(try clear hb);(try clear ho0)))
     go_loopg [99] k2 (fun kq v99 w' => ∃ (am : Int) (bG : Int) (bH : Int) (bI : List Int) (bJ : Int) (aJ : List (List (List Int))) (a9 : Value) (aN : Value),v99=.int .i64 am∧Aside0 (cpack_Read.l1 kq ax a1 am bG bH bI bJ (bd == 1) ae aJ=some (r1,r2,r3,r4))∧Aside0 (kq≤k2)∧Aside0 (Kd.S (Kd.slice 3 (Kd.int .i64)) 49 w' w.heap.size (fun k_=>some k_≠((.slice aV ae.length aW) : Value).ownBlock) b7 ax)∧Aside0 (Kd.V (Kd.int .u8) 5 w' w.heap.size (fun k_=>some k_≠(b7 : Value).ownBlock∧some k_≠((.slice aV ae.length aW) : Value).ownBlock∧some k_≠(aN : Value).ownBlock∧k_≠aq∧k_≠aj∧k_≠ak) a9 bI)∧Aside0 (Kd.S (Kd.slice 3 (Kd.int .i64)) 49 w' w.heap.size (fun k_=>some k_≠(b7 : Value).ownBlock) (.slice aV ae.length aW) ae)∧Aside0 (Kd.R (Kd.slice 49 (Kd.slice 3 (Kd.int .i64))) 22 w' w.heap.size (fun k_=>some k_≠(b7 : Value).ownBlock∧some k_≠((.slice aV ae.length aW) : Value).ownBlock) aN aJ)∧Aside0 (w'.heap[aq]? = some (.cells #[.bool false,(.slice none 0 0),(.slice none 0 0)] 25 (0,0)))∧Aside0 (w'.heap[aj]? = some (.cells #[.int .u64 bG, .int .u32 bH,a9, .int .i64 bJ] 82 (0,0)))∧Aside0 (w'.heap[ak]? = some (.cells #[.bool (bd == 1),(.slice aV ae.length aW),aN] 25 (0,0)))∧Aside0 (Below w.heap.size w w'))
     case atStart=>exact ⟨(0),(az),(aA),(ap),(aC),(([] : List (List (List Int)))),(a9),(.slice none 0 0),yq,H',⟨Nat.le_refl _⟩,⟨yS0 fx⟩,⟨yV0 ac⟩,⟨yS0 aa⟩,⟨yn⟩,⟨yk af⟩,⟨yk ag⟩,⟨yk ah⟩,⟨yhb⟩⟩
     case round =>
      clear H'
      try clear ew
      try clear eg
      try clear eh
      try clear ei
      try clear ej
      try clear ek
      try clear el
      obtain ⟨am,bG,bH,bI,bJ,aJ,a9,aN,rfl,HA,HK3,al,ac,aa,ai,af,ag,ah,HB⟩:=hrel
      obtain ⟨k3,rfl⟩:=ysu gk (fun h=>by subst h;exact absurd HA.out (by simp [cpack_Read.l1]))
      have H:=HA.out;clear HA
      simp only [cpack_Read.l1] at H
      by_cases c71 : am < a1
      ·
       rw [if_pos c71] at H
       have ez:=yD c71
       clear c71
       have H' := zm H
       clear H
       go_wp2
       go_loopg [21,102] k3 (fun kq v21 gg w' => ∃ (bw : List (List Int)) (au : Int) (aZ : Int) (a7 : Int) (aK : List Int) (a8 : Int) (a9 : Value),gg=.int .i64 au∧Aside0 (cpack_Read.l2 kq ax am bw a1 am au aZ a7 aK a8 (bd == 1) ae aJ=some (r1,r2,r3,r4))∧Aside0 (kq≤k3)∧Aside0 (Kd.S (Kd.slice 3 (Kd.int .i64)) 49 w' w.heap.size (fun k_=>some k_≠(v21 : Value).ownBlock∧some k_≠((.slice aV ae.length aW) : Value).ownBlock) b7 ax)∧Aside0 (Kd.S (Kd.slice 3 (Kd.int .i64)) 49 w' w.heap.size (fun k_=>some k_≠(b7 : Value).ownBlock∧some k_≠((.slice aV ae.length aW) : Value).ownBlock) v21 bw)∧Aside0 (Kd.V (Kd.int .u8) 5 w' w.heap.size (fun k_=>some k_≠(b7 : Value).ownBlock∧some k_≠(v21 : Value).ownBlock∧some k_≠((.slice aV ae.length aW) : Value).ownBlock∧some k_≠(aN : Value).ownBlock∧k_≠aq∧k_≠aj∧k_≠ak) a9 aK)∧Aside0 (Kd.S (Kd.slice 3 (Kd.int .i64)) 49 w' w.heap.size (fun k_=>some k_≠(b7 : Value).ownBlock∧some k_≠(v21 : Value).ownBlock) (.slice aV ae.length aW) ae)∧Aside0 (Kd.R (Kd.slice 49 (Kd.slice 3 (Kd.int .i64))) 22 w' w.heap.size (fun k_=>some k_≠(b7 : Value).ownBlock∧some k_≠(v21 : Value).ownBlock∧some k_≠((.slice aV ae.length aW) : Value).ownBlock) aN aJ)∧Aside0 (w'.heap[aq]? = some (.cells #[.bool false,(.slice none 0 0),(.slice none 0 0)] 25 (0,0)))∧Aside0 (w'.heap[aj]? = some (.cells #[.int .u64 aZ, .int .u32 a7,a9, .int .i64 a8] 82 (0,0)))∧Aside0 (w'.heap[ak]? = some (.cells #[.bool (bd == 1),(.slice aV ae.length aW),aN] 25 (0,0)))∧Aside0 (Below w.heap.size w w'))
       case atStart=>exact ⟨(([] : List (List Int))),(0),(bG),(bH),(bI),(bJ),(a9),yq,H',⟨Nat.le_refl _⟩,⟨yS0 al⟩,⟨yn⟩,⟨yV0 ac⟩,⟨yS0 aa⟩,⟨yR0 ai⟩,⟨yk af⟩,⟨yk ag⟩,⟨yk ah⟩,⟨yhb⟩⟩
       case round =>
        clear H'
        try clear ez
        obtain ⟨bw,au,aZ,a7,aK,a8,a9,rfl,HA,HK4,al,av,ac,aa,ai,af,ag,ah,HB⟩:=hrel
        obtain ⟨k4,rfl⟩:=ysu gk (fun h=>by subst h;exact absurd HA.out (by simp [cpack_Read.l2]))
        have H:=HA.out;clear HA
        simp only [cpack_Read.l2] at H
        by_cases c72 : au < 5
        ·
         rw [if_pos c72] at H
         have fy:=yD c72
         clear c72
         obtain ⟨bV,A73,H⟩:=ybi H
         obtain ⟨c74,H⟩:=yif H
         have gD:=eq_true c74
         have gE : decide (0≤bV)=true:=decide_eq_true c74
         clear c74
         obtain ⟨c75,H⟩:=yif H
         have gF:=eq_true c75
         have gG : decide ((bV : Int).toNat≤35184372088832)=true:=decide_eq_true c75
         clear c75
         obtain ⟨cf,dq⟩ : ∃ y_ : List Int,y_=(List.replicate (bV : Int).toNat 0):=⟨_,rfl⟩
         replace H : (if 0≤am then (if am < (ax.length : Int) then (if 0≤au then (if au < ((rd_L1 ax am).length : Int) then (if (rd (rd_L1 ax am) au) > 0 then ((band_Width.f au).bind fun cA=>((comb_Count.f cA (rd (rd_L1 ax am) au)).bind fun de=>((coder_TakeNum.f k4 aZ a7 aK a8 de.1).bind fun bF=>((band_Width.f au).bind fun cB=>((comb_Vector.f k4 cB (rd (rd_L1 ax am) au) bF.2.2.2.2.1).bind fun df=>(if bw.length < 5864062014805 then (cpack_Read.l2 k4 ax am (bw ++ [df.1]) a1 am (wrap64 (au+1)) bF.1 bF.2.1 bF.2.2.1 bF.2.2.2.1 (bd == 1) ae aJ) else (none))))))) else (if bw.length < 5864062014805 then (cpack_Read.l2 k4 ax am (bw ++ [cf]) a1 am (wrap64 (au+1)) aZ a7 aK a8 (bd == 1) ae aJ) else (none))) else (none)) else (none)) else (none)) else (none))=some (r1,r2,r3,r4):=yrw dq H
         have cK:=zm dq;clear dq
         obtain ⟨c76,H⟩:=yif H
         have gH : decide (0≤am)=true:=decide_eq_true c76
         clear c76
         obtain ⟨c77,H⟩:=yif H
         have gI : decide (am < (ax.length : Int))=true:=decide_eq_true c77
         clear c77
         obtain ⟨c78,H⟩:=yif H
         have gJ : decide (0≤au)=true:=decide_eq_true c78
         clear c78
         obtain ⟨c79,H⟩:=yif H
         have gK : decide (au < ((rd_L1 ax am).length : Int))=true:=decide_eq_true c79
         clear c79
         by_cases c80 : (rd (rd_L1 ax am) au) > 0
         ·
          rw [if_pos c80] at H
          have fz:=yDs c80
          clear c80
          obtain ⟨cA,A81,H⟩:=ybi H
          obtain ⟨⟨eJ,gh⟩,A82,H⟩:=ybi H
          try dsimp only at H
          obtain ⟨⟨cH,cI,ck,cJ,eK,gi⟩,A83,H⟩:=ybi H
          try dsimp only at H
          obtain ⟨cB,A84,H⟩:=ybi H
          obtain ⟨⟨b4,gj⟩,A85,H⟩:=ybi H
          try dsimp only at H
          obtain ⟨c86,H⟩:=yif H
          have LMc86:=zm c86;clear c86
          obtain ⟨fA,dr⟩ : ∃ y_ : List (List Int),y_=(bw ++ [b4]):=⟨_,rfl⟩
          replace H : (cpack_Read.l2 k4 ax am fA a1 am (wrap64 (au+1)) cH cI ck cJ (bd == 1) ae aJ)=some (r1,r2,r3,r4):=yrw dr H
          have fB:=zm dr;clear dr
          have H' := zm H
          clear H
          try go_wp2_with (first|((with_reducible refine gate_callee (f:=32) rfl ?_);refine ygl 106 Try.func32 #[.int .i64 au] ?_;(with_reducible refine (band_Width.calls au bV _ A73.out).mono ?_);rintro e w87 ⟨rfl,hb⟩;refine ⟨_,rfl, ?_⟩;replace al:=ySb al hb;replace av:=ySb av hb;replace ac:=yVb ac hb;replace aa:=ySb aa hb;replace ai:=yRb ai hb;replace af:=ybb af hb;replace ag:=ybb ag hb;replace ah:=ybb ah hb;replace HB:=ybs hb;(try clear hb))|((with_reducible refine gate_dst (N:=107) rfl ?_);refine Kd.R_make (Kd.int .i64) _ 3 rfl (N:=107) rfl 49 _ _ rfl bV rfl rfl Try.underlying49 (.int .i64 0) 8 info3 rfl (by decide) (by omega) 0 (ok:=fun _=>True) (okp:=fun _=>True) rfl (fun _ hk=>hk) trivial (yt) (Nat.le_trans (Nat.mul_le_mul_right _ (yt : bV.toNat≤35184372088832)) (by omega)) (Below.refl _ _) (Nat.le_refl _) ?_;intro bx w88 cl hb hg_ hnew_;clear hg_ hnew_;(first|rw [← cK.out] at cl|(simp only [Int.reduceToNat] at cl;rw [← cK.out] at cl));replace al:=zm (Kd.S_elder' (yr al) (Kd.R_base cl) hb);replace av:=zm (Kd.S_elder' (yr av) (Kd.R_base cl) hb);replace ac:=zm (Kd.V_elder' (yr ac) (Kd.R_base cl) hb);replace aa:=zm (Kd.S_elder' (yr aa) (Kd.R_base cl) hb);replace ai:=zm (Kd.R_elder' (yr ai) (Kd.R_base cl) hb);have aQ:=zm (Kd.R_lower cl (zE yhb));replace af:=ybb af hb;replace ag:=ybb ag hb;replace ah:=ybb ah hb;replace HB:=ybs hb;clear hb cl;obtain ⟨g7,bB,gl⟩:=Kd.S_slice al.out;subst gl;have cr : 0≤(am : Int):=yt;have ct : am < (ax.length : Int):=yt;obtain ⟨aI,eL,dt,eM,cu,bS,bT⟩:=at_L1 (Kd.S_reads' al.out).2.2 am cr ct;cases eM;obtain ⟨ce549,hce549,hMe549,hcc549⟩:=Kd.S_get al.out [] am cr (by first|exact ct|exact yt|(have e_:=(Kd.S_reads' al.out).1;omega));obtain ⟨ve549_0,rfl,ge549_0⟩:=hMe549;have hv549_0:=hcc549 0 _ rfl;rw [Nat.add_zero,show ((Kd.slice 3 (Kd.int .i64))).sz=1 from rfl,Nat.mul_one] at hv549_0;replace hv549_0:=Option.some.inj (hv549_0.symm.trans cu);rw [hv549_0] at ge549_0;have aw:=zm (show Kd.R (Kd.int .i64) 3 _ _ _ _ (rd_L1 ax am) from ge549_0);clear hv549_0 ge549_0;clear hcc549 hce549;have bc:=zm bT;have em:=zm bS;clear bT bS;replace cr:=eq_true cr;replace ct:=eq_true ct;obtain ⟨eA,eN,en,gm,gn⟩:=yai bc au;cases eN))
          replace al:=zm (Kd.S_drew al.out)
          replace av:=zm (Kd.S_drew av.out)
          replace ac:=zm (zC ac.out)
          replace aa:=zm (Kd.S_drew aa.out)
          replace ai:=zm (zq ai.out)
          replace aQ:=zm (zq aQ.out)
          replace aw:=zm (zq aw.out)
          replace af:=zm (zj af.out)
          replace ag:=zm (zj ag.out)
          replace ah:=zm (zj ah.out)
          replace bc:=zm (Kd.C_drew bc.out)
          replace HB:=zm (zf HB.out)
          have eo : 0≤(am : Int):=yt
          have ep : am < (ax.length : Int):=yt
          obtain ⟨fC,go,du,gp,cL,cM,cN⟩:=at_L1 (Kd.S_reads' al.out).2.2 am eo ep
          obtain rfl : aI=fC:=(by injection gp)
          obtain ⟨ce552,hce552,hMe552,hcc552⟩:=Kd.S_get al.out [] am eo (by first|exact ep|exact yt|(have e_:=(Kd.S_reads' al.out).1;omega))
          obtain ⟨ve552_0,rfl,ge552_0⟩:=hMe552
          have hv552_0:=hcc552 0 _ rfl
          rw [Nat.add_zero,show ((Kd.slice 3 (Kd.int .i64))).sz=1 from rfl,Nat.mul_one] at hv552_0
          replace hv552_0:=Option.some.inj (hv552_0.symm.trans cL)
          rw [hv552_0] at ge552_0
          have aE:=zm (show Kd.R (Kd.int .i64) 3 _ _ _ _ (rd_L1 ax am) from ge552_0)
          clear hv552_0 ge552_0 hcc552 hce552;have bq:=zm cN;have fY:=zm cM;clear cN cM
          replace eo:=eq_true eo
          replace ep:=eq_true ep
          obtain ⟨dv,gu,eq,g8,g9⟩:=yai bq au
          cases gu
          refine yst (fun w' => w'.cell? (aI.add (am).toNat)=some (.slice (some dv) (rd_L1 ax am).length du)∧w'.cell? (dv.add (au).toNat)=some (.int .i64 (rd (rd_L1 ax am) au))) [] 15 cpack_Read.tab27 cpack_Read.bits27 (fun hHeld HT_ HW_ => ?_)
          generalize w88.drew=w91 at al av ac aa ai aQ aw af ag ah bc HB aE bq cL eq hHeld ⊢
          refine yp 0 117 HT_ ?_
          refine yp 2 119 HT_ ?_
          refine yp 3 120 HT_ ?_
          refine yp 4 121 HT_ ?_
          refine yp 6 123 HT_ ?_
          refine yl 5 122 HT_ HW_ hHeld ?_
          refine yp 7 124 HT_ ?_
          refine yl 8 125 HT_ HW_ hHeld ?_
          refine yw 1 118 HT_ (fun K hK => ?_)
          refine ygs Try.func32 #[.int .i64 au] ?_
          with_reducible refine (band_Width.calls au cA _ A81.out).mono ?_
          rintro e w92 ⟨rfl,hb⟩
          have eO:=yhs hb hHeld.1
          have eP:=yhs hb hHeld.2
          refine ⟨_,rfl, ?_⟩
          replace al:=ySb al hb
          replace av:=ySb av hb
          replace ac:=yVb ac hb
          replace aa:=ySb aa hb
          replace ai:=yRb ai hb
          replace aQ:=yRb aQ hb
          replace aw:=yRb aw hb
          replace aE:=yRb aE hb
          replace af:=ybb af hb
          replace ag:=ybb ag hb
          replace ah:=ybb ah hb
          replace bc:=yCb bc hb
          replace bq:=yCb bq hb
          replace HB:=ybs hb
          (try clear hb)
          refine hK.out _ _ yH (fun hHeld => ?_)
          clear hK K
          refine ym (some 118) ?_
          refine yw 9 126 HT_ (fun K hK => ?_)
          refine ygs Try.func31 #[.int .i64 cA, .int .i64 (rd (rd_L1 ax am) au)] ?_
          with_reducible refine (comb_Count.calls cA (rd (rd_L1 ax am) au) eJ gh _ A82.out).mono ?_
          rintro e w93 ⟨rfl,hb⟩
          have eO:=yhs hb hHeld.1
          have eP:=yhs hb hHeld.2
          refine ⟨_,rfl, ?_⟩
          replace al:=ySb al hb
          replace av:=ySb av hb
          replace ac:=yVb ac hb
          replace aa:=ySb aa hb
          replace ai:=yRb ai hb
          replace aQ:=yRb aQ hb
          replace aw:=yRb aw hb
          replace aE:=yRb aE hb
          replace af:=ybb af hb
          replace ag:=ybb ag hb
          replace ah:=ybb ah hb
          replace bc:=yCb bc hb
          replace bq:=yCb bq hb
          replace HB:=ybs hb
          (try clear hb)
          refine hK.out _ _ yH (fun hHeld => ?_)
          clear hK K
          refine ym (some 126) ?_
          refine yp 10 116 HT_ ?_
          refine yp 11 127 HT_ ?_
          refine yp 12 128 HT_ ?_
          refine yp 13 24 HT_ ?_
          refine yp 14 25 HT_ ?_
          refine done_ (done_of HT_.out (by kernel_rfl)) ?_
          have:=bh.out
          have:=bg.out
          have:=aT.out
          have:=aU.out
          obtain ⟨_,_,_,_,_,_,_,_⟩:=yc4 ag
          obtain ⟨fD,fE,gv⟩:=Kd.V_slice ac.out
          subst gv
          try go_wp2_with (first|((with_reducible refine gate_callee (f:=53) rfl ?_);refine ygl 132 Try.func53 #[.agg #[.int .u64 aZ, .int .u32 a7, .slice fD aK.length fE, .int .i64 a8], .int .u64 eJ] ?_;(with_reducible refine (coder_TakeNum.calls k4 aZ a7 (fun k_=>((some k_≠(.slice (some aI) ax.length bB : Value).ownBlock∧(some k_≠(u21 : Value).ownBlock∧(some k_≠(.slice aV ae.length aW : Value).ownBlock∧(some k_≠(aN : Value).ownBlock∧(k_≠aq∧(k_≠aj∧k_≠ak))))))∧some k_≠(bx : Value).ownBlock)) _ _ aK a8 eJ cH cI ck cJ eK gi _ ac.out A83.out).mono ?_);rintro e w98 ⟨hD,rfl,ho0,hb⟩;refine ⟨_,rfl, ?_⟩;replace ac:=yVb ac hb;replace aw:=yRb aw hb;replace aE:=yRb aE hb;have bz:=yho (fun k_=>some k_≠(.slice (some aI) ax.length bB : Value).ownBlock∧some k_≠(u21 : Value).ownBlock∧some k_≠(.slice aV ae.length aW : Value).ownBlock∧some k_≠(aN : Value).ownBlock∧some k_≠(bx : Value).ownBlock∧k_≠aq∧k_≠aj∧k_≠ak) ho0 (fun k_ hk_=>⟨yoS al hk_,yoS av hk_,yoS aa hk_,yoR ai hk_,yoR aQ hk_,yoB af hk_,yoB ag hk_,yoB ah hk_⟩);replace al:=ySb al hb;replace av:=ySb av hb;replace aa:=ySb aa hb;replace ai:=yRb ai hb;replace aQ:=yRb aQ hb;replace af:=ybb af hb;replace ag:=ybb ag hb;replace ah:=ybb ah hb;replace bc:=yCb bc hb;replace bq:=yCb bq hb;replace HB:=ybs hb;(try clear hb);(try clear ho0))|((with_reducible refine gate_dst (N:=26) rfl ?_);refine ybx 26 #[.int .u64 0, .int .u32 0, .slice none 0 0, .int .i64 0] 82 ?_;intro bU hg w99 hbox hb;replace al:=ySb al hb;replace av:=ySb av hb;replace ac:=yVe ac hg hb;replace aa:=ySb aa hb;replace ai:=yRb ai hb;replace aQ:=yRb aQ hb;replace aw:=yRb aw hb;replace aE:=yRb aE hb;replace bz:=yVe bz hg hb;replace bc:=yCb bc hb;replace bq:=yCb bq hb;have bk:=zm (hbox);have gL:=ygw hg;have gM:=ygw hg;replace HB:=ybs hb;have cY:=ynl af hg;have cZ:=yng af hg;replace af:=ybb af hb;have da:=ynl ag hg;have db:=yng ag hg;replace ag:=ybb ag hb;have dc:=ynl ah hg;have dd:=yng ah hg;replace ah:=ybb ah hb;clear hb hbox hg;have:=cZ.out;have:=cY.out;have:=db.out;have:=da.out;have:=dd.out;have:=dc.out;obtain ⟨_,_,_,_,_,_,_,_⟩:=yc4 bk;obtain ⟨co,cp,fF⟩:=Kd.V_slice bz.out;subst fF;obtain ⟨_,_,_,_,_,_,_,_⟩:=yc4 ag))
          obtain ⟨bQ,hw_⟩ : ∃ x,x=((((((((w99.setCell ⟨bU,0,none⟩ (.int .u64 cH)).setCell ⟨bU,1,none⟩ (.int .u32 cI)).setCell ⟨bU,2,none⟩ (.slice co ck.length cp)).setCell ⟨bU,3,none⟩ (.int .i64 cJ)).setCell ⟨aj,0,none⟩ (.int .u64 cH)).setCell ⟨aj,1,none⟩ (.int .u32 cI)).setCell ⟨aj,2,none⟩ (.slice co ck.length cp)).setCell ⟨aj,3,none⟩ (.int .i64 cJ)):=⟨_,rfl⟩
          rw [← hw_]
          replace al : Aside0 (Kd.S (Kd.slice 3 (Kd.int .i64)) 49 bQ w.heap.size (fun k_=>some k_≠(u21 : Value).ownBlock∧some k_≠(.slice aV ae.length aW : Value).ownBlock∧some k_≠(bx : Value).ownBlock) (.slice (some aI) ax.length bB) ax):=⟨by rw [hw_];exact (yS2 al bk ag)⟩
          replace av : Aside0 (Kd.S (Kd.slice 3 (Kd.int .i64)) 49 bQ w.heap.size (fun k_=>some k_≠(.slice (some aI) ax.length bB : Value).ownBlock∧some k_≠(.slice aV ae.length aW : Value).ownBlock∧some k_≠(bx : Value).ownBlock) u21 bw):=⟨by rw [hw_];exact (yS2 av bk ag)⟩
          replace ac : Aside0 (Kd.V (Kd.int .u8) 5 bQ w.heap.size (fun k_=>some k_≠(.slice (some aI) ax.length bB : Value).ownBlock∧some k_≠(u21 : Value).ownBlock∧some k_≠(.slice aV ae.length aW : Value).ownBlock∧some k_≠(aN : Value).ownBlock∧some k_≠(bx : Value).ownBlock∧k_≠aq∧k_≠aj∧k_≠ak∧k_≠bU) (.slice fD aK.length fE) aK):=⟨by rw [hw_];exact (yV0 ac)⟩
          replace aa : Aside0 (Kd.S (Kd.slice 3 (Kd.int .i64)) 49 bQ w.heap.size (fun k_=>some k_≠(.slice (some aI) ax.length bB : Value).ownBlock∧some k_≠(u21 : Value).ownBlock∧some k_≠(bx : Value).ownBlock) (.slice aV ae.length aW) ae):=⟨by rw [hw_];exact (yS2 aa bk ag)⟩
          replace ai : Aside0 (Kd.R (Kd.slice 49 (Kd.slice 3 (Kd.int .i64))) 22 bQ w.heap.size (fun k_=>some k_≠(.slice (some aI) ax.length bB : Value).ownBlock∧some k_≠(u21 : Value).ownBlock∧some k_≠(.slice aV ae.length aW : Value).ownBlock∧some k_≠(bx : Value).ownBlock) aN aJ):=⟨by rw [hw_];exact (yR2 ai bk ag)⟩
          replace aQ : Aside0 (Kd.R (Kd.int .i64) 3 bQ w.heap.size (fun _=>True) bx cf):=⟨by rw [hw_];exact (yR2 aQ bk ag)⟩
          replace aw : Aside0 (Kd.R (Kd.int .i64) 3 bQ w.heap.size (fun k_=>some k_≠(.slice (some aI) ax.length bB : Value).ownBlock∧some k_≠(u21 : Value).ownBlock∧some k_≠(.slice aV ae.length aW : Value).ownBlock∧some k_≠(bx : Value).ownBlock) (.slice (some eA) (rd_L1 ax am).length dt) (rd_L1 ax am)):=⟨by rw [hw_];exact (yR2 aw bk ag)⟩
          replace aE : Aside0 (Kd.R (Kd.int .i64) 3 bQ w.heap.size (fun k_=>some k_≠(.slice (some aI) ax.length bB : Value).ownBlock∧some k_≠(u21 : Value).ownBlock∧some k_≠(.slice aV ae.length aW : Value).ownBlock∧some k_≠(bx : Value).ownBlock) (.slice (some dv) (rd_L1 ax am).length du) (rd_L1 ax am)):=⟨by rw [hw_];exact (yR2 aE bk ag)⟩
          replace bz : Aside0 (Kd.V (Kd.int .u8) 5 bQ w.heap.size (fun k_=>some k_≠(.slice (some aI) ax.length bB : Value).ownBlock∧some k_≠(u21 : Value).ownBlock∧some k_≠(.slice aV ae.length aW : Value).ownBlock∧some k_≠(aN : Value).ownBlock∧some k_≠(bx : Value).ownBlock∧k_≠aq∧k_≠aj∧k_≠ak∧k_≠bU) (.slice co ck.length cp) ck):=⟨by rw [hw_];exact (yV0 bz)⟩
          replace af : Aside0 (bQ.heap[aq]? = some (.cells #[.bool false, .slice none 0 0, .slice none 0 0] 25 (0,0))):=⟨by rw [hw_];exact (yk af)⟩
          replace ag : Aside0 (bQ.heap[aj]? = some (.cells #[.int .u64 cH, .int .u32 cI, .slice co ck.length cp, .int .i64 cJ] 82 (0,0))):=⟨by rw [hw_];exact (ykp ag)⟩
          replace ah : Aside0 (bQ.heap[ak]? = some (.cells #[.bool (bd == 1), .slice aV ae.length aW,aN] 25 (0,0))):=⟨by rw [hw_];exact (yk ah)⟩
          replace bk : Aside0 (bQ.heap[bU]? = some (.cells #[.int .u64 cH, .int .u32 cI, .slice co ck.length cp, .int .i64 cJ] 82 (0,0))):=⟨by rw [hw_];exact (ykp bk)⟩
          replace HB : Aside0 (Below w.heap.size w bQ):=⟨by rw [hw_];exact (yhb)⟩
          clear hw_
          replace al:=zm (Kd.S_drew al.out)
          replace av:=zm (Kd.S_drew av.out)
          replace ac:=zm (zC ac.out)
          replace aa:=zm (Kd.S_drew aa.out)
          replace ai:=zm (zq ai.out)
          replace aQ:=zm (zq aQ.out)
          replace aw:=zm (zq aw.out)
          replace aE:=zm (zq aE.out)
          replace bz:=zm (zC bz.out)
          replace af:=zm (zj af.out)
          replace ag:=zm (zj ag.out)
          replace ah:=zm (zj ah.out)
          replace bk:=zm (zj bk.out)
          replace HB:=zm (zf HB.out)
          have er : 0≤(am : Int):=yt
          have es : am < (ax.length : Int):=yt
          obtain ⟨fG,gw,eQ,gx,cO,cP,cQ⟩:=at_L1 (Kd.S_reads' al.out).2.2 am er es
          obtain rfl : aI=fG:=(by injection gx)
          obtain ⟨ce566,hce566,hMe566,hcc566⟩:=Kd.S_get al.out [] am er (by first|exact es|exact yt|(have e_:=(Kd.S_reads' al.out).1;omega))
          obtain ⟨ve566_0,rfl,ge566_0⟩:=hMe566
          have hv566_0:=hcc566 0 _ rfl
          rw [Nat.add_zero,show ((Kd.slice 3 (Kd.int .i64))).sz=1 from rfl,Nat.mul_one] at hv566_0
          replace hv566_0:=Option.some.inj (hv566_0.symm.trans cO)
          rw [hv566_0] at ge566_0
          have bA:=zm (show Kd.R (Kd.int .i64) 3 _ _ _ _ (rd_L1 ax am) from ge566_0)
          clear hv566_0 ge566_0 hcc566 hce566;have bK:=zm cQ;have fZ:=zm cP;clear cQ cP
          replace er:=eq_true er
          replace es:=eq_true es
          obtain ⟨eB,gy,et,hH,hJ⟩:=yai bK au
          cases gy
          refine yst (fun w' => w'.cell? (aI.add (am).toNat)=some (.slice (some eB) (rd_L1 ax am).length eQ)∧w'.cell? (eB.add (au).toNat)=some (.int .i64 (rd (rd_L1 ax am) au))) [] 15 cpack_Read.tab30 cpack_Read.bits30 (fun hHeld HT_ HW_ => ?_)
          generalize bQ.drew=hL at al av ac aa ai aQ aw aE bz af ag ah bk HB bA bK cO et hHeld ⊢
          refine yp 0 138 HT_ ?_
          refine yp 2 140 HT_ ?_
          refine yp 3 141 HT_ ?_
          refine yp 4 142 HT_ ?_
          refine yp 6 144 HT_ ?_
          refine yp 9 147 HT_ ?_
          refine yl 5 143 HT_ HW_ hHeld ?_
          refine yp 7 145 HT_ ?_
          refine yl 8 146 HT_ HW_ hHeld ?_
          refine yw 1 139 HT_ (fun K hK => ?_)
          refine ygs Try.func32 #[.int .i64 au] ?_
          with_reducible refine (band_Width.calls au cB _ A84.out).mono ?_
          rintro e hO ⟨rfl,hb⟩
          have eO:=yhs hb hHeld.1
          have eP:=yhs hb hHeld.2
          refine ⟨_,rfl, ?_⟩
          replace al:=ySb al hb
          replace av:=ySb av hb
          replace ac:=yVb ac hb
          replace aa:=ySb aa hb
          replace ai:=yRb ai hb
          replace aQ:=yRb aQ hb
          replace aw:=yRb aw hb
          replace aE:=yRb aE hb
          replace bz:=yVb bz hb
          replace bA:=yRb bA hb
          replace af:=ybb af hb
          replace ag:=ybb ag hb
          replace ah:=ybb ah hb
          replace bk:=ybb bk hb
          replace bK:=yCb bK hb
          replace HB:=ybs hb
          (try clear hb)
          refine hK.out _ _ yH (fun hHeld => ?_)
          clear hK K
          refine ym (some 139) ?_
          refine yw 10 148 HT_ (fun K hK => ?_)
          refine ygs Try.func54 #[.int .i64 cB, .int .i64 (rd (rd_L1 ax am) au), .int .u64 eK] ?_
          with_reducible refine (comb_Vector.calls k4 cB (rd (rd_L1 ax am) au) eK b4 gj _ A85.out).mono ?_
          rintro e hU ⟨hX,rfl,ho0,hb⟩
          have eO:=yhs hb hHeld.1
          have eP:=yhs hb hHeld.2
          refine ⟨_,rfl, ?_⟩
          replace al:=zm (Kd.S_elder' (yr al) (Kd.R_base ho0) hb)
          replace av:=zm (Kd.S_elder' (yr av) (Kd.R_base ho0) hb)
          replace ac:=zm (Kd.V_elder' (yr ac) (Kd.R_base ho0) hb)
          replace aa:=zm (Kd.S_elder' (yr aa) (Kd.R_base ho0) hb)
          replace ai:=zm (Kd.R_elder' (yr ai) (Kd.R_base ho0) hb)
          replace bz:=zm (Kd.V_elder' (yr bz) (Kd.R_base ho0) hb)
          have cR:=zm (Kd.R_lower (Kd.R_new' (Kd.R_new' (Kd.R_new' (Kd.R_new' ho0 (Kd.R_lt (yr aQ))) (Kd.R_lt (yr aw))) (Kd.R_lt (yr aE))) (Kd.R_lt (yr bA))) (zE yhb))
          replace aQ:=zm (Kd.R_elder' (yr aQ) (Kd.R_base ho0) hb)
          replace aw:=zm (Kd.R_elder' (yr aw) (Kd.R_base ho0) hb)
          replace aE:=zm (Kd.R_elder' (yr aE) (Kd.R_base ho0) hb)
          replace bA:=zm (Kd.R_elder' (yr bA) (Kd.R_base ho0) hb)
          replace af:=ybb af hb
          replace ag:=ybb ag hb
          replace ah:=ybb ah hb
          replace bk:=ybb bk hb
          replace bK:=yCb bK hb
          replace HB:=ybs hb
          (try clear hb)
          (try clear ho0)
          refine hK.out _ _ yH (fun hHeld => ?_)
          clear hK K
          refine ym (some 148) ?_
          refine yp 11 137 HT_ ?_
          refine yp 12 149 HT_ ?_
          refine yp 13 150 HT_ ?_
          refine yp 14 23 HT_ ?_
          refine done_ (done_of HT_.out (by kernel_rfl)) ?_
          obtain ⟨bN,bO,fH⟩:=Kd.R_slice cR.out
          subst fH
          try go_wp2_with (first|((with_reducible refine gate_builtin (b:=.append) (xs := #[.tmp 151, .tmp 153]) rfl ?_);at_builtin;refine Kd.S_append (Kd.slice 3 (Kd.int .i64)) (w0:=w) w.heap.size rfl (.tmp 151) (.tmp 153) 22 49 (.slice none 0 0) 24 rfl Try.underlying22 info49 rfl (by decide) (by omega) u21 bw b4 [.slice bN b4.length bO] (fun k_=>some k_≠(.slice (some aI) ax.length bB : Value).ownBlock∧some k_≠(.slice aV ae.length aW : Value).ownBlock∧some k_≠(bx : Value).ownBlock) (fun k_=>some k_=(.slice bN b4.length bO : Value).ownBlock) rfl rfl ?aP (fun k_ hk_=>((zG (ok' := fun k_=>((fun k_=>some k_≠(.slice (some aI) ax.length bB : Value).ownBlock∧some k_≠(.slice aV ae.length aW : Value).ownBlock∧some k_≠(bx : Value).ownBlock)) k_∧some k_≠(u21 : Value).ownBlock) (Kd.R_apart' (Kd.R_apart' (Kd.R_apart' (cR.out) (Kd.S_typed al.out) (by decide)) (Kd.S_typed aa.out) (by decide)) (Kd.S_typed av.out) (by decide)) (fun k_ hk=>⟨⟨hk.1.1.2,⟨hk.1.2,hk.1.1.1.1.1.1.2⟩⟩,hk.2⟩))).1 k_ hk_.symm) ?aF ?aO ?aB ?aS ?aL ?_;(case aP=>exact Kd.M_row (zG (Kd.R_tight rfl (zG (ok' := fun k_=>((fun k_=>some k_≠(.slice (some aI) ax.length bB : Value).ownBlock∧some k_≠(.slice aV ae.length aW : Value).ownBlock∧some k_≠(bx : Value).ownBlock)) k_∧some k_≠(u21 : Value).ownBlock) (Kd.R_apart' (Kd.R_apart' (Kd.R_apart' (cR.out) (Kd.S_typed al.out) (by decide)) (Kd.S_typed aa.out) (by decide)) (Kd.S_typed av.out) (by decide)) (fun k_ hk=>⟨⟨hk.1.1.2,⟨hk.1.2,hk.1.1.1.1.1.1.2⟩⟩,hk.2⟩))) (fun _ h_=>h_)));(case aB=>exact yhb);(case aF=>exact (fun k_ hk=>⟨Kd.fresh' (Kd.S_lt (yr al)) k_ hk,Kd.fresh' (Kd.S_lt (yr aa)) k_ hk,Kd.fresh' (Kd.R_lt (yr aQ)) k_ hk⟩));(case aO=>exact (yS0 av));(case aS=>exact (zE yhb));(case aL=>have:=LMc86.out;omega);intro ia ib ho hb hg hat;rw [← fB.out] at ho;replace al:=zm (Kd.S_after (ok:=(fun k_=>some k_≠(.slice aV ae.length aW : Value).ownBlock∧some k_≠(bx : Value).ownBlock∧some k_≠(.slice bN b4.length bO : Value).ownBlock)) (yS0 al) hg hat);replace ac:=zm (Kd.V_afterv (ok:=(fun k_=>some k_≠(.slice (some aI) ax.length bB : Value).ownBlock∧some k_≠(.slice aV ae.length aW : Value).ownBlock∧some k_≠(aN : Value).ownBlock∧some k_≠(bx : Value).ownBlock∧some k_≠(.slice bN b4.length bO : Value).ownBlock∧k_≠aq∧k_≠aj∧k_≠ak∧k_≠bU)) (yV0 ac) hg hat);replace aa:=zm (Kd.S_after (ok:=(fun k_=>some k_≠(.slice (some aI) ax.length bB : Value).ownBlock∧some k_≠(bx : Value).ownBlock∧some k_≠(.slice bN b4.length bO : Value).ownBlock)) (yS0 aa) hg hat);replace ai:=zm (Kd.R_after (ok:=(fun k_=>some k_≠(.slice (some aI) ax.length bB : Value).ownBlock∧some k_≠(.slice aV ae.length aW : Value).ownBlock∧some k_≠(bx : Value).ownBlock∧some k_≠(.slice bN b4.length bO : Value).ownBlock)) (yR0 ai) hg hat);replace af:=zm (blk_grown (yk af) hg (Kd.S_ne av.out af.out (by decide)));replace ag:=zm (blk_grown (yk ag) hg (Kd.S_ne av.out ag.out (by decide)));replace ah:=zm (blk_grown (yk ah) hg (Kd.S_ne av.out ah.out (by decide)));replace aQ:=zm (Kd.R_over' (yr aQ) (Kd.S_typed (yr av)) (by decide) hg);replace aw:=zm (Kd.R_after (ok:=(fun k_=>some k_≠(.slice (some aI) ax.length bB : Value).ownBlock∧some k_≠(.slice aV ae.length aW : Value).ownBlock∧some k_≠(bx : Value).ownBlock∧some k_≠(.slice bN b4.length bO : Value).ownBlock)) (yR0 aw) hg hat);replace aE:=zm (Kd.R_after (ok:=(fun k_=>some k_≠(.slice (some aI) ax.length bB : Value).ownBlock∧some k_≠(.slice aV ae.length aW : Value).ownBlock∧some k_≠(bx : Value).ownBlock∧some k_≠(.slice bN b4.length bO : Value).ownBlock)) (yR0 aE) hg hat);replace bz:=zm (Kd.V_afterv (ok:=(fun k_=>some k_≠(.slice (some aI) ax.length bB : Value).ownBlock∧some k_≠(.slice aV ae.length aW : Value).ownBlock∧some k_≠(aN : Value).ownBlock∧some k_≠(bx : Value).ownBlock∧some k_≠(.slice bN b4.length bO : Value).ownBlock∧k_≠aq∧k_≠aj∧k_≠ak∧k_≠bU)) (yV0 bz) hg hat);replace bk:=zm (blk_grown (yk bk) hg (Kd.S_ne av.out bk.out (by decide)));replace bA:=zm (Kd.R_after (ok:=(fun k_=>some k_≠(.slice (some aI) ax.length bB : Value).ownBlock∧some k_≠(.slice aV ae.length aW : Value).ownBlock∧some k_≠(bx : Value).ownBlock∧some k_≠(.slice bN b4.length bO : Value).ownBlock)) (yR0 bA) hg hat);replace HB:=zm (hb);have fI:=zm (ho);clear av;clear cR;clear ho hb hg hat))
          go_roundg k4
          case measure=>exact yom4 cy HK2 HK3 HK4
          case rel=>exact ⟨(fA),(wrap64 (au+1)),(cH),(cI),(ck),(cJ),(.slice co ck.length cp),yq,H',⟨yom4 cy HK2 HK3 HK4⟩,⟨yS0 al⟩,⟨yS0 fI⟩,⟨yV0 bz⟩,⟨yS0 aa⟩,⟨yR0 ai⟩,⟨yk af⟩,⟨yk ag⟩,⟨yk ah⟩,⟨yhb⟩⟩
         rw [if_neg c80] at H
         have fz:=yGs c80
         clear c80
         obtain ⟨fJ,H⟩:=yif H
         have LMc112:=zm fJ;clear fJ
         obtain ⟨fK,dw⟩ : ∃ y_ : List (List Int),y_=(bw ++ [cf]):=⟨_,rfl⟩
         replace H : (cpack_Read.l2 k4 ax am fK a1 am (wrap64 (au+1)) aZ a7 aK a8 (bd == 1) ae aJ)=some (r1,r2,r3,r4):=yrw dw H
         have fL:=zm dw;clear dw
         have H' := zm H
         clear H
         go_wp2_with (first|((with_reducible refine gate_callee (f:=32) rfl ?_);refine ygl 106 Try.func32 #[.int .i64 au] ?_;(with_reducible refine (band_Width.calls au bV _ A73.out).mono ?_);rintro e ic ⟨rfl,hb⟩;refine ⟨_,rfl, ?_⟩;replace al:=ySb al hb;replace av:=ySb av hb;replace ac:=yVb ac hb;replace aa:=ySb aa hb;replace ai:=yRb ai hb;replace af:=ybb af hb;replace ag:=ybb ag hb;replace ah:=ybb ah hb;replace HB:=ybs hb;(try clear hb))|((with_reducible refine gate_dst (N:=107) rfl ?_);refine Kd.R_make (Kd.int .i64) _ 3 rfl (N:=107) rfl 49 _ _ rfl bV rfl rfl Try.underlying49 (.int .i64 0) 8 info3 rfl (by decide) (by omega) 0 (ok:=fun _=>True) (okp:=fun _=>True) rfl (fun _ hk=>hk) trivial (yt) (Nat.le_trans (Nat.mul_le_mul_right _ (yt : bV.toNat≤35184372088832)) (by omega)) (Below.refl _ _) (Nat.le_refl _) ?_;intro bx ie bP hb hg_ hnew_;clear hg_ hnew_;(first|rw [← cK.out] at bP|(simp only [Int.reduceToNat] at bP;rw [← cK.out] at bP));replace al:=zm (Kd.S_elder' (yr al) (Kd.R_base bP) hb);replace av:=zm (Kd.S_elder' (yr av) (Kd.R_base bP) hb);replace ac:=zm (Kd.V_elder' (yr ac) (Kd.R_base bP) hb);replace aa:=zm (Kd.S_elder' (yr aa) (Kd.R_base bP) hb);replace ai:=zm (Kd.R_elder' (yr ai) (Kd.R_base bP) hb);have aQ:=zm (Kd.R_lower bP (zE yhb));replace af:=ybb af hb;replace ag:=ybb ag hb;replace ah:=ybb ah hb;replace HB:=ybs hb;clear hb bP;obtain ⟨gN,cg,fM⟩:=Kd.S_slice al.out;subst fM;have cr : 0≤(am : Int):=yt;have ct : am < (ax.length : Int):=yt;obtain ⟨aI,eL,dt,eM,cu,bS,bT⟩:=at_L1 (Kd.S_reads' al.out).2.2 am cr ct;cases eM;obtain ⟨ce549,hce549,hMe549,hcc549⟩:=Kd.S_get al.out [] am cr (by first|exact ct|exact yt|(have e_:=(Kd.S_reads' al.out).1;omega));obtain ⟨ve549_0,rfl,ge549_0⟩:=hMe549;have hv549_0:=hcc549 0 _ rfl;rw [Nat.add_zero,show ((Kd.slice 3 (Kd.int .i64))).sz=1 from rfl,Nat.mul_one] at hv549_0;replace hv549_0:=Option.some.inj (hv549_0.symm.trans cu);rw [hv549_0] at ge549_0;have aw:=zm (show Kd.R (Kd.int .i64) 3 _ _ _ _ (rd_L1 ax am) from ge549_0);clear hv549_0 ge549_0;clear hcc549 hce549;have bc:=zm bT;have em:=zm bS;clear bT bS;replace cr:=eq_true cr;replace ct:=eq_true ct;obtain ⟨eA,eN,en,gm,gn⟩:=yai bc au;cases eN;obtain ⟨ch,ci,fN⟩:=Kd.R_slice aQ.out;subst fN)|((with_reducible refine gate_builtin (b:=.append) (xs := #[.tmp 151, .tmp 153]) rfl ?_);at_builtin;refine Kd.S_append (Kd.slice 3 (Kd.int .i64)) (w0:=w) w.heap.size rfl (.tmp 151) (.tmp 153) 22 49 (.slice none 0 0) 24 rfl Try.underlying22 info49 rfl (by decide) (by omega) u21 bw cf [.slice ch cf.length ci] (fun k_=>some k_≠(.slice (some aI) ax.length cg : Value).ownBlock∧some k_≠(.slice aV ae.length aW : Value).ownBlock) (fun k_=>some k_=(.slice ch cf.length ci : Value).ownBlock) rfl rfl ?aP (fun k_ hk_=>((zG (ok' := fun k_=>((fun k_=>some k_≠(.slice (some aI) ax.length cg : Value).ownBlock∧some k_≠(.slice aV ae.length aW : Value).ownBlock)) k_∧some k_≠(u21 : Value).ownBlock) (Kd.R_apart' (Kd.R_apart' (Kd.R_apart' (aQ.out) (Kd.S_typed al.out) (by decide)) (Kd.S_typed aa.out) (by decide)) (Kd.S_typed av.out) (by decide)) (fun k_ hk=>⟨⟨hk.1.1.2,hk.1.2⟩,hk.2⟩))).1 k_ hk_.symm) ?aF ?aO ?aB ?aS ?aL ?_;(case aP=>exact Kd.M_row (zG (Kd.R_tight rfl (zG (ok' := fun k_=>((fun k_=>some k_≠(.slice (some aI) ax.length cg : Value).ownBlock∧some k_≠(.slice aV ae.length aW : Value).ownBlock)) k_∧some k_≠(u21 : Value).ownBlock) (Kd.R_apart' (Kd.R_apart' (Kd.R_apart' (aQ.out) (Kd.S_typed al.out) (by decide)) (Kd.S_typed aa.out) (by decide)) (Kd.S_typed av.out) (by decide)) (fun k_ hk=>⟨⟨hk.1.1.2,hk.1.2⟩,hk.2⟩))) (fun _ h_=>h_)));(case aB=>exact yhb);(case aF=>exact (fun k_ hk=>⟨Kd.fresh' (Kd.S_lt (yr al)) k_ hk,Kd.fresh' (Kd.S_lt (yr aa)) k_ hk⟩));(case aO=>exact (yS0 av));(case aS=>exact (zE yhb));(case aL=>have:=LMc112.out;omega);intro ig ii ho hb hg hat;rw [← fL.out] at ho;replace al:=zm (Kd.S_after (ok:=(fun k_=>some k_≠(.slice aV ae.length aW : Value).ownBlock∧some k_≠(.slice ch cf.length ci : Value).ownBlock)) (yS0 al) hg hat);replace ac:=zm (Kd.V_afterv (ok:=(fun k_=>some k_≠(.slice (some aI) ax.length cg : Value).ownBlock∧some k_≠(.slice aV ae.length aW : Value).ownBlock∧some k_≠(aN : Value).ownBlock∧some k_≠(.slice ch cf.length ci : Value).ownBlock∧k_≠aq∧k_≠aj∧k_≠ak)) (yV0 ac) hg hat);replace aa:=zm (Kd.S_after (ok:=(fun k_=>some k_≠(.slice (some aI) ax.length cg : Value).ownBlock∧some k_≠(.slice ch cf.length ci : Value).ownBlock)) (yS0 aa) hg hat);replace ai:=zm (Kd.R_after (ok:=(fun k_=>some k_≠(.slice (some aI) ax.length cg : Value).ownBlock∧some k_≠(.slice aV ae.length aW : Value).ownBlock∧some k_≠(.slice ch cf.length ci : Value).ownBlock)) (yR0 ai) hg hat);replace af:=zm (blk_grown (yk af) hg (Kd.S_ne av.out af.out (by decide)));replace ag:=zm (blk_grown (yk ag) hg (Kd.S_ne av.out ag.out (by decide)));replace ah:=zm (blk_grown (yk ah) hg (Kd.S_ne av.out ah.out (by decide)));replace aw:=zm (Kd.R_after (ok:=(fun k_=>some k_≠(.slice (some aI) ax.length cg : Value).ownBlock∧some k_≠(.slice aV ae.length aW : Value).ownBlock∧some k_≠(.slice ch cf.length ci : Value).ownBlock)) (yR0 aw) hg hat);replace HB:=zm (hb);have fO:=zm (ho);clear av;clear aQ;clear ho hb hg hat))
         go_roundg k4
         case measure=>exact yom4 cy HK2 HK3 HK4
         case rel=>exact ⟨(fK),(wrap64 (au+1)),(aZ),(a7),(aK),(a8),(a9),yq,H',⟨yom4 cy HK2 HK3 HK4⟩,⟨yS0 al⟩,⟨yr fO⟩,⟨yV0 ac⟩,⟨yS0 aa⟩,⟨yR0 ai⟩,⟨yk af⟩,⟨yk ag⟩,⟨yk ah⟩,⟨yhb⟩⟩
        rw [if_neg c72] at H
        have fy:=yG c72
        clear c72
        obtain ⟨fP,H⟩:=yif H
        have LMc119:=zm fP;clear fP
        obtain ⟨eR,dx⟩ : ∃ y_ : List (List (List Int)),y_=(aJ ++ [bw]):=⟨_,rfl⟩
        replace H : (cpack_Read.l1 k4 ax a1 (wrap64 (am+1)) aZ a7 aK a8 (bd == 1) ae eR)=some (r1,r2,r3,r4):=yrw dx H
        have fQ:=zm dx;clear dx
        have H' := zm H
        clear H
        have:=bj.out
        have:=bi.out
        have:=aU.out
        have:=aT.out
        obtain ⟨_,_,_,_,_,_⟩:=yc3 ah
        obtain ⟨eC,eD,fR⟩:=Kd.S_slice av.out
        subst fR
        go_wp2_with (first|((with_reducible refine gate_builtin (b:=.append) (xs := #[.tmp 157, .tmp 159]) rfl ?_);at_builtin;refine Kd.R_append (Kd.slice 49 (Kd.slice 3 (Kd.int .i64))) (w0:=w) w.heap.size rfl (.tmp 157) (.tmp 159) 23 22 (.slice none 0 0) 24 rfl Try.underlying23 info22 rfl (by decide) (by omega) aN aJ bw [.slice eC bw.length eD] (fun k_=>some k_≠(b7 : Value).ownBlock∧some k_≠(.slice aV ae.length aW : Value).ownBlock) (fun k_=>((fun k_=>some k_≠(b7 : Value).ownBlock∧some k_≠(.slice aV ae.length aW : Value).ownBlock)) k_∧some k_≠(aN : Value).ownBlock) rfl rfl ?aP (fun _ hk=>hk) ?aF ?aO ?aB ?aS ?aL ?_;(case aP=>exact Kd.M_row (zG (Kd.R_apart' ((Kd.S_R av.out)) (Kd.R_typed ai.out) (by decide)) (fun k_ hk=>⟨⟨hk.1.1,hk.1.2⟩,hk.2⟩)));(case aB=>exact yhb);(case aF=>exact (fun k_ hk=>⟨Kd.fresh' (Kd.S_lt (yr al)) k_ hk,Kd.fresh' (Kd.S_lt (yr aa)) k_ hk⟩));(case aO=>exact (yR0 ai));(case aS=>exact (zE yhb));(case aL=>have:=LMc119.out;omega);intro ij ik ho hb hg hat;rw [← fQ.out] at ho;replace al:=zm (Kd.S_over' (yr al) (Kd.R_typed (yr ai)) (by decide) hg);replace ac:=zm (Kd.V_afterv (ok:=(fun k_=>some k_≠(b7 : Value).ownBlock∧some k_≠(.slice eC bw.length eD : Value).ownBlock∧some k_≠(.slice aV ae.length aW : Value).ownBlock∧k_≠aq∧k_≠aj∧k_≠ak)) (yV0 ac) hg hat);replace aa:=zm (Kd.S_over' (yr aa) (Kd.R_typed (yr ai)) (by decide) hg);replace af:=zm (blk_grown (yk af) hg (zu ai.out af.out (by decide)));replace ag:=zm (blk_grown (yk ag) hg (zu ai.out ag.out (by decide)));replace ah:=zm (blk_grown (yk ah) hg (zu ai.out ah.out (by decide)));replace HB:=zm (hb);have eE:=zm (ho);clear ai;clear av;clear ho hb hg hat;obtain ⟨fS,fT,fU⟩:=Kd.R_slice eE.out;subst fU;obtain ⟨_,_,_,_,_,_⟩:=yc3 ah))
        go_roundg k4
        case measure=>exact yom4 cy HK2 HK3 HK4
        case rel=>exact ⟨(wrap64 (am+1)),(aZ),(a7),(aK),(a8),(eR),(a9),(.slice fS eR.length fT),yq,H',⟨yom4 cy HK2 HK3 HK4⟩,⟨yS1 al ah⟩,⟨yV0 ac⟩,⟨yS1 aa ah⟩,⟨yR1 eE ah⟩,⟨yk af⟩,⟨yk ag⟩,⟨ykp ah⟩,⟨yhb⟩⟩
      rw [if_neg c71] at H
      have ez:=yG c71
      clear c71
      simp only [Option.some.injEq,Prod.mk.injEq] at H
      obtain ⟨rfl,rfl,rfl,rfl⟩:=H
      have:=bj.out
      have:=bi.out
      have:=aU.out
      have:=aT.out
      obtain ⟨_,_,_,_,_,_⟩:=yc3 ah
      have:=bg.out
      have:=bh.out
      obtain ⟨_,_,_,_,_,_⟩:=yc3 af
      obtain ⟨fV,fW,fX⟩:=Kd.R_slice ai.out
      subst fX
      go_wp2
      refine bodyPost_ret (results_ct rfl _ _ aq 25 #[.bool (bd == 1), .slice aV ae.length aW, .slice fV aJ.length fW] (0,0) _ rfl (ykp af) Try.underlying25 rfl (by kernel_rfl)) rfl ?_
      exact ⟨_,_,ye,yS1 aa af,yR1 ai af,yhb⟩
  rw [if_neg c7] at H
  obtain ⟨eV,eW⟩:=yF c7
  simp only [Option.some.injEq,Prod.mk.injEq] at H
  obtain ⟨rfl,rfl,rfl,rfl⟩:=H
  go_enter Try.func20,Try.ntmps20
  go_wp2_with (first|((with_reducible refine gate_dst (N:=8) rfl ?_);refine ybx 8 #[.bool false, .slice none 0 0, .slice none 0 0] 25 ?_;intro aq hg eS hbox hb;have af:=zm (hbox);have eu:=ygw hg;have ev:=ygw hg;replace HB:=ybs hb;clear hb hbox hg)|((with_reducible refine gate_callee (f:=48) rfl ?_);refine ygl 31 Try.func48 #[.int .i64 a0, .int .i64 a1] ?_;(with_reducible refine (alloc_Right.calls a0 a1 true _ A5.out).mono ?_);rintro e w' ⟨rfl,⟨nd,rfl⟩⟩;refine ⟨_,rfl, ?_⟩;(try (rw [drewN_self eS];generalize hq_ : World.drewN eS _=eS;replace af:=ykq hq_ af;replace HB:=ysq hq_;clear hq_));obtain ⟨_,_,_,_,_,_⟩:=yc3 af))
  refine bodyPost_ret (results_ct rfl _ _ aq 25 #[.bool false, .slice none 0 0, .slice none 0 0] (0,0) _ rfl (ykp af) Try.underlying25 rfl (by kernel_rfl)) rfl ?_
  exact ⟨_,_,ye,yn,yn,yhb⟩
 replace c6:=Bool.eq_false_iff.mpr c6
 subst c6
 rw [ynf] at H
 simp only [Option.some.injEq,Prod.mk.injEq] at H
 obtain ⟨rfl,rfl,rfl,rfl⟩:=H
 go_enter Try.func20,Try.ntmps20
 go_wp2_with (first|((with_reducible refine gate_dst (N:=8) rfl ?_);refine ybx 8 #[.bool false, .slice none 0 0, .slice none 0 0] 25 ?_;intro aq hg eT hbox hb;have af:=zm (hbox);have eu:=ygw hg;have ev:=ygw hg;replace HB:=ybs hb;clear hb hbox hg)|((with_reducible refine gate_callee (f:=48) rfl ?_);refine ygl 31 Try.func48 #[.int .i64 a0, .int .i64 a1] ?_;(with_reducible refine (alloc_Right.calls a0 a1 false _ A5.out).mono ?_);rintro e w' ⟨rfl,⟨nd,rfl⟩⟩;refine ⟨_,rfl, ?_⟩;(try (rw [drewN_self eT];generalize hq_ : World.drewN eT _=eT;replace af:=ykq hq_ af;replace HB:=ysq hq_;clear hq_));obtain ⟨_,_,_,_,_,_⟩:=yc3 af))
 refine bodyPost_ret (results_ct rfl _ _ aq 25 #[.bool false, .slice none 0 0, .slice none 0 0] (0,0) _ rfl (ykp af) Try.underlying25 rfl (by kernel_rfl)) rfl ?_
 exact ⟨_,_,ye,yn,yn,yhb⟩
def coder_New.f  : Option (Int × Int × List Int):=some (0,4294967295,([] : List Int))
set_option maxHeartbeats 8000000 in
set_option maxRecDepth 100000 in
theorem coder_New.calls  (r1 : Int) (r2 : Int) (r3 : List Int) (w : World) (h : coder_New.f  = some (r1,r2,r3)) :
  Calls Try.prog 27 #[] w fun e w' => ∃ v2_ : Value,e=.returned (.agg #[.int .u64 r1, .int .u32 r2,v2_])∧Kd.R (Kd.int .u8) 5 w' w.heap.size (fun _=>True) v2_ r3∧Below w.heap.size w w' := by
 have hu54:=Try.underlying54;have HB:=zm (Below.refl w.heap.size w);have H:=h
 unfold coder_New.f at H
 clear h
 simp only [Option.some.injEq,Prod.mk.injEq] at H
 obtain ⟨rfl,rfl,rfl⟩:=H
 go_enter Try.func27,Try.ntmps27
 go_wp2_with (first|((with_reducible refine gate_dst (N:=0) rfl ?_);refine ybx 0 #[.int .u64 0, .int .u32 0, .slice none 0 0] 54 ?_;intro ac hg w1 hbox hb;have aa:=zm (hbox);have ae:=ygw hg;have af:=ygw hg;replace HB:=ybs hb;clear hb hbox hg;obtain ⟨_,_,_,_,_,_⟩:=yc3 aa))
 refine bodyPost_ret (results_cell_row rfl _ _ ac 54 #[.int .u64 0, .int .u32 4294967295, .slice none 0 0] (0,0) _ rfl (ykp aa) Try.underlying54 rfl (by kernel_rfl)) rfl ?_
 exact ⟨_,ye,yn,yhb⟩
def coder_RightEnc.f (ac : Int) (ae : Int) (aa : List Int) : Option (Bool):=if ac≤4294967295 then (if ae ≥ 16777216 then (some (decide ((aa.length : Int)≤4000))) else (some false)) else (some false)
set_option maxHeartbeats 8000000 in
set_option maxRecDepth 100000 in
theorem coder_RightEnc.calls (ac : Int) (ae : Int) (ag : Option Addr) (ah : Nat) (aa : List Int) (r : Bool) (w : World) (hr0_2 : Kd.C (Kd.int .u8) w ag aa.length aa) (hc0_2 : aa.length≤ah) (h : coder_RightEnc.f ac ae aa=some r) :
  Calls Try.prog 91 #[.agg #[.int .u64 ac, .int .u32 ae, .slice ag aa.length ah]] w fun e w' => e=.returned (.bool r)∧Below w.heap.size w w' := by
 have hu54:=Try.underlying54;have ao:=zm hr0_2;have ap:=zm hc0_2;clear hr0_2 hc0_2;have HB:=zm (Below.refl w.heap.size w);have H:=h
 unfold coder_RightEnc.f at H
 clear h
 by_cases c2 : ac≤4294967295
 ·
  rw [if_pos c2] at H
  have al:=yD c2
  clear c2
  by_cases c3 : ae ≥ 16777216
  ·
   rw [if_pos c3] at H
   have am:=yDl c3
   clear c3
   obtain rfl:=Option.some.inj H
   go_enter Try.func91,Try.ntmps91
   go_wp2_with (first|((with_reducible refine gate_dst (N:=1) rfl ?_);(try (refine gate_guard (by rfl) ?_;dsimp only));refine ybx 1 #[.int .u64 ac, .int .u32 ae, .slice ag aa.length ah] 54 ?_;intro ai hg w4 hbox hb;have af:=zm (hbox);have aj:=ygw hg;have ak:=ygw hg;replace HB:=ybs hb;clear hb hbox hg;obtain ⟨_,_,_,_,_,_⟩:=yc3 af))
   go_ret
   exact ⟨ye,yhb⟩
  rw [if_neg c3] at H
  have am:=yGl c3
  clear c3
  obtain rfl:=Option.some.inj H
  go_enter Try.func91,Try.ntmps91
  go_wp2_with (first|((with_reducible refine gate_dst (N:=1) rfl ?_);(try (refine gate_guard (by rfl) ?_;dsimp only));refine ybx 1 #[.int .u64 ac, .int .u32 ae, .slice ag aa.length ah] 54 ?_;intro ai hg w6 hbox hb;have af:=zm (hbox);have aj:=ygw hg;have ak:=ygw hg;replace HB:=ybs hb;clear hb hbox hg;obtain ⟨_,_,_,_,_,_⟩:=yc3 af))
  go_ret
  exact ⟨ye,yhb⟩
 rw [if_neg c2] at H
 have al:=yG c2
 clear c2
 obtain rfl:=Option.some.inj H
 go_enter Try.func91,Try.ntmps91
 go_wp2_with (first|((with_reducible refine gate_dst (N:=1) rfl ?_);(try (refine gate_guard (by rfl) ?_;dsimp only));refine ybx 1 #[.int .u64 ac, .int .u32 ae, .slice ag aa.length ah] 54 ?_;intro ai hg w8 hbox hb;have af:=zm (hbox);have aj:=ygw hg;have ak:=ygw hg;replace HB:=ybs hb;clear hb hbox hg;obtain ⟨_,_,_,_,_,_⟩:=yc3 af))
 go_ret
 exact ⟨ye,yhb⟩
def coder_own.f (af : Int) (ag : Int) (ae : List Int) : Option (Int × Int × List Int):=(coder_RightEnc.f af ag ae).bind fun aD=>(if aD=true then ((some (([] : List Int) : List Int)).bind fun aj=>(if aj.length+ae.length < 140737488355328 then (some (af,ag,(aj ++ ae))) else (none))) else ((coder_New.f).bind fun ao=>(some (ao.1,ao.2.1,ao.2.2))))
set_option maxHeartbeats 8000000 in
set_option maxRecDepth 100000 in
theorem coder_own.calls (af : Int) (ag : Int) (al : Option Addr) (am : Nat) (ae : List Int) (r1 : Int) (r2 : Int) (r3 : List Int) (w : World) (hr0_2 : Kd.C (Kd.int .u8) w al ae.length ae) (hc0_2 : ae.length≤am) (h : coder_own.f af ag ae=some (r1,r2,r3)) :
  Calls Try.prog 63 #[.agg #[.int .u64 af, .int .u32 ag, .slice al ae.length am]] w fun e w' => ∃ v2_ : Value,e=.returned (.agg #[.int .u64 r1, .int .u32 r2,v2_])∧Kd.R (Kd.int .u8) 5 w' w.heap.size (fun _=>True) v2_ r3∧Below w.heap.size w w' := by
 have hu54:=Try.underlying54;have ap:=zm hr0_2;have ay:=zm hc0_2;clear hr0_2 hc0_2;have HB:=zm (Below.refl w.heap.size w);have H:=h
 unfold coder_own.f at H
 clear h
 obtain ⟨aD,A2,H⟩:=ybi H
 by_cases c3 : aD=true
 ·
  subst c3
  rw [if_pos rfl] at H
  obtain ⟨aj,aq⟩ : ∃ y_ : List Int,y_=(([] : List Int)):=⟨_,rfl⟩
  replace H : (if aj.length+ae.length < 140737488355328 then (some (af,ag,(aj ++ ae))) else (none))=some (r1,r2,r3):=yrw aq H
  have az:=zm aq;clear aq
  obtain ⟨c4,H⟩:=yif H
  have LMc4:=zm c4;clear c4
  obtain ⟨aE,au⟩ : ∃ y_ : List Int,y_=(aj ++ ae):=⟨_,rfl⟩
  replace H : (some (af,ag,aE))=some (r1,r2,r3):=yrw au H
  have aG:=zm au;clear au
  simp only [Option.some.injEq,Prod.mk.injEq] at H
  obtain ⟨rfl,rfl,rfl⟩:=H
  go_enter Try.func63,Try.ntmps63
  go_wp2_with (first|((with_reducible refine gate_dst (N:=1) rfl ?_);refine ybx 1 #[.int .u64 af, .int .u32 ag, .slice al ae.length am] 54 ?_;intro aH hg w5 hbox hb;have aa:=zm (hbox);have aI:=ygw hg;have aJ:=ygw hg;replace HB:=ybs hb;clear hb hbox hg)|((with_reducible refine gate_dst (N:=2) rfl ?_);refine ybx 2 #[.int .u64 0, .int .u32 0, .slice none 0 0] 54 ?_;intro av hg w6 hbox hb;have ac:=zm (hbox);have aK:=ygw hg;have aM:=ygw hg;replace HB:=ybs hb;have ah:=ynl aa hg;have ai:=yng aa hg;replace aa:=ybb aa hb;clear hb hbox hg;have:=ah.out;have:=ai.out;obtain ⟨_,_,_,_,_,_⟩:=yc3 aa)|((with_reducible refine gate_callee (f:=91) rfl ?_);refine ygl 4 Try.func91 #[.agg #[.int .u64 af, .int .u32 ag, .slice al ae.length am]] ?_;(with_reducible refine (coder_RightEnc.calls af ag _ _ ae true _ ?aw ay.out A2.out).mono ?_);(case aw=>exact ycb ap);rintro e w9 ⟨rfl,hb⟩;refine ⟨_,rfl, ?_⟩;replace aa:=ybb aa hb;replace ac:=ybb ac hb;replace HB:=ybs hb;(try clear hb))|((with_reducible refine gate_dst (N:=7) rfl ?_);refine Kd.R_lit (Kd.int .u8) _ 5 ?hg (N:=7) ?hd (xs:=([] : List Int)) (inner := []) (ok:=fun _=>True) (okp:=fun _=>True) ?hr ?hp (fun _ hk=>hk) trivial (Below.refl _ _) (Nat.le_refl _) (by simp) ?_;(case hd=>rfl);(case hg=>rfl);(case hr=>first|(go_simp;done)|(go_simp;rfl));(case hp=>exact (Reps.none _ _));intro aU w10 ax hb hg_ hnew_;clear hg_ hnew_;(first|rw [← az.out] at ax|(simp only [Int.reduceToNat] at ax;rw [← az.out] at ax));have ak:=zm (Kd.R_lower ax (zE yhb));replace aa:=ybb aa hb;replace ac:=ybb ac hb;replace HB:=ybs hb;clear hb ax;obtain ⟨_,_,_,_,_,_⟩:=yc3 aa)|((with_reducible refine gate_builtin (b:=.append) (xs := #[.tmp 7, .tmp 9]) rfl ?_);at_builtin;refine Kd.R_append_rows (Kd.int .u8) (w0:=w) w.heap.size rfl (.tmp 7) (.tmp 9) 28 5 (.int .u8 0) 1 rfl Try.underlying28 info5 rfl (by decide) (by omega) aU aj ae _ _ _ (fun _=>True) (fun _=>False) rfl rfl ?aO ?aR (fun _ _ h=>h) (fun _ h=>h.elim) ?aF ?aB ?aS ?aL ?_;(case aR=>exact ycb ap);(case aB=>exact yhb);(case aF=>exact (fun _ _=>trivial));(case aO=>exact (yr ak));(case aS=>exact (zE yhb));(case aL=>have:=LMc4.out;omega);intro a8 w13 ho hb hg hat;rw [← aG.out] at ho;replace aa:=zm (blk_grown (yk aa) hg (zu ak.out aa.out (by decide)));replace ac:=zm (blk_grown (yk ac) hg (zu ak.out ac.out (by decide)));replace HB:=zm (hb);have aA:=zm (ho);clear ak;clear ho hb hg hat;obtain ⟨aV,aW,aX⟩:=Kd.R_slice aA.out;subst aX;obtain ⟨_,_,_,_,_,_⟩:=yc3 aa;obtain ⟨_,_,_,_,_,_⟩:=yc3 ac))
  refine bodyPost_ret (results_cell_row rfl _ _ av 54 #[.int .u64 af, .int .u32 ag, .slice aV aE.length aW] (0,0) _ rfl (ykp ac) Try.underlying54 rfl (by kernel_rfl)) rfl ?_
  exact ⟨_,ye,yR2 aA aa ac,yhb⟩
 replace c3:=Bool.eq_false_iff.mpr c3
 subst c3
 rw [ynf] at H
 obtain ⟨⟨aN,aQ,aT⟩,A17,H⟩:=ybi H
 try dsimp only at H
 simp only [Option.some.injEq,Prod.mk.injEq] at H
 obtain ⟨rfl,rfl,rfl⟩:=H
 go_enter Try.func63,Try.ntmps63
 go_wp2_with (first|((with_reducible refine gate_dst (N:=1) rfl ?_);refine ybx 1 #[.int .u64 af, .int .u32 ag, .slice al ae.length am] 54 ?_;intro aH hg w18 hbox hb;have aa:=zm (hbox);have aI:=ygw hg;have aJ:=ygw hg;replace HB:=ybs hb;clear hb hbox hg)|((with_reducible refine gate_dst (N:=2) rfl ?_);refine ybx 2 #[.int .u64 0, .int .u32 0, .slice none 0 0] 54 ?_;intro av hg w19 hbox hb;have ac:=zm (hbox);have aK:=ygw hg;have aM:=ygw hg;replace HB:=ybs hb;have ah:=ynl aa hg;have ai:=yng aa hg;replace aa:=ybb aa hb;clear hb hbox hg;have:=ah.out;have:=ai.out;obtain ⟨_,_,_,_,_,_⟩:=yc3 aa)|((with_reducible refine gate_callee (f:=91) rfl ?_);refine ygl 4 Try.func91 #[.agg #[.int .u64 af, .int .u32 ag, .slice al ae.length am]] ?_;(with_reducible refine (coder_RightEnc.calls af ag _ _ ae false _ ?aw ay.out A2.out).mono ?_);(case aw=>exact ycb ap);rintro e w22 ⟨rfl,hb⟩;refine ⟨_,rfl, ?_⟩;replace aa:=ybb aa hb;replace ac:=ybb ac hb;replace HB:=ybs hb;(try clear hb))|((with_reducible refine gate_callee (f:=27) rfl ?_);refine ygl 6 Try.func27 #[] ?_;(with_reducible refine (coder_New.calls  aN aQ aT _ A17.out).mono ?_);rintro e w23 ⟨a9,rfl,ho0,hb⟩;refine ⟨_,rfl, ?_⟩;have aC:=zm (Kd.R_lower ho0 (zE yhb));replace aa:=ybb aa hb;replace ac:=ybb ac hb;replace HB:=ybs hb;(try clear hb);(try clear ho0);obtain ⟨_,_,_,_,_,_⟩:=yc3 ac;obtain ⟨aY,aZ,a7⟩:=Kd.R_slice aC.out;subst a7))
 refine bodyPost_ret (results_cell_row rfl _ _ av 54 #[.int .u64 aN, .int .u32 aQ, .slice aY aT.length aZ] (0,0) _ rfl (ykp ac) Try.underlying54 rfl (by kernel_rfl)) rfl ?_
 exact ⟨_,ye,yR1 aC ac,yhb⟩
def coder_Finish.f (aj : Int) (ak : Int) (af : List Int) : Option (List Int):=(coder_own.f aj ak af).bind fun ag=>((some (([(ag.1 / 16777216) % 256,(ag.1 / 65536) % 256,(ag.1 / 256) % 256,(ag.1) % 256] : List Int) : List Int)).bind fun ah=>(if ag.2.2.length+ah.length < 140737488355328 then (some (ag.2.2 ++ ah)) else (none)))
set_option maxHeartbeats 8000000 in
set_option maxRecDepth 100000 in
theorem coder_Finish.calls (aj : Int) (ak : Int) (aq : Option Addr) (au : Nat) (af : List Int) (r : List Int) (w : World) (hr0_2 : Kd.C (Kd.int .u8) w aq af.length af) (hc0_2 : af.length≤au) (h : coder_Finish.f aj ak af=some r) :
  Calls Try.prog 35 #[.agg #[.int .u64 aj, .int .u32 ak, .slice aq af.length au]] w fun e w' => ∃ v0_ : Value,e=.returned (v0_)∧Kd.R (Kd.int .u8) 5 w' w.heap.size (fun _=>True) v0_ r∧Below w.heap.size w w' := by
 have hu54:=Try.underlying54;have aw:=zm hr0_2;have ax:=zm hc0_2;clear hr0_2 hc0_2;have HB:=zm (Below.refl w.heap.size w);have H:=h
 unfold coder_Finish.f at H
 clear h
 obtain ⟨⟨aa,ay,al⟩,A2,H⟩:=ybi H
 try dsimp only at H
 obtain ⟨ah,ao⟩ : ∃ y_ : List Int,y_=(([(aa / 16777216) % 256,(aa / 65536) % 256,(aa / 256) % 256,(aa) % 256] : List Int)):=⟨_,rfl⟩
 replace H : (if al.length+ah.length < 140737488355328 then (some (al ++ ah)) else (none))=some r:=yrw ao H
 have av:=zm ao;clear ao
 obtain ⟨c3,H⟩:=yif H
 have LMc3:=zm c3;clear c3
 obtain ⟨aE,ap⟩ : ∃ y_ : List Int,y_=(al ++ ah):=⟨_,rfl⟩
 replace H : (some aE)=some r:=yrw ap H
 have az:=zm ap;clear ap
 obtain rfl:=Option.some.inj H
 go_enter Try.func35,Try.ntmps35
 go_wp2_with (first|((with_reducible refine gate_dst (N:=1) rfl ?_);refine ybx 1 #[.int .u64 aj, .int .u32 ak, .slice aq af.length au] 54 ?_;intro aA hg w4 hbox hb;have ac:=zm (hbox);have aJ:=ygw hg;have aK:=ygw hg;replace HB:=ybs hb;clear hb hbox hg;obtain ⟨_,_,_,_,_,_⟩:=yc3 ac)|((with_reducible refine gate_callee (f:=63) rfl ?_);refine ygl 4 Try.func63 #[.agg #[.int .u64 aj, .int .u32 ak, .slice aq af.length au]] ?_;(with_reducible refine (coder_own.calls aj ak _ _ af aa ay al _ ?aC ax.out A2.out).mono ?_);(case aC=>exact ycb aw);rintro e w6 ⟨aM,rfl,ho0,hb⟩;refine ⟨_,rfl, ?_⟩;have ae:=zm (Kd.R_lower ho0 (zE yhb));replace ac:=ybb ac hb;replace HB:=ybs hb;(try clear hb);(try clear ho0);obtain ⟨_,_,_,_,_,_⟩:=yc3 ac;obtain ⟨Ao8,co8,eo8⟩:=Kd.R_slice ae.out;subst eo8)|((with_reducible refine gate_dst (N:=22) rfl ?_);refine Kd.R_lit (Kd.int .u8) _ 5 ?hg (N:=22) ?hd (xs:=([(aa / 16777216) % 256,(aa / 65536) % 256,(aa / 256) % 256,(aa) % 256] : List Int)) (inner := [.int .u8 ((aa / 16777216) % 256), .int .u8 ((aa / 65536) % 256), .int .u8 ((aa / 256) % 256), .int .u8 ((aa) % 256)]) (ok:=fun _=>True) (okp:=fun _=>True) ?hr ?hp (fun _ hk=>hk) trivial (Below.refl _ _) (Nat.le_refl _) (by simp) ?_;(case hd=>rfl);(case hg=>rfl);(case hr=>first|(go_simp;done)|(go_simp;rfl));(case hp=>exact (Reps.one (show Kd.M (Kd.int .u8) _ _ _ ((aa / 16777216) % 256) [.int .u8 ((aa / 16777216) % 256)] from rfl) (Reps.one (show Kd.M (Kd.int .u8) _ _ _ ((aa / 65536) % 256) [.int .u8 ((aa / 65536) % 256)] from rfl) (Reps.one (show Kd.M (Kd.int .u8) _ _ _ ((aa / 256) % 256) [.int .u8 ((aa / 256) % 256)] from rfl) (Reps.one (show Kd.M (Kd.int .u8) _ _ _ ((aa) % 256) [.int .u8 ((aa) % 256)] from rfl) (Reps.none _ _))))));intro aN w9 am hb hg_ hnew_;clear hg_ hnew_;(first|rw [← av.out] at am|(simp only [Int.reduceToNat] at am;rw [← av.out] at am));have ai:=zm (Kd.R_lower (Kd.R_new' am (Kd.R_lt (yR1 ae ac))) (zE yhb));replace ae:=zm (Kd.R_elder' (yR1 ae ac) (Kd.R_base am) hb);replace ac:=zm (zF (g:=aA) (o:=.cells #[.int .u64 aa, .int .u32 ay, .slice Ao8 al.length co8] 54 (0,0)) (ykp ac) hb);replace HB:=ybs hb;clear hb am;obtain ⟨aG,aH,aI⟩:=Kd.R_slice ai.out;subst aI)|((with_reducible refine gate_builtin (b:=.append) (xs := #[.tmp 6, .tmp 22]) rfl ?_);at_builtin;refine Kd.R_append_rows (Kd.int .u8) (w0:=w) w.heap.size rfl (.tmp 6) (.tmp 22) 28 5 (.int .u8 0) 1 rfl Try.underlying28 info5 rfl (by decide) (by omega) (.slice Ao8 al.length co8) al ah _ _ _ (fun k_=>some k_≠(.slice aG ah.length aH : Value).ownBlock) (fun _=>False) rfl rfl ?aO ?aR (fun _ _ h=>h) (fun _ h=>h.elim) ?aF ?aB ?aS ?aL ?_;(case aR=>exact yce (Kd.R_reads' ai.out).2.2);(case aB=>exact yhb);(case aF=>exact (fun k_ hk=>Kd.fresh' (Kd.R_lt (yr ai)) k_ hk));(case aO=>exact (yR0 ae));(case aS=>exact (zE yhb));(case aL=>have:=LMc3.out;omega);intro aQ w11 ho hb hg hat;rw [← az.out] at ho;replace ac:=zm (blk_grown (yk ac) hg (zu ae.out ac.out (by decide)));replace ai:=zm (Kd.R_after (ok:=(fun _=>True)) (yr ai) hg hat);replace HB:=zm (hb);have aD:=zm (ho);clear ae;clear ho hb hg hat))
 go_ret
 exact ⟨_,ye,yR0 aD,yhb⟩
def coder_carry.l0 : Nat→List Int→Int→Option (List Int)
 | 0,_,_=>none
 | k+1,x0,x2=>if x2 ≥ 0 then (if 0≤x2 then (if x2 < (x0.length : Int) then ((some (x0.set (x2 : Int).toNat (((rd x0 x2)+1) % 256) : List Int)).bind fun ag=>(if (rd ag x2)=0 then (coder_carry.l0 k ag (wrap64 (x2 - 1))) else (some ag))) else (none)) else (none)) else (some x0)
def coder_carry.f (k : Nat) (l0 : List Int) : Option (List Int):=coder_carry.l0 k l0 (wrap64 ((l0.length : Int) - 1))
theorem coder_carry.mono_l : ∀ k,(∀ y0 y1,LeO (coder_carry.l0 k y0 y1) (coder_carry.l0 (k+1) y0 y1))
 | 0=>fun _ _ r h=>by simp [coder_carry.l0] at h
 | k+1=>by
  have ih0:=coder_carry.mono_l k
  ·
   intro y0 y1
   unfold coder_carry.l0
   repeat' with_reducible first|apply ih0|apply yLr|apply yLn|apply yLi|apply yLb|intro _
theorem coder_carry.mono : ∀ a0 k,LeO (coder_carry.f k a0) (coder_carry.f (k+1) a0):=by
 intro a0 k
 have ih0:=coder_carry.mono_l k
 unfold coder_carry.f
 repeat' with_reducible first|apply ih0|apply yLr|apply yLn|apply yLi|apply yLb|intro _
set_option maxHeartbeats 8000000 in
set_option maxRecDepth 100000 in
theorem coder_carry.calls (k : Nat) (P0_ : Nat→Prop) (ai : Value) (l0 : List Int) (r : List Int) (w0 w : World) (hB : Below w0.heap.size w0 w) (ho0 : Kd.R (Kd.int .u8) 5 w w0.heap.size P0_ ai l0) (h : coder_carry.f k l0=some r) :
  Calls Try.prog 66 #[ai] w fun e w' => e=.returned (.tuple #[])∧Kd.R (Kd.int .u8) 5 w' w0.heap.size (fun k_=>(P0_ k_∨w.heap.size≤k_)) ai r∧Below w0.heap.size w0 w'∧Kept w w' (fun k_=>P0_ k_):=by
 have HO0:=zm (show Kd.R (Kd.int .u8) 5 w w0.heap.size (fun k_=>(P0_ k_∨w.heap.size≤k_)) ai l0 from zG ho0 (fun k_ hk=>(.inl hk)))
 have HK:=zm (Kept.refl w (fun k_=>P0_ k_))
 have HW0:=zm hB.size;have HB:=zm hB;clear hB;have H:=h
 unfold coder_carry.f at H
 clear h
 have H' := zm H
 clear H
 obtain ⟨Ao2,co2,eo2⟩:=Kd.R_slice HO0.out
 subst eo2
 go_enter Try.func66,Try.ntmps66
 go_wp2
 go_step3
 go_wp2
 go_step3
 go_wp2
 go_loopg [2] k (fun kq v2 w' => ∃ (ae : List Int) (aa : Int),v2=.int .i64 aa∧Aside0 (coder_carry.l0 kq ae aa=some r)∧Aside0 (kq≤k)∧Aside0 (Kd.R (Kd.int .u8) 5 w' w0.heap.size (fun k_=>(P0_ k_∨w.heap.size≤k_)) (.slice Ao2 l0.length co2) ae)∧Aside0 (Kept w w' (fun k_=>P0_ k_))∧Aside0 (Below w0.heap.size w0 w'))
 case atStart=>exact ⟨(l0),(wrap64 ((l0.length : Int) - 1)),yq,H',⟨Nat.le_refl _⟩,⟨yr HO0⟩,⟨by repeat (first|(with_reducible first|exact HK.out|apply Kept.alloc|apply Kept.drewN|apply Kept.drew)|exact HK.out)⟩,⟨yhb⟩⟩
 case round =>
  clear H'
  obtain ⟨ae,aa,rfl,HA,HK1,ac,HK,HB⟩:=hrel
  have ah:=(Kd.R_reads' ac.out).1
  rw [ah] at ac
  (try simp only [ah])
  obtain ⟨k1,rfl⟩:=ysu gk (fun h=>by subst h;exact absurd HA.out (by simp [coder_carry.l0]))
  have H:=HA.out;clear HA
  simp only [coder_carry.l0] at H
  by_cases c3 : aa ≥ 0
  ·
   rw [if_pos c3] at H
   have aC:=yDl c3
   clear c3
   obtain ⟨c4,H⟩:=yif H
   have aG : decide (0≤aa)=true:=decide_eq_true c4
   clear c4
   obtain ⟨c5,H⟩:=yif H
   have aH : decide (aa < (ae.length : Int))=true:=decide_eq_true c5
   clear c5
   obtain ⟨ag,aq⟩ : ∃ y_ : List Int,y_=(ae.set (aa : Int).toNat (((rd ae aa)+1) % 256)):=⟨_,rfl⟩
   replace H : (if (rd ag aa)=0 then (coder_carry.l0 k1 ag (wrap64 (aa - 1))) else (some ag))=some r:=yrw aq H
   have ap:=zm aq;clear aq
   by_cases c7 : (rd ag aa)=0
   ·
    rw [if_pos c7] at H
    obtain ⟨aD,aE⟩:=yE c7
    clear c7
    have H' := zm H
    clear H
    have ak : 0≤(aa : Int):=yt
    have al : aa < (ae.length : Int):=yt
    obtain ⟨ay,av,aj⟩:=Kd.at_int (Kd.R_reads' ac.out).2.2 aa ak al
    cases av
    replace ak:=eq_true ak
    replace al:=eq_true al
    have p6 : 0≤(aa : Int):=yt
    have q6 : (aa : Int) < ((ae.length : Int) : Int):=yt
    obtain ⟨go6,co6,eo6,gb6,gl6,cl6,HG6⟩:=Kd.R_form ac.out (by omega)
    (first|cases eo6|(injection eo6 with ea_ en_ ec_;(first|subst ea_|(injection ea_ with ea_;subst ea_));subst ec_;clear en_))
    have GB6:=zm gb6;have GG6:=zm HG6;clear gb6 gl6 HG6
    have HMgo6:=zm (show (P0_ go6∨w.heap.size≤go6) from (ac.out.1 _ rfl))
    (first|simp only [add_plain] at aj|skip)
    obtain ⟨az,aA⟩:=Kd.R_celln 0 ac.out (aa : Int) p6 q6
    replace p6:=eq_true p6
    replace q6:=eq_true q6
    have HP8:=Kd.R_putg ac.out (aa : Int) (((rd ae aa)+1) % 256)
    go_wp2_with (first|((with_reducible refine gate_store (t:=5) (p:=15) rfl ?_);refine store_event (t:=5) (p:=15) (v := ?vo_w9) (w1:=(wr.setCell ⟨go6,(aa : Int).toNat,none⟩ (.int .u8 (((rd ae aa)+1) % 256)))) ?hg ?ho ?hn ?hr ?_;(case ho=>rfl);(case hg=>rfl);(case hn=>rfl);(case hr=>first|(go_simp;done)|(go_simp;rfl));intro w9 hw;have hg : wr.grownBy w9 (some go6):=(by rw [hw];exact HP8.2);have hp_ : Kd.R (Kd.int .u8) 5 w9 w0.heap.size (fun k_=>(P0_ k_∨w.heap.size≤k_)) (.slice (some ⟨go6,0,none⟩) ae.length co2) ag:=(by rw [hw,ap.out];exact HP8.1);clear HP8;replace HB:=zm ((by rw [hw];exact zk (HB.out) GB6.out : Below w0.heap.size w0 w9));replace HK:=zm (Kept.of_grown (S:=(fun k_=>P0_ k_)) hg (by repeat (first|(with_reducible first|exact HK.out|apply Kept.alloc|apply Kept.drewN|apply Kept.drew)|exact HK.out)) (fun k_ e_=>(ac.out.1 k_ e_)));replace ac:=zm (hp_);clear hg hw hp_;have am : 0≤(aa : Int):=yt;have ao : aa < (ag.length : Int):=(by have h_ : (aa : Int) < ((ae.length : Int) : Int):=yt;first|(have e_:=(Kd.R_reads' ac.out).1;omega)|simpa only [ap.out,List.length_set] using h_);have ql202 : ((aa : Int) < ((ae.length : Int) : Int))=True:=eq_true (yt);obtain ⟨au,aw,af⟩:=Kd.at_int (Kd.R_reads' ac.out).2.2 aa am ao;obtain rfl : (⟨go6,0,none⟩ : Addr)=au:=(by injection aw);(first|simp only [add_plain] at af|simp only [add_at] at af|simp only [Addr.add,Nat.zero_add] at af|skip);replace am:=eq_true am;replace ao:=eq_true ao))
    (try simp only [← ah])
    go_roundg k1
    case measure=>exact yom1 HK1
    case rel=>exact ⟨(ag),(wrap64 (aa - 1)),yq,H',⟨yom1 HK1⟩,⟨by (try simp only [ah]);(with_reducible repeat (first|apply zo|apply zp|apply zq));exact ac.out⟩,⟨by repeat (first|(with_reducible first|exact HK.out|apply Kept.alloc|apply Kept.drewN|apply Kept.drew)|exact HK.out)⟩,⟨yhb⟩⟩
   rw [if_neg c7] at H
   obtain ⟨aD,aE⟩:=yF c7
   obtain rfl:=Option.some.inj H
   have ak : 0≤(aa : Int):=yt
   have al : aa < (ae.length : Int):=yt
   obtain ⟨ay,av,aj⟩:=Kd.at_int (Kd.R_reads' ac.out).2.2 aa ak al
   cases av
   replace ak:=eq_true ak
   replace al:=eq_true al
   have p6 : 0≤(aa : Int):=yt
   have q6 : (aa : Int) < ((ae.length : Int) : Int):=yt
   obtain ⟨go6,co6,eo6,gb6,gl6,cl6,HG6⟩:=Kd.R_form ac.out (by omega)
   (first|cases eo6|(injection eo6 with ea_ en_ ec_;(first|subst ea_|(injection ea_ with ea_;subst ea_));subst ec_;clear en_))
   have GB6:=zm gb6;have GG6:=zm HG6;clear gb6 gl6 HG6
   have HMgo6:=zm (show (P0_ go6∨w.heap.size≤go6) from (ac.out.1 _ rfl))
   (first|simp only [add_plain] at aj|skip)
   obtain ⟨az,aA⟩:=Kd.R_celln 0 ac.out (aa : Int) p6 q6
   replace p6:=eq_true p6
   replace q6:=eq_true q6
   have ax:=Kd.R_putg ac.out (aa : Int) (((rd ae aa)+1) % 256)
   go_wp2_with (first|((with_reducible refine gate_store (t:=5) (p:=15) rfl ?_);refine store_event (t:=5) (p:=15) (v := ?vo_w11) (w1:=(wr.setCell ⟨go6,(aa : Int).toNat,none⟩ (.int .u8 (((rd ae aa)+1) % 256)))) ?hg ?ho ?hn ?hr ?_;(case ho=>rfl);(case hg=>rfl);(case hn=>rfl);(case hr=>first|(go_simp;done)|(go_simp;rfl));intro w11 hw;have hg : wr.grownBy w11 (some go6):=(by rw [hw];exact ax.2);have hp_ : Kd.R (Kd.int .u8) 5 w11 w0.heap.size (fun k_=>(P0_ k_∨w.heap.size≤k_)) (.slice (some ⟨go6,0,none⟩) ae.length co2) ag:=(by rw [hw,ap.out];exact ax.1);clear ax;replace HB:=zm ((by rw [hw];exact zk (HB.out) GB6.out : Below w0.heap.size w0 w11));replace HK:=zm (Kept.of_grown (S:=(fun k_=>P0_ k_)) hg (by repeat (first|(with_reducible first|exact HK.out|apply Kept.alloc|apply Kept.drewN|apply Kept.drew)|exact HK.out)) (fun k_ e_=>(ac.out.1 k_ e_)));replace ac:=zm (hp_);clear hg hw hp_;have am : 0≤(aa : Int):=yt;have ao : aa < (ag.length : Int):=(by have h_ : (aa : Int) < ((ae.length : Int) : Int):=yt;first|(have e_:=(Kd.R_reads' ac.out).1;omega)|simpa only [ap.out,List.length_set] using h_);have ql202 : ((aa : Int) < ((ae.length : Int) : Int))=True:=eq_true (yt);obtain ⟨au,aw,af⟩:=Kd.at_int (Kd.R_reads' ac.out).2.2 aa am ao;obtain rfl : (⟨go6,0,none⟩ : Addr)=au:=(by injection aw);(first|simp only [add_plain] at af|simp only [add_at] at af|simp only [Addr.add,Nat.zero_add] at af|skip);replace am:=eq_true am;replace ao:=eq_true ao))
   first|go_end0|((try simp only [Exit.inBlock,Exit.then]);refine bodyPost_ret (results_none rfl _ _ _) rfl ?_)
   exact ⟨ye,(by first|exact (yr ac)|(simp only [ah];exact (yr ac))),yhb,by repeat (first|(with_reducible first|exact HK.out|apply Kept.alloc|apply Kept.drewN|apply Kept.drew)|exact HK.out)⟩
  rw [if_neg c3] at H
  have aC:=yGl c3
  clear c3
  obtain rfl:=Option.some.inj H
  go_wp2
  first|go_end0|((try simp only [Exit.inBlock,Exit.then]);refine bodyPost_ret (results_none rfl _ _ _) rfl ?_)
  exact ⟨ye,(by first|exact (yr ac)|(simp only [ah];exact (yr ac))),yhb,by repeat (first|(with_reducible first|exact HK.out|apply Kept.alloc|apply Kept.drewN|apply Kept.drew)|exact HK.out)⟩
mutual
def coder_Put.j0 : Nat→Int→Int→Int→List Int→Option (Int × Int × List Int × Int)
 | 0,_,_,_,_=>none
 | k+1,x10,ay,aI,az=>coder_Put.l0 k x10 ay aI az
def coder_Put.l0 : Nat→Int→Int→Int→List Int→Option (Int × Int × List Int × Int)
 | 0,_,_,_,_=>none
 | k+1,x10,ay,aI,az=>if x10 < 16777216 then (if az.length < 140737488355328 then (coder_Put.l0 k ((x10 * 256) % 4294967296) (Go.bits .and .u64 (IntKind.u64.wrap (ay * 256)) 4294967295) aI (az ++ [(ay / 16777216) % 256])) else (none)) else (some (ay,x10,az,0))
end
def coder_Put.f (k : Nat) (aA : Int) (aC : Int) (ax : List Int) (a1 : Int) (a2 : Int) (a3 : Int) : Option (Int × Int × List Int × Int):=(coder_own.f aA aC ax).bind fun ao=>((coder_fair.f a1 a2 a3).bind fun b7=>(if b7=true then (if (ao.2.2.length : Int) ≥ 3996 then (some (ao.1,ao.2.1,ao.2.2,3)) else ((coder_part.f ao.2.1 a1 a2 a3).bind fun aJ=>(if (IntKind.u64.wrap (ao.1+aJ.2)) > 4294967295 then ((coder_carry.f k ao.2.2).bind fun aW=>(coder_Put.j0 k aJ.1 (Go.bits .and .u64 (IntKind.u64.wrap (ao.1+aJ.2)) 4294967295) ao.2.1 aW)) else (coder_Put.j0 k aJ.1 (IntKind.u64.wrap (ao.1+aJ.2)) ao.2.1 ao.2.2)))) else (some (ao.1,ao.2.1,ao.2.2,1))))
theorem coder_Put.mono_l : ∀ k,(∀ y0 y1 y2 y3,LeO (coder_Put.j0 k y0 y1 y2 y3) (coder_Put.j0 (k+1) y0 y1 y2 y3))∧(∀ y0 y1 y2 y3,LeO (coder_Put.l0 k y0 y1 y2 y3) (coder_Put.l0 (k+1) y0 y1 y2 y3))
 | 0=>⟨fun _ _ _ _ r h=>by simp [coder_Put.j0] at h,fun _ _ _ _ r h=>by simp [coder_Put.l0] at h⟩
 | k+1=>by
  obtain ⟨ih0,ih1⟩:=coder_Put.mono_l k
  refine ⟨?_, ?_⟩
  ·
   intro y0 y1 y2 y3
   unfold coder_Put.j0
   repeat' with_reducible first|apply ih0|apply ih1|apply coder_carry.mono|apply yLr|apply yLn|apply yLi|apply yLb|intro _
  intro y0 y1 y2 y3
  unfold coder_Put.l0
  repeat' with_reducible first|apply ih0|apply ih1|apply coder_carry.mono|apply yLr|apply yLn|apply yLi|apply yLb|intro _
theorem coder_Put.mono : ∀ a0 a1 a2 a3 a4 a5 k,LeO (coder_Put.f k a0 a1 a2 a3 a4 a5) (coder_Put.f (k+1) a0 a1 a2 a3 a4 a5):=by
 intro a0 a1 a2 a3 a4 a5 k
 obtain ⟨ih0,ih1⟩:=coder_Put.mono_l k
 unfold coder_Put.f
 repeat' with_reducible first|apply ih0|apply ih1|apply coder_carry.mono|apply yLr|apply yLn|apply yLi|apply yLb|intro _
set_option maxHeartbeats 8000000 in
set_option maxRecDepth 100000 in
theorem coder_Put.calls (k : Nat) (aA : Int) (aC : Int) (aK : Option Addr) (aM : Nat) (ax : List Int) (a1 : Int) (a2 : Int) (a3 : Int) (r1 : Int) (r2 : Int) (r3 : List Int) (r4 : Int) (w : World) (hr0_2 : Kd.C (Kd.int .u8) w aK ax.length ax) (hc0_2 : ax.length≤aM) (h : coder_Put.f k aA aC ax a1 a2 a3=some (r1,r2,r3,r4)) :
  Calls Try.prog 26 #[.agg #[.int .u64 aA, .int .u32 aC, .slice aK ax.length aM], .int .i64 a1, .int .i64 a2, .int .i64 a3] w fun e w' => ∃ v2_ : Value,e=.returned (.tuple #[.agg #[.int .u64 r1, .int .u32 r2,v2_], .int .i64 r4])∧Kd.R (Kd.int .u8) 5 w' w.heap.size (fun _=>True) v2_ r3∧Below w.heap.size w w' := by
 have hu54:=Try.underlying54;have aT:=zm hr0_2;have aU:=zm hc0_2;clear hr0_2 hc0_2;have HB:=zm (Below.refl w.heap.size w);have H:=h
 unfold coder_Put.f at H
 clear h
 obtain ⟨⟨av,ap,aj⟩,A5,H⟩:=ybi H
 try dsimp only at H
 obtain ⟨b7,A6,H⟩:=ybi H
 by_cases c7 : b7=true
 ·
  subst c7
  rw [if_pos rfl] at H
  by_cases c8 : (aj.length : Int) ≥ 3996
  ·
   rw [if_pos c8] at H
   have cb:=yDl c8
   have ce : decide (3996≤aj.length)=true:=decide_eq_true (by omega)
   clear c8
   simp only [Option.some.injEq,Prod.mk.injEq] at H
   obtain ⟨rfl,rfl,rfl,rfl⟩:=H
   go_enter Try.func26,Try.ntmps26
   go_wp2_with (first|((with_reducible refine gate_dst (N:=4) rfl ?_);refine ybx 4 #[.int .u64 aA, .int .u32 aC, .slice aK ax.length aM] 54 ?_;intro ak hg w9 hbox hb;have aa:=zm (hbox);have bY:=ygw hg;have bZ:=ygw hg;replace HB:=ybs hb;clear hb hbox hg)|((with_reducible refine gate_dst (N:=8) rfl ?_);refine ybx 8 #[.int .u64 0, .int .u32 0, .slice none 0 0] 54 ?_;intro aw hg w10 hbox hb;have ac:=zm (hbox);have b4:=ygw hg;have b5:=ygw hg;replace HB:=ybs hb;have ag:=ynl aa hg;have ah:=yng aa hg;replace aa:=ybb aa hb;clear hb hbox hg;have:=ag.out;have:=ah.out;obtain ⟨aX,aY,aZ,a7,a8,a9⟩:=yc3 aa)|((with_reducible refine gate_callee (f:=63) rfl ?_);refine ygl 13 Try.func63 #[.agg #[.int .u64 aA, .int .u32 aC, .slice aK ax.length aM]] ?_;(with_reducible refine (coder_own.calls aA aC _ _ ax av ap aj _ ?aD aU.out A5.out).mono ?_);(case aD=>exact ycb aT);rintro e w13 ⟨cf,rfl,ho0,hb⟩;refine ⟨_,rfl, ?_⟩;have ae:=zm (Kd.R_lower ho0 (zE yhb));replace aa:=ybb aa hb;replace ac:=ybb ac hb;replace HB:=ybs hb;(try clear hb);(try clear ho0);obtain ⟨ba,bb,bc,bd,bf,bg⟩:=yc3 aa;obtain ⟨bh,bi,cl⟩:=Kd.R_slice ae.out;subst cl)|((with_reducible refine gate_store (t:=54) (p:=4) rfl ?_);refine store_event (t:=54) (p:=4) (v := ?vo_w16) (w1:=(((w13.setCell ⟨ak,0,none⟩ (.int .u64 av)).setCell ⟨ak,1,none⟩ (.int .u32 ap)).setCell ⟨ak,2,none⟩ (.slice bh aj.length bi))) ?hg ?ho ?hn ?hr ?_;(case ho=>rfl);(case hg=>rfl);(case hn=>rfl);(case hr=>first|(go_simp;done)|(go_simp;rfl));intro w16 hw;replace ae : Aside0 (Kd.R (Kd.int .u8) 5 w16 w.heap.size (fun _=>True) (.slice bh aj.length bi) aj):=⟨(by rw [hw];exact (yR1 ae aa))⟩;replace aa : Aside0 (w16.heap[ak]? = some (.cells #[.int .u64 av, .int .u32 ap, .slice bh aj.length bi] 54 (0,0))):=⟨(by rw [hw];exact (ykp aa))⟩;replace ac : Aside0 (w16.heap[aw]? = some (.cells #[.int .u64 0, .int .u32 0, .slice none 0 0] 54 (0,0))):=⟨(by rw [hw];exact (yk ac))⟩;replace HB : Aside0 (Below w.heap.size w w16):=⟨(by rw [hw];exact yhb)⟩;clear hw)|((with_reducible refine gate_callee (f:=64) rfl ?_);refine ygl 17 Try.func64 #[.int .i64 a1, .int .i64 a2, .int .i64 a3] ?_;(with_reducible refine (coder_fair.calls a1 a2 a3 true _ A6.out).mono ?_);rintro e w' ⟨rfl,⟨nd,rfl⟩⟩;refine ⟨_,rfl, ?_⟩;(try (rw [drewN_self w16];generalize hq_ : World.drewN w16 _=w16;replace ae:=yRq hq_ ae;replace aa:=ykq hq_ aa;replace ac:=ykq hq_ ac;replace HB:=ysq hq_;clear hq_));obtain ⟨bj,bk,bl,bm,bn,bo⟩:=yc3 aa;obtain ⟨bp,bq,br,bs,bv,bw⟩:=yc3 ac))
   refine bodyPost_ret (results_ct rfl _ _ aw 54 #[.int .u64 av, .int .u32 ap, .slice bh aj.length bi] (0,0) _ rfl (ykp ac) Try.underlying54 rfl (by kernel_rfl)) rfl ?_
   exact ⟨_,ye,yR1 ae ac,yhb⟩
  rw [if_neg c8] at H
  have cb:=yGl c8
  have ce : decide (3996≤aj.length)=false:=decide_eq_false (by omega)
  clear c8
  obtain ⟨⟨b8,aQ⟩,A19,H⟩:=ybi H
  try dsimp only at H
  have b9:=zm H;clear H
  go_enter Try.func26,Try.ntmps26
  go_upto_if 41 with (first|((with_reducible refine gate_dst (N:=4) rfl ?_);refine ybx 4 #[.int .u64 aA, .int .u32 aC, .slice aK ax.length aM] 54 ?_;intro ak hg w21 hbox hb;have aa:=zm (hbox);have bY:=ygw hg;have bZ:=ygw hg;replace HB:=ybs hb;clear hb hbox hg)|((with_reducible refine gate_dst (N:=8) rfl ?_);refine ybx 8 #[.int .u64 0, .int .u32 0, .slice none 0 0] 54 ?_;intro aw hg w22 hbox hb;have ac:=zm (hbox);have b4:=ygw hg;have b5:=ygw hg;replace HB:=ybs hb;have ag:=ynl aa hg;have ah:=yng aa hg;replace aa:=ybb aa hb;clear hb hbox hg;have:=ag.out;have:=ah.out;obtain ⟨bx,bz,bA,bB,bC,bD⟩:=yc3 aa)|((with_reducible refine gate_callee (f:=63) rfl ?_);refine ygl 13 Try.func63 #[.agg #[.int .u64 aA, .int .u32 aC, .slice aK ax.length aM]] ?_;(with_reducible refine (coder_own.calls aA aC _ _ ax av ap aj _ ?aD aU.out A5.out).mono ?_);(case aD=>exact ycb aT);rintro e w25 ⟨cf,rfl,ho0,hb⟩;refine ⟨_,rfl, ?_⟩;have ae:=zm (Kd.R_lower ho0 (zE yhb));replace aa:=ybb aa hb;replace ac:=ybb ac hb;replace HB:=ybs hb;(try clear hb);(try clear ho0);obtain ⟨bE,bF,bG,bH,bI,bJ⟩:=yc3 aa;obtain ⟨aG,aH,cm⟩:=Kd.R_slice ae.out;subst cm)|((with_reducible refine gate_store (t:=54) (p:=4) rfl ?_);refine store_event (t:=54) (p:=4) (v := ?vo_w28) (w1:=(((w25.setCell ⟨ak,0,none⟩ (.int .u64 av)).setCell ⟨ak,1,none⟩ (.int .u32 ap)).setCell ⟨ak,2,none⟩ (.slice aG aj.length aH))) ?hg ?ho ?hn ?hr ?_;(case ho=>rfl);(case hg=>rfl);(case hn=>rfl);(case hr=>first|(go_simp;done)|(go_simp;rfl));intro w28 hw;replace ae : Aside0 (Kd.R (Kd.int .u8) 5 w28 w.heap.size (fun _=>True) (.slice aG aj.length aH) aj):=⟨(by rw [hw];exact (yR1 ae aa))⟩;replace aa : Aside0 (w28.heap[ak]? = some (.cells #[.int .u64 av, .int .u32 ap, .slice aG aj.length aH] 54 (0,0))):=⟨(by rw [hw];exact (ykp aa))⟩;replace ac : Aside0 (w28.heap[aw]? = some (.cells #[.int .u64 0, .int .u32 0, .slice none 0 0] 54 (0,0))):=⟨(by rw [hw];exact (yk ac))⟩;replace HB : Aside0 (Below w.heap.size w w28):=⟨(by rw [hw];exact yhb)⟩;clear hw)|((with_reducible refine gate_callee (f:=64) rfl ?_);refine ygl 17 Try.func64 #[.int .i64 a1, .int .i64 a2, .int .i64 a3] ?_;(with_reducible refine (coder_fair.calls a1 a2 a3 true _ A6.out).mono ?_);rintro e w' ⟨rfl,⟨nd,rfl⟩⟩;refine ⟨_,rfl, ?_⟩;(try (rw [drewN_self w28];generalize hq_ : World.drewN w28 _=w28;replace ae:=yRq hq_ ae;replace aa:=ykq hq_ aa;replace ac:=ykq hq_ ac;replace HB:=ysq hq_;clear hq_));obtain ⟨bK,bL,bM,bN,bO,bP⟩:=yc3 aa)|((with_reducible refine gate_callee (f:=65) rfl ?_);refine ygl 31 Try.func65 #[.int .u32 ap, .int .i64 a1, .int .i64 a2, .int .i64 a3] ?_;(with_reducible refine (coder_part.calls ap a1 a2 a3 b8 aQ _ A19.out).mono ?_);rintro e w' ⟨rfl,⟨nd,rfl⟩⟩;refine ⟨_,rfl, ?_⟩;(try (rw [drewN_self w28];generalize hq_ : World.drewN w28 _=w28;replace ae:=yRq hq_ ae;replace aa:=ykq hq_ aa;replace ac:=ykq hq_ ac;replace HB:=ysq hq_;clear hq_));obtain ⟨bQ,bR,bS,bT,bU,bV⟩:=yc3 aa))
  (try simp only [Act.put,List.setIfInBounds_toArray,List.set_cons_zero,List.set_cons_succ])
  go_cut [] (fun wc => ∃ (kq : Nat) (aq : Int) (au : List Int) (al : Value),Aside0 (coder_Put.j0 kq b8 aq ap au=some (r1,r2,r3,r4))∧Aside0 (kq≤k)∧Aside0 (Kd.R (Kd.int .u8) 5 wc w.heap.size (fun _=>True) al au)∧Aside0 (wc.heap[ak]? = some (.cells #[.int .u64 aq, .int .u32 ap,al] 54 (0,0)))∧Aside0 (wc.heap[aw]? = some (.cells #[.int .u64 0, .int .u32 0,(.slice none 0 0)] 54 (0,0)))∧Aside0 (Below w.heap.size w wc))
  case first =>
   have H:=b9.out;clear b9
   by_cases c31 : (IntKind.u64.wrap (av+aQ)) > 4294967295
   ·
    rw [if_pos c31] at H
    have aN:=yDs c31
    clear c31
    (first|rw [aN]|(simp only [i64_w,i32_w];rw [aN])|skip)
    obtain ⟨aW,A32,H⟩:=ybi H
    have H' := zm H
    clear H
    have:=ag.out
    have:=ah.out
    obtain ⟨_,_,_,_,_,_⟩:=yc3 aa
    go_wp2_with (first|((with_reducible refine gate_store (t:=51) (p:=45) rfl ?_);refine store_event (t:=51) (p:=45) (v := ?vo_w35) (w1:=((w28.setCell ⟨ak,0,none⟩ (.int .u64 (IntKind.u64.wrap (av+aQ)))).setCell ⟨ak,0,none⟩ (.int .u64 (Go.bits .and .u64 (IntKind.u64.wrap (av+aQ)) 4294967295)))) ?hg ?ho ?hn ?hr ?_;(case ho=>rfl);(case hg=>rfl);(case hn=>rfl);(case hr=>first|(go_simp;done)|(go_simp;rfl));intro w35 hw;replace ae : Aside0 (Kd.R (Kd.int .u8) 5 w35 w.heap.size (fun _=>True) (.slice aG aj.length aH) aj):=⟨(by rw [hw];exact (yR1 ae aa))⟩;replace aa : Aside0 (w35.heap[ak]? = some (.cells #[.int .u64 (Go.bits .and .u64 (IntKind.u64.wrap (av+aQ)) 4294967295), .int .u32 ap, .slice aG aj.length aH] 54 (0,0))):=⟨(by rw [hw];exact (ykp aa))⟩;replace ac : Aside0 (w35.heap[aw]? = some (.cells #[.int .u64 0, .int .u32 0, .slice none 0 0] 54 (0,0))):=⟨(by rw [hw];exact (yk ac))⟩;replace HB : Aside0 (Below w.heap.size w w35):=⟨(by rw [hw];exact yhb)⟩;clear hw;obtain ⟨_,_,_,_,_,_⟩:=yc3 aa)|((with_reducible refine gate_callee (f:=66) rfl ?_);refine ygl 48 Try.func66 #[.slice aG aj.length aH] ?_;(with_reducible refine (coder_carry.calls k (fun k_=>some k_=(.slice aG aj.length aH : Value).ownBlock) (.slice aG aj.length aH) aj aW w _ ?aD ?cg A32.out).mono ?_);(case aD=>exact yhb);(case cg=>exact Kd.R_tight rfl ae.out);rintro e w37 ⟨rfl,hy0,hb,hkp⟩;refine ⟨_,rfl, ?_⟩;replace aa:=zm (blk_kept (yk aa) hkp (fun hs_=>(fun e_=>(zu ae.out aa.out (by decide)) e_) hs_));replace ac:=zm (blk_kept (yk ac) hkp (fun hs_=>(fun e_=>(zu ae.out ac.out (by decide)) e_) hs_));replace ae:=zm (Kd.R_reok rfl hy0 (fun k_ e_=>ae.out.1 k_ e_));replace HB:=zm (hb);(try clear hb);(try clear hkp);(try clear hy0)))
    go_meet
    case rel=>exact ⟨_,(Go.bits .and .u64 (IntKind.u64.wrap (av+aQ)) 4294967295),(aW),(.slice aG aj.length aH),H',⟨yo⟩,⟨yr ae⟩,⟨yk aa⟩,⟨yk ac⟩,⟨yhb⟩⟩
   rw [if_neg c31] at H
   have aN:=yGs c31
   clear c31
   (first|rw [aN]|(simp only [i64_w,i32_w];rw [aN])|skip)
   have H' := zm H
   clear H
   go_wp2
   go_meet
   case rel=>exact ⟨_,(IntKind.u64.wrap (av+aQ)),(aj),(.slice aG aj.length aH),H',⟨yo⟩,⟨yR1 ae aa⟩,⟨ykp aa⟩,⟨yk ac⟩,⟨yhb⟩⟩
  case rest =>
   clear b9
   try clear cb
   try clear ce
   try clear aX
   try clear aY
   try clear aZ
   try clear ba
   try clear bb
   try clear bc
   try clear bj
   try clear bk
   try clear bl
   try clear bp
   try clear bq
   try clear br
   try clear bx
   try clear bz
   try clear bA
   try clear bE
   try clear bF
   try clear bG
   try clear bK
   try clear bL
   try clear bM
   try clear bQ
   try clear bR
   try clear bS
   try clear a7
   try clear a8
   try clear a9
   try clear bd
   try clear bf
   try clear bg
   try clear bm
   try clear bn
   try clear bo
   try clear bs
   try clear bv
   try clear bw
   try clear bB
   try clear bC
   try clear bD
   try clear bH
   try clear bI
   try clear bJ
   try clear bN
   try clear bO
   try clear bP
   try clear bT
   try clear bU
   try clear bV
   obtain ⟨kq,aq,au,al,HA,ch,ai,aa,ac,HB⟩:=hcut
   obtain ⟨ci,rfl⟩:=ysu kq (fun h=>by subst h;exact absurd HA.out (by simp [coder_Put.j0]))
   have H:=HA.out;clear HA
   simp only [coder_Put.j0] at H
   have H' := zm H
   clear H
   go_wp2
   go_loopg [10] ci (fun kq v10 w' => ∃ (aE : Int) (af : Int) (am : List Int) (al : Value),v10=.int .u32 aE∧Aside0 (coder_Put.l0 kq aE af ap am=some (r1,r2,r3,r4))∧Aside0 (kq≤ci)∧Aside0 (Kd.R (Kd.int .u8) 5 w' w.heap.size (fun _=>True) al am)∧Aside0 (w'.heap[ak]? = some (.cells #[.int .u64 af, .int .u32 ap,al] 54 (0,0)))∧Aside0 (w'.heap[aw]? = some (.cells #[.int .u64 0, .int .u32 0,(.slice none 0 0)] 54 (0,0)))∧Aside0 (Below w.heap.size w w'))
   case atStart=>exact ⟨(b8),(aq),(au),(al),yq,H',⟨Nat.le_refl _⟩,⟨yr ai⟩,⟨yk aa⟩,⟨yk ac⟩,⟨yhb⟩⟩
   case round =>
    clear H'
    obtain ⟨aE,af,am,al,rfl,HA,HK2,ai,aa,ac,HB⟩:=hrel
    obtain ⟨k2,rfl⟩:=ysu gk (fun h=>by subst h;exact absurd HA.out (by simp [coder_Put.l0]))
    have H:=HA.out;clear HA
    simp only [coder_Put.l0] at H
    by_cases c38 : aE < 16777216
    ·
     rw [if_pos c38] at H
     have cj:=yD c38
     clear c38
     obtain ⟨c39,H⟩:=yif H
     have LMc39:=zm c39;clear c39
     obtain ⟨ca,aV⟩ : ∃ y_ : List Int,y_=(am ++ [(af / 16777216) % 256]):=⟨_,rfl⟩
     replace H : (coder_Put.l0 k2 ((aE * 256) % 4294967296) (Go.bits .and .u64 (IntKind.u64.wrap (af * 256)) 4294967295) ap ca)=some (r1,r2,r3,r4):=yrw aV H
     have ck:=zm aV;clear aV
     have H' := zm H
     clear H
     have:=ag.out
     have:=ah.out
     obtain ⟨_,_,_,_,_,_⟩:=yc3 aa
     go_wp2_with (first|((with_reducible refine gate_builtin (b:=.append) (xs := #[.tmp 52, .tmp 57]) rfl ?_);at_builtin;refine Kd.R_append (Kd.int .u8) (w0:=w) w.heap.size rfl (.tmp 52) (.tmp 57) 28 5 (.int .u8 0) 1 rfl Try.underlying28 info5 rfl (by decide) (by omega) al am ((af / 16777216) % 256) [.int .u8 ((af / 16777216) % 256)] (fun _=>True) (fun _=>False) rfl rfl ?aP (fun _ hk=>hk.elim) ?aF ?aO ?aB ?aS ?aL ?_;(case aP=>exact rfl);(case aB=>exact yhb);(case aF=>exact (fun _ _=>trivial));(case aO=>exact (yr ai));(case aS=>exact (zE yhb));(case aL=>have:=LMc39.out;omega);intro cv w42 ho hb hg hat;rw [← ck.out] at ho;replace aa:=zm (blk_grown (yk aa) hg (zu ai.out aa.out (by decide)));replace ac:=zm (blk_grown (yk ac) hg (zu ai.out ac.out (by decide)));replace HB:=zm (hb);have b6:=zm (ho);clear ai;clear ho hb hg hat;obtain ⟨cn,co,cp⟩:=Kd.R_slice b6.out;subst cp;obtain ⟨_,_,_,_,_,_⟩:=yc3 aa))
     go_roundg k2
     case measure=>exact yom2 ch HK2
     case rel=>exact ⟨((aE * 256) % 4294967296),(Go.bits .and .u64 (IntKind.u64.wrap (af * 256)) 4294967295),(ca),(.slice cn ca.length co),yq,H',⟨yom2 ch HK2⟩,⟨yR1 b6 aa⟩,⟨ykp aa⟩,⟨yk ac⟩,⟨yhb⟩⟩
    rw [if_neg c38] at H
    have cj:=yG c38
    clear c38
    simp only [Option.some.injEq,Prod.mk.injEq] at H
    obtain ⟨rfl,rfl,rfl,rfl⟩:=H
    have:=ag.out
    have:=ah.out
    obtain ⟨_,_,_,_,_,_⟩:=yc3 aa
    obtain ⟨_,_,_,_,_,_⟩:=yc3 ac
    obtain ⟨cq,cr,ct⟩:=Kd.R_slice ai.out
    subst ct
    go_wp2
    refine bodyPost_ret (results_ct rfl _ _ aw 54 #[.int .u64 af, .int .u32 aE, .slice cq am.length cr] (0,0) _ rfl (ykp ac) Try.underlying54 rfl (by kernel_rfl)) rfl ?_
    exact ⟨_,ye,yR2 ai aa ac,yhb⟩
 replace c7:=Bool.eq_false_iff.mpr c7
 subst c7
 rw [ynf] at H
 simp only [Option.some.injEq,Prod.mk.injEq] at H
 obtain ⟨rfl,rfl,rfl,rfl⟩:=H
 go_enter Try.func26,Try.ntmps26
 go_wp2_with (first|((with_reducible refine gate_dst (N:=4) rfl ?_);refine ybx 4 #[.int .u64 aA, .int .u32 aC, .slice aK ax.length aM] 54 ?_;intro ak hg w49 hbox hb;have aa:=zm (hbox);have bY:=ygw hg;have bZ:=ygw hg;replace HB:=ybs hb;clear hb hbox hg)|((with_reducible refine gate_dst (N:=8) rfl ?_);refine ybx 8 #[.int .u64 0, .int .u32 0, .slice none 0 0] 54 ?_;intro aw hg w50 hbox hb;have ac:=zm (hbox);have b4:=ygw hg;have b5:=ygw hg;replace HB:=ybs hb;have ag:=ynl aa hg;have ah:=yng aa hg;replace aa:=ybb aa hb;clear hb hbox hg;have:=ag.out;have:=ah.out;obtain ⟨_,_,_,_,_,_⟩:=yc3 aa)|((with_reducible refine gate_callee (f:=63) rfl ?_);refine ygl 13 Try.func63 #[.agg #[.int .u64 aA, .int .u32 aC, .slice aK ax.length aM]] ?_;(with_reducible refine (coder_own.calls aA aC _ _ ax av ap aj _ ?aD aU.out A5.out).mono ?_);(case aD=>exact ycb aT);rintro e w53 ⟨cf,rfl,ho0,hb⟩;refine ⟨_,rfl, ?_⟩;have ae:=zm (Kd.R_lower ho0 (zE yhb));replace aa:=ybb aa hb;replace ac:=ybb ac hb;replace HB:=ybs hb;(try clear hb);(try clear ho0);obtain ⟨_,_,_,_,_,_⟩:=yc3 aa;obtain ⟨bW,bX,cu⟩:=Kd.R_slice ae.out;subst cu)|((with_reducible refine gate_store (t:=54) (p:=4) rfl ?_);refine store_event (t:=54) (p:=4) (v := ?vo_w56) (w1:=(((w53.setCell ⟨ak,0,none⟩ (.int .u64 av)).setCell ⟨ak,1,none⟩ (.int .u32 ap)).setCell ⟨ak,2,none⟩ (.slice bW aj.length bX))) ?hg ?ho ?hn ?hr ?_;(case ho=>rfl);(case hg=>rfl);(case hn=>rfl);(case hr=>first|(go_simp;done)|(go_simp;rfl));intro w56 hw;replace ae : Aside0 (Kd.R (Kd.int .u8) 5 w56 w.heap.size (fun _=>True) (.slice bW aj.length bX) aj):=⟨(by rw [hw];exact (yR1 ae aa))⟩;replace aa : Aside0 (w56.heap[ak]? = some (.cells #[.int .u64 av, .int .u32 ap, .slice bW aj.length bX] 54 (0,0))):=⟨(by rw [hw];exact (ykp aa))⟩;replace ac : Aside0 (w56.heap[aw]? = some (.cells #[.int .u64 0, .int .u32 0, .slice none 0 0] 54 (0,0))):=⟨(by rw [hw];exact (yk ac))⟩;replace HB : Aside0 (Below w.heap.size w w56):=⟨(by rw [hw];exact yhb)⟩;clear hw)|((with_reducible refine gate_callee (f:=64) rfl ?_);refine ygl 17 Try.func64 #[.int .i64 a1, .int .i64 a2, .int .i64 a3] ?_;(with_reducible refine (coder_fair.calls a1 a2 a3 false _ A6.out).mono ?_);rintro e w' ⟨rfl,⟨nd,rfl⟩⟩;refine ⟨_,rfl, ?_⟩;(try (rw [drewN_self w56];generalize hq_ : World.drewN w56 _=w56;replace ae:=yRq hq_ ae;replace aa:=ykq hq_ aa;replace ac:=ykq hq_ ac;replace HB:=ysq hq_;clear hq_));obtain ⟨_,_,_,_,_,_⟩:=yc3 aa;obtain ⟨_,_,_,_,_,_⟩:=yc3 ac))
 refine bodyPost_ret (results_ct rfl _ _ aw 54 #[.int .u64 av, .int .u32 ap, .slice bW aj.length bX] (0,0) _ rfl (ykp ac) Try.underlying54 rfl (by kernel_rfl)) rfl ?_
 exact ⟨_,ye,yR1 ae ac,yhb⟩
mutual
def coder_PutNum.j0 : Nat→Int→Int→Bool→Int→Int→List Int→Option (Int × Int × List Int × Int)
 | 0,_,_,_,_,_,_=>none
 | k+1,x1,x2,x26,av,aw,ax=>if x26=true then (some (av,aw,ax,1)) else ((coder_halves.f x2).bind fun aC=>(if aC.2=0 then (none) else ((coder_Put.f k av aw ax (wrap64 (Int.tdiv (wrap64 (x1)) aC.2)) (wrap64 ((wrap64 (Int.tdiv (wrap64 (x1)) aC.2))+1)) aC.1).bind fun aD=>(if aD.2.2.2=0 then (coder_PutNum.j1 k aC.2 (Int.tmod (wrap64 (x1)) aC.2) aD.2.2.2 (decide (aC.2 > 1)) av aw ax aD.1 aD.2.1 aD.2.2.1) else (coder_PutNum.j1 k aC.2 (Int.tmod (wrap64 (x1)) aC.2) aD.2.2.2 false av aw ax aD.1 aD.2.1 aD.2.2.1)))))
def coder_PutNum.j1 : Nat→Int→Int→Int→Bool→Int→Int→List Int→Int→Int→List Int→Option (Int × Int × List Int × Int)
 | 0,_,_,_,_,_,_,_,_,_,_=>none
 | k+1,x9,x11,x13,x55,av,aw,ax,bD,bE,bF=>if x55=true then ((coder_Put.f k bD bE bF x11 (wrap64 (x11+1)) x9).bind fun bn=>(if bn.2.2.2=0 then (some (bn.1,bn.2.1,bn.2.2.1,0)) else (some (av,aw,ax,bn.2.2.2)))) else (if x13=0 then (some (bD,bE,bF,0)) else (some (av,aw,ax,x13)))
end
def coder_PutNum.f (k : Nat) (aQ : Int) (aT : Int) (aH : List Int) (a1 : Int) (a2 : Int) : Option (Int × Int × List Int × Int):=(coder_own.f aQ aT aH).bind fun aE=>(if a2 < 1 then (coder_PutNum.j0 k a1 a2 true aE.1 aE.2.1 aE.2.2) else (if a2 > 4294967296 then (coder_PutNum.j0 k a1 a2 true aE.1 aE.2.1 aE.2.2) else (coder_PutNum.j0 k a1 a2 (decide (a1 ≥ a2)) aE.1 aE.2.1 aE.2.2)))
theorem coder_PutNum.mono_l : ∀ k,(∀ y0 y1 y2 y3 y4 y5,LeO (coder_PutNum.j0 k y0 y1 y2 y3 y4 y5) (coder_PutNum.j0 (k+1) y0 y1 y2 y3 y4 y5))∧(∀ y0 y1 y2 y3 y4 y5 y6 y7 y8 y9,LeO (coder_PutNum.j1 k y0 y1 y2 y3 y4 y5 y6 y7 y8 y9) (coder_PutNum.j1 (k+1) y0 y1 y2 y3 y4 y5 y6 y7 y8 y9))
 | 0=>⟨fun _ _ _ _ _ _ r h=>by simp [coder_PutNum.j0] at h,fun _ _ _ _ _ _ _ _ _ _ r h=>by simp [coder_PutNum.j1] at h⟩
 | k+1=>by
  obtain ⟨ih0,ih1⟩:=coder_PutNum.mono_l k
  refine ⟨?_, ?_⟩
  ·
   intro y0 y1 y2 y3 y4 y5
   unfold coder_PutNum.j0
   repeat' with_reducible first|apply ih0|apply ih1|apply coder_Put.mono|apply yLr|apply yLn|apply yLi|apply yLb|intro _
  intro y0 y1 y2 y3 y4 y5 y6 y7 y8 y9
  unfold coder_PutNum.j1
  repeat' with_reducible first|apply ih0|apply ih1|apply coder_Put.mono|apply yLr|apply yLn|apply yLi|apply yLb|intro _
theorem coder_PutNum.mono : ∀ a0 a1 a2 a3 a4 k,LeO (coder_PutNum.f k a0 a1 a2 a3 a4) (coder_PutNum.f (k+1) a0 a1 a2 a3 a4):=by
 intro a0 a1 a2 a3 a4 k
 obtain ⟨ih0,ih1⟩:=coder_PutNum.mono_l k
 unfold coder_PutNum.f
 repeat' with_reducible first|apply ih0|apply ih1|apply coder_Put.mono|apply yLr|apply yLn|apply yLi|apply yLb|intro _
set_option maxHeartbeats 8000000 in
set_option maxRecDepth 100000 in
theorem coder_PutNum.calls (k : Nat) (aQ : Int) (aT : Int) (bN : Option Addr) (bO : Nat) (aH : List Int) (a1 : Int) (a2 : Int) (r1 : Int) (r2 : Int) (r3 : List Int) (r4 : Int) (w : World) (hr0_2 : Kd.C (Kd.int .u8) w bN aH.length aH) (hc0_2 : aH.length≤bO) (h : coder_PutNum.f k aQ aT aH a1 a2=some (r1,r2,r3,r4)) :
  Calls Try.prog 34 #[.agg #[.int .u64 aQ, .int .u32 aT, .slice bN aH.length bO], .int .u64 a1, .int .u64 a2] w fun e w' => ∃ v2_ : Value,e=.returned (.tuple #[.agg #[.int .u64 r1, .int .u32 r2,v2_], .int .i64 r4])∧Kd.R (Kd.int .u8) 5 w' w.heap.size (fun _=>True) v2_ r3∧Below w.heap.size w w' := by
 have hu54:=Try.underlying54;have bP:=zm hr0_2;have bQ:=zm hc0_2;clear hr0_2 hc0_2;have HB:=zm (Below.refl w.heap.size w);have H:=h
 unfold coder_PutNum.f at H
 clear h
 obtain ⟨⟨aI,aJ,az⟩,A4,H⟩:=ybi H
 try dsimp only at H
 have HC5:=zm H;clear H
 go_enter Try.func34,Try.ntmps34
 go_upto_region 2 with (first|((with_reducible refine gate_dst (N:=3) rfl ?_);refine ybx 3 #[.int .u64 aQ, .int .u32 aT, .slice bN aH.length bO] 54 ?_;intro bG hg w6 hbox hb;have ac:=zm (hbox);have cf:=ygw hg;have cg:=ygw hg;replace HB:=ybs hb;clear hb hbox hg)|((with_reducible refine gate_dst (N:=6) rfl ?_);refine ybx 6 #[.int .u64 0, .int .u32 0, .slice none 0 0] 54 ?_;intro aG hg w7 hbox hb;have af:=zm (hbox);have ch:=ygw hg;have ci:=ygw hg;replace HB:=ybs hb;have ag:=ynl ac hg;have ah:=yng ac hg;replace ac:=ybb ac hb;clear hb hbox hg;have:=ag.out;have:=ah.out;obtain ⟨bq,br,bs,bv,bw,bx⟩:=yc3 ac)|(go_at_call 63;(with_reducible refine (coder_own.calls aQ aT _ _ aH aI aJ az _ ?aj bQ.out A4.out).mono ?_);(case aj=>exact ycb bP);rintro e w10 ⟨co,rfl,ho0,hb⟩;have aK:=zm (Kd.R_lower ho0 (zE yhb));replace ac:=ybb ac hb;replace af:=ybb af hb;replace HB:=ybs hb;(try clear hb);(try clear ho0);obtain ⟨aW,aX,aY,aZ,a7,a8⟩:=yc3 ac;obtain ⟨aU,aV,bR⟩:=Kd.R_slice aK.out;subst bR))
 repeat (go_quiet (first|((with_reducible refine gate_dst (N:=3) rfl ?_);refine ybx 3 #[.int .u64 aQ, .int .u32 aT, .slice bN aH.length bO] 54 ?_;intro bG hg w6 hbox hb;have ac:=zm (hbox);have cf:=ygw hg;have cg:=ygw hg;replace HB:=ybs hb;clear hb hbox hg)|((with_reducible refine gate_dst (N:=6) rfl ?_);refine ybx 6 #[.int .u64 0, .int .u32 0, .slice none 0 0] 54 ?_;intro aG hg w7 hbox hb;have af:=zm (hbox);have ch:=ygw hg;have ci:=ygw hg;replace HB:=ybs hb;have ag:=ynl ac hg;have ah:=yng ac hg;replace ac:=ybb ac hb;clear hb hbox hg;have:=ag.out;have:=ah.out;obtain ⟨bq,br,bs,bv,bw,bx⟩:=yc3 ac)|(go_at_call 63;(with_reducible refine (coder_own.calls aQ aT _ _ aH aI aJ az _ ?aj bQ.out A4.out).mono ?_);(case aj=>exact ycb bP);rintro e w10 ⟨co,rfl,ho0,hb⟩;have aK:=zm (Kd.R_lower ho0 (zE yhb));replace ac:=ybb ac hb;replace af:=ybb af hb;replace HB:=ybs hb;(try clear hb);(try clear ho0);obtain ⟨aW,aX,aY,aZ,a7,a8⟩:=yc3 ac;obtain ⟨aU,aV,bR⟩:=Kd.R_slice aK.out;subst bR));go_upto_region 2 with (first|((with_reducible refine gate_dst (N:=3) rfl ?_);refine ybx 3 #[.int .u64 aQ, .int .u32 aT, .slice bN aH.length bO] 54 ?_;intro bG hg w6 hbox hb;have ac:=zm (hbox);have cf:=ygw hg;have cg:=ygw hg;replace HB:=ybs hb;clear hb hbox hg)|((with_reducible refine gate_dst (N:=6) rfl ?_);refine ybx 6 #[.int .u64 0, .int .u32 0, .slice none 0 0] 54 ?_;intro aG hg w7 hbox hb;have af:=zm (hbox);have ch:=ygw hg;have ci:=ygw hg;replace HB:=ybs hb;have ag:=ynl ac hg;have ah:=yng ac hg;replace ac:=ybb ac hb;clear hb hbox hg;have:=ag.out;have:=ah.out;obtain ⟨bq,br,bs,bv,bw,bx⟩:=yc3 ac)|(go_at_call 63;(with_reducible refine (coder_own.calls aQ aT _ _ aH aI aJ az _ ?aj bQ.out A4.out).mono ?_);(case aj=>exact ycb bP);rintro e w10 ⟨co,rfl,ho0,hb⟩;have aK:=zm (Kd.R_lower ho0 (zE yhb));replace ac:=ybb ac hb;replace af:=ybb af hb;replace HB:=ybs hb;(try clear hb);(try clear ho0);obtain ⟨aW,aX,aY,aZ,a7,a8⟩:=yc3 ac;obtain ⟨aU,aV,bR⟩:=Kd.R_slice aK.out;subst bR)))
 (try simp only [Act.put,List.setIfInBounds_toArray,List.set_cons_zero,List.set_cons_succ])
 go_cut [26] (fun v26 wc => ∃ (kq : Nat) (bH : Bool),v26=.bool bH∧Aside0 (coder_PutNum.j0 kq a1 a2 bH aI aJ az=some (r1,r2,r3,r4))∧Aside0 (kq≤k)∧Aside0 (Kd.R (Kd.int .u8) 5 wc w.heap.size (fun _=>True) (.slice aU az.length aV) az)∧Aside0 (wc.heap[bG]? = some (.cells #[.int .u64 aI, .int .u32 aJ,(.slice aU az.length aV)] 54 (0,0)))∧Aside0 (wc.heap[aG]? = some (.cells #[.int .u64 0, .int .u32 0,(.slice none 0 0)] 54 (0,0)))∧Aside0 (Below w.heap.size w wc))
 case first =>
  have H:=HC5.out;clear HC5
  by_cases c13 : a2 < 1
  ·
   rw [if_pos c13] at H
   have bo:=yD c13
   clear c13
   (first|rw [bo]|(simp only [i64_w,i32_w];rw [bo])|skip)
   have H' := zm H
   clear H
   go_wp2
   repeat (go_quiet (fail);try go_wp2)
   go_meet
   case rel=>exact ⟨_,(true),yq,H',⟨yo⟩,⟨yR1 aK ac⟩,⟨ykp ac⟩,⟨yk af⟩,⟨yhb⟩⟩
  rw [if_neg c13] at H
  have bo:=yG c13
  clear c13
  (first|rw [bo]|(simp only [i64_w,i32_w];rw [bo])|skip)
  by_cases c14 : a2 > 4294967296
  ·
   rw [if_pos c14] at H
   have cp:=yDs c14
   clear c14
   have H' := zm H
   clear H
   go_wp2
   repeat (go_quiet (fail);try go_wp2)
   go_meet
   case rel=>exact ⟨_,(true),yq,H',⟨yo⟩,⟨yR1 aK ac⟩,⟨ykp ac⟩,⟨yk af⟩,⟨yhb⟩⟩
  rw [if_neg c14] at H
  have cp:=yGs c14
  clear c14
  have H' := zm H
  clear H
  go_wp2
  repeat (go_quiet (fail);try go_wp2)
  go_meet
  case rel=>exact ⟨_,(decide (a1 ≥ a2)),yq,H',⟨yo⟩,⟨yR1 aK ac⟩,⟨ykp ac⟩,⟨yk af⟩,⟨yhb⟩⟩
 case rest =>
  clear HC5
  try clear aW
  try clear aX
  try clear aY
  try clear bq
  try clear br
  try clear bs
  try clear aZ
  try clear a7
  try clear a8
  try clear bv
  try clear bw
  try clear bx
  obtain ⟨kq,bH,rfl,HA,HJ4,aa,ac,af,HB⟩:=hcut
  obtain ⟨kj4,rfl⟩:=ysu kq (fun h=>by subst h;exact absurd HA.out (by simp [coder_PutNum.j0]))
  have H:=HA.out;clear HA
  simp only [coder_PutNum.j0] at H
  by_cases c15 : bH=true
  ·
   subst c15
   rw [if_pos rfl] at H
   simp only [Option.some.injEq,Prod.mk.injEq] at H
   obtain ⟨rfl,rfl,rfl,rfl⟩:=H
   have:=ag.out
   have:=ah.out
   obtain ⟨bX,bY,bZ,b4,b5,b6⟩:=yc3 ac
   obtain ⟨b7,b8,b9,ca,cb,ce⟩:=yc3 af
   go_wp2
   repeat (go_quiet (fail);try go_wp2)
   refine bodyPost_ret (results_ct rfl _ _ aG 54 #[.int .u64 aI, .int .u32 aJ, .slice aU az.length aV] (0,0) _ rfl (ykp af) Try.underlying54 rfl (by kernel_rfl)) rfl ?_
   exact ⟨_,ye,yR1 aa af,yhb⟩
  replace c15:=Bool.eq_false_iff.mpr c15
  subst c15
  rw [ynf] at H
  obtain ⟨⟨bI,ap⟩,A19,H⟩:=ybi H
  try dsimp only at H
  obtain ⟨c20,H⟩:=yie H
  obtain ⟨cq,cr⟩:=yF c20
  obtain ⟨⟨aM,aN,aA,bJ⟩,A21,H⟩:=ybi H
  try dsimp only at H
  have cl:=zm H;clear H
  go_upto_region 7 with (first|(go_at_call 76;(with_reducible refine (coder_halves.calls a2 bI ap _ A19.out).mono ?_);rintro e w' ⟨rfl,⟨nd,rfl⟩⟩;(try exact yww);have:=ag.out;have:=ah.out;obtain ⟨a9,ba,bb,bc,bd,bf⟩:=yc3 ac)|(go_at_call 26;(with_reducible refine (coder_Put.calls kj4 aI aJ _ _ az (wrap64 (Int.tdiv (wrap64 (a1)) ap)) (wrap64 ((wrap64 (Int.tdiv (wrap64 (a1)) ap))+1)) bI aM aN aA bJ _ ?aj ?aq A21.out).mono ?_);(case aj=>exact yce (Kd.R_reads' aa.out).2.2);(case aq=>exact (Kd.R_reads' aa.out).2.1);rintro e w25 ⟨ct,rfl,ho0,hb⟩;have au:=zm (Kd.R_lower (Kd.R_new' ho0 (Kd.R_lt (yr aa))) (zE yhb));replace aa:=zm (Kd.R_elder' (yr aa) (Kd.R_base ho0) hb);replace ac:=ybb ac hb;replace af:=ybb af hb;replace HB:=ybs hb;(try clear hb);(try clear ho0))|((with_reducible refine gate_dst (N:=12) rfl ?_);refine ybx 12 #[.int .u64 0, .int .u32 0, .slice none 0 0] 54 ?_;intro bS hg w26 hbox hb;replace aa:=yRb aa hb;replace au:=yRb au hb;have ai:=zm (hbox);have cj:=ygw hg;have ck:=ygw hg;replace HB:=ybs hb;have ak:=ynl ac hg;have al:=yng ac hg;replace ac:=ybb ac hb;have am:=ynl af hg;have ao:=yng af hg;replace af:=ybb af hb;clear hb hbox hg;have:=al.out;have:=ak.out;have:=ao.out;have:=am.out;obtain ⟨bg,bh,bi,bj,bk,bl⟩:=yc3 ai;obtain ⟨bK,bL,bT⟩:=Kd.R_slice au.out;subst bT))
  repeat (go_quiet (first|(go_at_call 76;(with_reducible refine (coder_halves.calls a2 bI ap _ A19.out).mono ?_);rintro e w' ⟨rfl,⟨nd,rfl⟩⟩;(try exact yww);have:=ag.out;have:=ah.out;obtain ⟨a9,ba,bb,bc,bd,bf⟩:=yc3 ac)|(go_at_call 26;(with_reducible refine (coder_Put.calls kj4 aI aJ _ _ az (wrap64 (Int.tdiv (wrap64 (a1)) ap)) (wrap64 ((wrap64 (Int.tdiv (wrap64 (a1)) ap))+1)) bI aM aN aA bJ _ ?aj ?aq A21.out).mono ?_);(case aj=>exact yce (Kd.R_reads' aa.out).2.2);(case aq=>exact (Kd.R_reads' aa.out).2.1);rintro e w25 ⟨ct,rfl,ho0,hb⟩;have au:=zm (Kd.R_lower (Kd.R_new' ho0 (Kd.R_lt (yr aa))) (zE yhb));replace aa:=zm (Kd.R_elder' (yr aa) (Kd.R_base ho0) hb);replace ac:=ybb ac hb;replace af:=ybb af hb;replace HB:=ybs hb;(try clear hb);(try clear ho0))|((with_reducible refine gate_dst (N:=12) rfl ?_);refine ybx 12 #[.int .u64 0, .int .u32 0, .slice none 0 0] 54 ?_;intro bS hg w26 hbox hb;replace aa:=yRb aa hb;replace au:=yRb au hb;have ai:=zm (hbox);have cj:=ygw hg;have ck:=ygw hg;replace HB:=ybs hb;have ak:=ynl ac hg;have al:=yng ac hg;replace ac:=ybb ac hb;have am:=ynl af hg;have ao:=yng af hg;replace af:=ybb af hb;clear hb hbox hg;have:=al.out;have:=ak.out;have:=ao.out;have:=am.out;obtain ⟨bg,bh,bi,bj,bk,bl⟩:=yc3 ai;obtain ⟨bK,bL,bT⟩:=Kd.R_slice au.out;subst bT));go_upto_region 7 with (first|(go_at_call 76;(with_reducible refine (coder_halves.calls a2 bI ap _ A19.out).mono ?_);rintro e w' ⟨rfl,⟨nd,rfl⟩⟩;(try exact yww);have:=ag.out;have:=ah.out;obtain ⟨a9,ba,bb,bc,bd,bf⟩:=yc3 ac)|(go_at_call 26;(with_reducible refine (coder_Put.calls kj4 aI aJ _ _ az (wrap64 (Int.tdiv (wrap64 (a1)) ap)) (wrap64 ((wrap64 (Int.tdiv (wrap64 (a1)) ap))+1)) bI aM aN aA bJ _ ?aj ?aq A21.out).mono ?_);(case aj=>exact yce (Kd.R_reads' aa.out).2.2);(case aq=>exact (Kd.R_reads' aa.out).2.1);rintro e w25 ⟨ct,rfl,ho0,hb⟩;have au:=zm (Kd.R_lower (Kd.R_new' ho0 (Kd.R_lt (yr aa))) (zE yhb));replace aa:=zm (Kd.R_elder' (yr aa) (Kd.R_base ho0) hb);replace ac:=ybb ac hb;replace af:=ybb af hb;replace HB:=ybs hb;(try clear hb);(try clear ho0))|((with_reducible refine gate_dst (N:=12) rfl ?_);refine ybx 12 #[.int .u64 0, .int .u32 0, .slice none 0 0] 54 ?_;intro bS hg w26 hbox hb;replace aa:=yRb aa hb;replace au:=yRb au hb;have ai:=zm (hbox);have cj:=ygw hg;have ck:=ygw hg;replace HB:=ybs hb;have ak:=ynl ac hg;have al:=yng ac hg;replace ac:=ybb ac hb;have am:=ynl af hg;have ao:=yng af hg;replace af:=ybb af hb;clear hb hbox hg;have:=al.out;have:=ak.out;have:=ao.out;have:=am.out;obtain ⟨bg,bh,bi,bj,bk,bl⟩:=yc3 ai;obtain ⟨bK,bL,bT⟩:=Kd.R_slice au.out;subst bT)))
  (try simp only [Act.put,List.setIfInBounds_toArray,List.set_cons_zero,List.set_cons_succ])
  go_cut [55] (fun v55 wc => ∃ (kq : Nat) (bm : Bool),v55=.bool bm∧Aside0 (coder_PutNum.j1 kq ap (Int.tmod (wrap64 (a1)) ap) bJ bm aI aJ az aM aN aA=some (r1,r2,r3,r4))∧Aside0 (kq≤kj4)∧Aside0 (Kd.R (Kd.int .u8) 5 wc w.heap.size (fun k_=>some k_≠((.slice bK aA.length bL) : Value).ownBlock) (.slice aU az.length aV) az)∧Aside0 (Kd.R (Kd.int .u8) 5 wc w.heap.size (fun k_=>some k_≠((.slice aU az.length aV) : Value).ownBlock) (.slice bK aA.length bL) aA)∧Aside0 (wc.heap[bG]? = some (.cells #[.int .u64 aI, .int .u32 aJ,(.slice aU az.length aV)] 54 (0,0)))∧Aside0 (wc.heap[aG]? = some (.cells #[.int .u64 0, .int .u32 0,(.slice none 0 0)] 54 (0,0)))∧Aside0 (wc.heap[bS]? = some (.cells #[.int .u64 aM, .int .u32 aN,(.slice bK aA.length bL)] 54 (0,0)))∧Aside0 (Below w.heap.size w wc))
  case first =>
   have H:=cl.out;clear cl
   by_cases c31 : bJ=0
   ·
    rw [if_pos c31] at H
    obtain ⟨bp,cu⟩:=yE c31
    clear c31
    (first|rw [bp]|(simp only [i64_w,i32_w];rw [bp])|skip)
    have H' := zm H
    clear H
    go_wp2
    repeat (go_quiet (fail);try go_wp2)
    go_meet
    case rel=>exact ⟨_,(decide (ap > 1)),yq,H',⟨yom1 HJ4⟩,⟨yR1 aa ai⟩,⟨yR1 au ai⟩,⟨yk ac⟩,⟨yk af⟩,⟨ykp ai⟩,⟨yhb⟩⟩
   rw [if_neg c31] at H
   obtain ⟨bp,cu⟩:=yF c31
   (first|rw [bp]|(simp only [i64_w,i32_w];rw [bp])|skip)
   have H' := zm H
   clear H
   go_wp2
   repeat (go_quiet (fail);try go_wp2)
   go_meet
   case rel=>exact ⟨_,(false),yq,H',⟨yom1 HJ4⟩,⟨yR1 aa ai⟩,⟨yR1 au ai⟩,⟨yk ac⟩,⟨yk af⟩,⟨ykp ai⟩,⟨yhb⟩⟩
  case rest =>
   clear cl
   try clear c20
   try clear cq
   try clear cr
   try clear bX
   try clear bY
   try clear bZ
   try clear b7
   try clear b8
   try clear b9
   try clear a9
   try clear ba
   try clear bb
   try clear bg
   try clear bh
   try clear bi
   try clear b4
   try clear b5
   try clear b6
   try clear ca
   try clear cb
   try clear ce
   try clear bc
   try clear bd
   try clear bf
   try clear bj
   try clear bk
   try clear bl
   obtain ⟨kq,bm,rfl,HA,cB,aa,ae,ac,af,ai,HB⟩:=hcut
   obtain ⟨bM,rfl⟩:=ysu kq (fun h=>by subst h;exact absurd HA.out (by simp [coder_PutNum.j1]))
   have H:=HA.out;clear HA
   simp only [coder_PutNum.j1] at H
   by_cases c32 : bm=true
   ·
    subst c32
    rw [if_pos rfl] at H
    obtain ⟨⟨bz,bA,bB,bC⟩,A33,H⟩:=ybi H
    try dsimp only at H
    by_cases c34 : bC=0
    ·
     rw [if_pos c34] at H
     obtain ⟨cv,cw⟩:=yE c34
     clear c34
     simp only [Option.some.injEq,Prod.mk.injEq] at H
     obtain ⟨rfl,rfl,rfl,rfl⟩:=H
     have:=al.out
     have:=ak.out
     have:=ao.out
     have:=am.out
     obtain ⟨_,_,_,_,_,_⟩:=yc3 ai
     go_wp2_with (first|(go_at_call 26;(with_reducible refine (coder_Put.calls bM aM aN _ _ aA (Int.tmod (wrap64 (a1)) ap) (wrap64 ((Int.tmod (wrap64 (a1)) ap)+1)) ap bz bA bB bC _ ?aj ?aq A33.out).mono ?_);(case aj=>exact yce (Kd.R_reads' ae.out).2.2);(case aq=>exact (Kd.R_reads' ae.out).2.1);rintro e w38 ⟨bU,rfl,ho0,hb⟩;have ay:=zm (Kd.R_lower (Kd.R_new' (Kd.R_new' ho0 (Kd.R_lt (yr aa))) (Kd.R_lt (yr ae))) (zE yhb));replace aa:=zm (Kd.R_elder' (yr aa) (Kd.R_base ho0) hb);replace ae:=zm (Kd.R_elder' (yr ae) (Kd.R_base ho0) hb);replace ac:=ybb ac hb;replace af:=ybb af hb;replace ai:=ybb ai hb;replace HB:=ybs hb;(try clear hb);(try clear ho0);obtain ⟨_,_,_,_,_,_⟩:=yc3 ai;obtain ⟨cm,cn,bV⟩:=Kd.R_slice ay.out;subst bV;have:=ah.out;have:=ag.out;obtain ⟨_,_,_,_,_,_⟩:=yc3 af))
     repeat (go_quiet (first|(go_at_call 26;(with_reducible refine (coder_Put.calls bM aM aN _ _ aA (Int.tmod (wrap64 (a1)) ap) (wrap64 ((Int.tmod (wrap64 (a1)) ap)+1)) ap bz bA bB bC _ ?aj ?aq A33.out).mono ?_);(case aj=>exact yce (Kd.R_reads' ae.out).2.2);(case aq=>exact (Kd.R_reads' ae.out).2.1);rintro e w38 ⟨bU,rfl,ho0,hb⟩;have ay:=zm (Kd.R_lower (Kd.R_new' (Kd.R_new' ho0 (Kd.R_lt (yr aa))) (Kd.R_lt (yr ae))) (zE yhb));replace aa:=zm (Kd.R_elder' (yr aa) (Kd.R_base ho0) hb);replace ae:=zm (Kd.R_elder' (yr ae) (Kd.R_base ho0) hb);replace ac:=ybb ac hb;replace af:=ybb af hb;replace ai:=ybb ai hb;replace HB:=ybs hb;(try clear hb);(try clear ho0);obtain ⟨_,_,_,_,_,_⟩:=yc3 ai;obtain ⟨cm,cn,bV⟩:=Kd.R_slice ay.out;subst bV;have:=ah.out;have:=ag.out;obtain ⟨_,_,_,_,_,_⟩:=yc3 af));try go_wp2_with (first|(go_at_call 26;(with_reducible refine (coder_Put.calls bM aM aN _ _ aA (Int.tmod (wrap64 (a1)) ap) (wrap64 ((Int.tmod (wrap64 (a1)) ap)+1)) ap bz bA bB bC _ ?aj ?aq A33.out).mono ?_);(case aj=>exact yce (Kd.R_reads' ae.out).2.2);(case aq=>exact (Kd.R_reads' ae.out).2.1);rintro e w38 ⟨bU,rfl,ho0,hb⟩;have ay:=zm (Kd.R_lower (Kd.R_new' (Kd.R_new' ho0 (Kd.R_lt (yr aa))) (Kd.R_lt (yr ae))) (zE yhb));replace aa:=zm (Kd.R_elder' (yr aa) (Kd.R_base ho0) hb);replace ae:=zm (Kd.R_elder' (yr ae) (Kd.R_base ho0) hb);replace ac:=ybb ac hb;replace af:=ybb af hb;replace ai:=ybb ai hb;replace HB:=ybs hb;(try clear hb);(try clear ho0);obtain ⟨_,_,_,_,_,_⟩:=yc3 ai;obtain ⟨cm,cn,bV⟩:=Kd.R_slice ay.out;subst bV;have:=ah.out;have:=ag.out;obtain ⟨_,_,_,_,_,_⟩:=yc3 af)))
     refine bodyPost_ret (results_ct rfl _ _ aG 54 #[.int .u64 bz, .int .u32 bA, .slice cm bB.length cn] (0,0) _ rfl (ykp af) Try.underlying54 rfl (by kernel_rfl)) rfl ?_
     exact ⟨_,ye,yR2 ay ai af,yhb⟩
    rw [if_neg c34] at H
    obtain ⟨cv,cw⟩:=yF c34
    simp only [Option.some.injEq,Prod.mk.injEq] at H
    obtain ⟨rfl,rfl,rfl,rfl⟩:=H
    have:=al.out
    have:=ak.out
    have:=ao.out
    have:=am.out
    obtain ⟨_,_,_,_,_,_⟩:=yc3 ai
    go_wp2_with (first|(go_at_call 26;(with_reducible refine (coder_Put.calls bM aM aN _ _ aA (Int.tmod (wrap64 (a1)) ap) (wrap64 ((Int.tmod (wrap64 (a1)) ap)+1)) ap bz bA bB bC _ ?aj ?aq A33.out).mono ?_);(case aj=>exact yce (Kd.R_reads' ae.out).2.2);(case aq=>exact (Kd.R_reads' ae.out).2.1);rintro e w46 ⟨bU,rfl,ho0,hb⟩;have ay:=zm (Kd.R_lower (Kd.R_new' (Kd.R_new' ho0 (Kd.R_lt (yr aa))) (Kd.R_lt (yr ae))) (zE yhb));replace aa:=zm (Kd.R_elder' (yr aa) (Kd.R_base ho0) hb);replace ae:=zm (Kd.R_elder' (yr ae) (Kd.R_base ho0) hb);replace ac:=ybb ac hb;replace af:=ybb af hb;replace ai:=ybb ai hb;replace HB:=ybs hb;(try clear hb);(try clear ho0);obtain ⟨_,_,_,_,_,_⟩:=yc3 ai;obtain ⟨cx,cy,bW⟩:=Kd.R_slice ay.out;subst bW;have:=ag.out;have:=ah.out;obtain ⟨_,_,_,_,_,_⟩:=yc3 ac;obtain ⟨_,_,_,_,_,_⟩:=yc3 af))
    repeat (go_quiet (first|(go_at_call 26;(with_reducible refine (coder_Put.calls bM aM aN _ _ aA (Int.tmod (wrap64 (a1)) ap) (wrap64 ((Int.tmod (wrap64 (a1)) ap)+1)) ap bz bA bB bC _ ?aj ?aq A33.out).mono ?_);(case aj=>exact yce (Kd.R_reads' ae.out).2.2);(case aq=>exact (Kd.R_reads' ae.out).2.1);rintro e w46 ⟨bU,rfl,ho0,hb⟩;have ay:=zm (Kd.R_lower (Kd.R_new' (Kd.R_new' ho0 (Kd.R_lt (yr aa))) (Kd.R_lt (yr ae))) (zE yhb));replace aa:=zm (Kd.R_elder' (yr aa) (Kd.R_base ho0) hb);replace ae:=zm (Kd.R_elder' (yr ae) (Kd.R_base ho0) hb);replace ac:=ybb ac hb;replace af:=ybb af hb;replace ai:=ybb ai hb;replace HB:=ybs hb;(try clear hb);(try clear ho0);obtain ⟨_,_,_,_,_,_⟩:=yc3 ai;obtain ⟨cx,cy,bW⟩:=Kd.R_slice ay.out;subst bW;have:=ag.out;have:=ah.out;obtain ⟨_,_,_,_,_,_⟩:=yc3 ac;obtain ⟨_,_,_,_,_,_⟩:=yc3 af));try go_wp2_with (first|(go_at_call 26;(with_reducible refine (coder_Put.calls bM aM aN _ _ aA (Int.tmod (wrap64 (a1)) ap) (wrap64 ((Int.tmod (wrap64 (a1)) ap)+1)) ap bz bA bB bC _ ?aj ?aq A33.out).mono ?_);(case aj=>exact yce (Kd.R_reads' ae.out).2.2);(case aq=>exact (Kd.R_reads' ae.out).2.1);rintro e w46 ⟨bU,rfl,ho0,hb⟩;have ay:=zm (Kd.R_lower (Kd.R_new' (Kd.R_new' ho0 (Kd.R_lt (yr aa))) (Kd.R_lt (yr ae))) (zE yhb));replace aa:=zm (Kd.R_elder' (yr aa) (Kd.R_base ho0) hb);replace ae:=zm (Kd.R_elder' (yr ae) (Kd.R_base ho0) hb);replace ac:=ybb ac hb;replace af:=ybb af hb;replace ai:=ybb ai hb;replace HB:=ybs hb;(try clear hb);(try clear ho0);obtain ⟨_,_,_,_,_,_⟩:=yc3 ai;obtain ⟨cx,cy,bW⟩:=Kd.R_slice ay.out;subst bW;have:=ag.out;have:=ah.out;obtain ⟨_,_,_,_,_,_⟩:=yc3 ac;obtain ⟨_,_,_,_,_,_⟩:=yc3 af)))
    refine bodyPost_ret (results_ct rfl _ _ aG 54 #[.int .u64 aI, .int .u32 aJ, .slice aU az.length aV] (0,0) _ rfl (ykp af) Try.underlying54 rfl (by kernel_rfl)) rfl ?_
    exact ⟨_,ye,yR2 aa ai af,yhb⟩
   replace c32:=Bool.eq_false_iff.mpr c32
   subst c32
   rw [ynf] at H
   by_cases c52 : bJ=0
   ·
    rw [if_pos c52] at H
    obtain ⟨cz,cA⟩:=yE c52
    clear c52
    simp only [Option.some.injEq,Prod.mk.injEq] at H
    obtain ⟨rfl,rfl,rfl,rfl⟩:=H
    have:=al.out
    have:=ak.out
    have:=ao.out
    have:=am.out
    obtain ⟨_,_,_,_,_,_⟩:=yc3 ai
    have:=ah.out
    have:=ag.out
    obtain ⟨_,_,_,_,_,_⟩:=yc3 af
    go_wp2
    repeat (go_quiet (fail);try go_wp2)
    refine bodyPost_ret (results_ct rfl _ _ aG 54 #[.int .u64 aM, .int .u32 aN, .slice bK aA.length bL] (0,0) _ rfl (ykp af) Try.underlying54 rfl (by kernel_rfl)) rfl ?_
    exact ⟨_,ye,yR1 ae af,yhb⟩
   rw [if_neg c52] at H
   obtain ⟨cz,cA⟩:=yF c52
   simp only [Option.some.injEq,Prod.mk.injEq] at H
   obtain ⟨rfl,rfl,rfl,rfl⟩:=H
   have:=ag.out
   have:=ah.out
   have:=ak.out
   have:=al.out
   obtain ⟨_,_,_,_,_,_⟩:=yc3 ac
   have:=am.out
   have:=ao.out
   obtain ⟨_,_,_,_,_,_⟩:=yc3 af
   go_wp2
   repeat (go_quiet (fail);try go_wp2)
   refine bodyPost_ret (results_ct rfl _ _ aG 54 #[.int .u64 aI, .int .u32 aJ, .slice aU az.length aV] (0,0) _ rfl (ykp af) Try.underlying54 rfl (by kernel_rfl)) rfl ?_
   exact ⟨_,ye,yR1 aa af,yhb⟩
def comb_size.f (a0 : Int) : Option (Int):=if a0 < (-12) then (some 13) else (if a0 > 12 then (some 13) else (some (mx a0 (wrap64 (-a0)))))
set_option maxHeartbeats 8000000 in
set_option maxRecDepth 100000 in
theorem comb_size.calls (a0 : Int) (r : Int) (w : World) (h : comb_size.f a0=some r) :
  Calls Try.prog 75 #[.int .i64 a0] w fun e w' => e=.returned (.int .i64 r)∧Below w.heap.size w w' := by
 have HB:=zm (Below.refl w.heap.size w);have H:=h
 unfold comb_size.f at H
 clear h
 by_cases c2 : a0 < (-12)
 ·
  rw [if_pos c2] at H
  have ac:=yD c2
  clear c2
  obtain rfl:=Option.some.inj H
  go_enter Try.func75,Try.ntmps75
  go_wp2
  go_ret
  exact ⟨ye,yhb⟩
 rw [if_neg c2] at H
 have ac:=yG c2
 clear c2
 by_cases c3 : a0 > 12
 ·
  rw [if_pos c3] at H
  have ae:=yDs c3
  clear c3
  obtain rfl:=Option.some.inj H
  go_enter Try.func75,Try.ntmps75
  go_wp2
  go_ret
  exact ⟨ye,yhb⟩
 rw [if_neg c3] at H
 have ae:=yGs c3
 clear c3
 obtain ⟨ji4,aa⟩ : ∃ j_ : Int,(mx a0 (wrap64 (-a0)))=j_:=⟨_,rfl⟩
 (first|rw [aa] at H|simp only [aa] at H)
 have af : (if a0 < (wrap64 (-a0)) then (wrap64 (-a0)) else a0)=ji4:=aa
 obtain rfl:=Option.some.inj H
 go_enter Try.func75,Try.ntmps75
 go_wp2
 go_ret
 exact ⟨by first|rfl|(simp [errW_none,errW_some] <;> rfl)|(simp only [← aa];first|rfl|(simp [errW_none,errW_some] <;> rfl))|(simp [*,errW_none,errW_some] <;> rfl),yhb⟩
mutual
def comb_Index.j0 : Nat→List Int→Bool→Option (Int × Int)
 | 0,_,_=>none
 | k+1,x0,x21=>if x21=true then (some (0,1)) else (comb_Index.l0 k x0 0 x0 (x0.length : Int) 0)
def comb_Index.l0 : Nat→List Int→Int→List Int→Int→Int→Option (Int × Int)
 | 0,_,_,_,_,_=>none
 | k+1,x0,x4,x22,x23,x24=>if x24 < x23 then (if 0≤x24 then (if x24 < (x22.length : Int) then ((comb_size.f (rd x22 x24)).bind fun aw=>(comb_Index.l0 k x0 (wrap64 (x4+aw)) x22 x23 (wrap64 (x24+1)))) else (none)) else (none)) else (if x4 > 12 then (some (0,1)) else (comb_Index.l1 k x0 x4 0 x0 (x0.length : Int) 0))
def comb_Index.l1 : Nat→List Int→Int→Int→List Int→Int→Int→Option (Int × Int)
 | 0,_,_,_,_,_,_=>none
 | k+1,x0,x4,x8,x36,x37,x38=>if x38 < x37 then (if 0≤x38 then (if x38 < (x36.length : Int) then ((comb_size.f (rd x36 x38)).bind fun af=>(if af > 0 then ((comb_table.f (wrap64 ((wrap64 ((x0.length : Int) - x38)) - 1)) x4).bind fun aE=>(comb_Index.j3 k x0 x4 (IntKind.u64.wrap (x8+aE)) (rd x36 x38) (wrap64 ((wrap64 ((x0.length : Int) - x38)) - 1)) af x36 x37 x38)) else (comb_Index.j3 k x0 x4 x8 (rd x36 x38) (wrap64 ((wrap64 ((x0.length : Int) - x38)) - 1)) af x36 x37 x38))) else (none)) else (none)) else (some (x8,0))
def comb_Index.j3 : Nat→List Int→Int→Int→Int→Int→Int→List Int→Int→Int→Option (Int × Int)
 | 0,_,_,_,_,_,_,_,_,_=>none
 | k+1,x0,x4,x8,x10,x11,x12,x36,x37,x38=>comb_Index.l2 k x0 x4 x8 x10 x11 x12 1 x36 x37 x38
def comb_Index.l2 : Nat→List Int→Int→Int→Int→Int→Int→Int→List Int→Int→Int→Option (Int × Int)
 | 0,_,_,_,_,_,_,_,_,_,_=>none
 | k+1,x0,x4,x8,x10,x11,x12,x13,x36,x37,x38=>if x13 < x12 then ((comb_table.f x11 (wrap64 (x4 - x13))).bind fun aG=>(comb_Index.l2 k x0 x4 (IntKind.u64.wrap (x8+(IntKind.u64.wrap (2 * aG)))) x10 x11 x12 (wrap64 (x13+1)) x36 x37 x38)) else (if x10 < 0 then ((comb_table.f x11 (wrap64 (x4 - x12))).bind fun aH=>(comb_Index.l1 k x0 (wrap64 (x4 - x12)) (IntKind.u64.wrap (x8+aH)) x36 x37 (wrap64 (x38+1)))) else (comb_Index.l1 k x0 (wrap64 (x4 - x12)) x8 x36 x37 (wrap64 (x38+1))))
end
def comb_Index.f (k : Nat) (l0 : List Int) : Option (Int × Int):=if (l0.length : Int) < 1 then (comb_Index.j0 k l0 true) else (comb_Index.j0 k l0 (decide ((l0.length : Int) > 16)))
theorem comb_Index.mono_l : ∀ k,(∀ y0 y1,LeO (comb_Index.j0 k y0 y1) (comb_Index.j0 (k+1) y0 y1))∧(∀ y0 y1 y2 y3 y4,LeO (comb_Index.l0 k y0 y1 y2 y3 y4) (comb_Index.l0 (k+1) y0 y1 y2 y3 y4))∧(∀ y0 y1 y2 y3 y4 y5,LeO (comb_Index.l1 k y0 y1 y2 y3 y4 y5) (comb_Index.l1 (k+1) y0 y1 y2 y3 y4 y5))∧(∀ y0 y1 y2 y3 y4 y5 y6 y7 y8,LeO (comb_Index.j3 k y0 y1 y2 y3 y4 y5 y6 y7 y8) (comb_Index.j3 (k+1) y0 y1 y2 y3 y4 y5 y6 y7 y8))∧(∀ y0 y1 y2 y3 y4 y5 y6 y7 y8 y9,LeO (comb_Index.l2 k y0 y1 y2 y3 y4 y5 y6 y7 y8 y9) (comb_Index.l2 (k+1) y0 y1 y2 y3 y4 y5 y6 y7 y8 y9))
 | 0=>⟨fun _ _ r h=>by simp [comb_Index.j0] at h,fun _ _ _ _ _ r h=>by simp [comb_Index.l0] at h,fun _ _ _ _ _ _ r h=>by simp [comb_Index.l1] at h,fun _ _ _ _ _ _ _ _ _ r h=>by simp [comb_Index.j3] at h,fun _ _ _ _ _ _ _ _ _ _ r h=>by simp [comb_Index.l2] at h⟩
 | k+1=>by
  obtain ⟨ih0,ih1,ih2,ih3,ih4⟩:=comb_Index.mono_l k
  refine ⟨?_, ?_, ?_, ?_, ?_⟩
  ·
   intro y0 y1
   unfold comb_Index.j0
   repeat' with_reducible first|apply ih0|apply ih1|apply ih2|apply ih3|apply ih4|apply yLr|apply yLn|apply yLi|apply yLb|intro _
  ·
   intro y0 y1 y2 y3 y4
   unfold comb_Index.l0
   repeat' with_reducible first|apply ih0|apply ih1|apply ih2|apply ih3|apply ih4|apply yLr|apply yLn|apply yLi|apply yLb|intro _
  ·
   intro y0 y1 y2 y3 y4 y5
   unfold comb_Index.l1
   repeat' with_reducible first|apply ih0|apply ih1|apply ih2|apply ih3|apply ih4|apply yLr|apply yLn|apply yLi|apply yLb|intro _
  ·
   intro y0 y1 y2 y3 y4 y5 y6 y7 y8
   unfold comb_Index.j3
   repeat' with_reducible first|apply ih0|apply ih1|apply ih2|apply ih3|apply ih4|apply yLr|apply yLn|apply yLi|apply yLb|intro _
  intro y0 y1 y2 y3 y4 y5 y6 y7 y8 y9
  unfold comb_Index.l2
  repeat' with_reducible first|apply ih0|apply ih1|apply ih2|apply ih3|apply ih4|apply yLr|apply yLn|apply yLi|apply yLb|intro _
theorem comb_Index.mono : ∀ a0 k,LeO (comb_Index.f k a0) (comb_Index.f (k+1) a0):=by
 intro a0 k
 obtain ⟨ih0,ih1,ih2,ih3,ih4⟩:=comb_Index.mono_l k
 unfold comb_Index.f
 repeat' with_reducible first|apply ih0|apply ih1|apply ih2|apply ih3|apply ih4|apply yLr|apply yLn|apply yLi|apply yLb|intro _
set_option maxHeartbeats 8000000 in
set_option maxRecDepth 100000 in
theorem comb_Index.calls (k : Nat) (A0 : Option Addr) (c0 : Nat) (l0 : List Int) (r1 : Int) (r2 : Int) (w : World) (hr0 : Kd.C (Kd.int .i64) w A0 l0.length l0) (hc0 : l0.length≤c0) (h : comb_Index.f k l0=some (r1,r2)) :
  Calls Try.prog 33 #[.slice A0 l0.length c0] w fun e w' => e=.returned (.tuple #[.int .u64 r1, .int .i64 r2])∧Below w.heap.size w w' := by
 have HR0:=zm hr0;have HC0:=zm hc0;clear hr0 hc0;have HB:=zm (Below.refl w.heap.size w);have H:=h
 unfold comb_Index.f at H
 clear h;have HC2:=zm H;clear H
 go_enter Try.func33,Try.ntmps33
 go_upto_region 1 with (fail)
 go_cut [21] (fun v21 wc => ∃ (kq : Nat) (al : Bool),v21=.bool al∧Aside0 (comb_Index.j0 kq l0 al=some (r1,r2))∧Aside0 (kq≤k)∧Aside0 (Below w.heap.size w wc))
 case first =>
  have H:=HC2.out;clear HC2
  by_cases c3 : (l0.length : Int) < 1
  ·
   rw [if_pos c3] at H
   have aq:=yD c3
   have aU : decide (l0.length < 1)=true:=decide_eq_true (by omega)
   clear c3
   (first|rw [aq]|(simp only [i64_w,i32_w];rw [aq])|skip)
   have H' := zm H
   clear H
   go_wp2
   go_meet
   case rel=>exact ⟨_,(true),yq,H',⟨yo⟩,⟨yhb⟩⟩
  rw [if_neg c3] at H
  have aq:=yG c3
  have aU : decide (l0.length < 1)=false:=decide_eq_false (by omega)
  clear c3
  (first|rw [aq]|(simp only [i64_w,i32_w];rw [aq])|skip)
  have H' := zm H
  clear H
  go_wp2
  go_meet
  case rel=>exact ⟨_,(decide ((l0.length : Int) > 16)),yq,H',⟨yo⟩,⟨yhb⟩⟩
 case rest =>
  clear HC2
  obtain ⟨kq,al,rfl,HA,HJ1,HB⟩:=hcut
  obtain ⟨kj1,rfl⟩:=ysu kq (fun h=>by subst h;exact absurd HA.out (by simp [comb_Index.j0]))
  have H:=HA.out;clear HA
  simp only [comb_Index.j0] at H
  by_cases c4 : al=true
  ·
   subst c4
   rw [if_pos rfl] at H
   simp only [Option.some.injEq,Prod.mk.injEq] at H
   obtain ⟨rfl,rfl⟩:=H
   go_wp2
   go_ret2
   exact ⟨ye,yhb⟩
  replace c4:=Bool.eq_false_iff.mpr c4
  subst c4
  rw [ynf] at H
  have H' := zm H
  clear H
  go_wp2
  go_loopg [4,24] kj1 (fun kq v4 v24 w' => ∃ (aj : Int) (ac : Int),v4=.int .i64 aj∧v24=.int .i64 ac∧Aside0 (comb_Index.l0 kq l0 aj l0 (l0.length : Int) ac=some (r1,r2))∧Aside0 (kq≤kj1)∧Aside0 (Below w.heap.size w w'))
  case atStart=>exact ⟨(0),(0),yq,yq,H',⟨Nat.le_refl _⟩,⟨yhb⟩⟩
  case round =>
   clear H'
   obtain ⟨aj,ac,rfl,rfl,HA,HK2,HB⟩:=hrel
   obtain ⟨k2,rfl⟩:=ysu gk (fun h=>by subst h;exact absurd HA.out (by simp [comb_Index.l0]))
   have H:=HA.out;clear HA
   simp only [comb_Index.l0] at H
   by_cases c5 : ac < (l0.length : Int)
   ·
    rw [if_pos c5] at H
    have aJ:=yD c5
    clear c5
    obtain ⟨c6,H⟩:=yif H
    have aV : decide (0≤ac)=true:=decide_eq_true c6
    clear c6
    obtain ⟨c7,H⟩:=yif H
    have aW : decide (ac < (l0.length : Int))=true:=decide_eq_true c7
    clear c7
    obtain ⟨aw,A8,H⟩:=ybi H
    have H' := zm H
    clear H
    have ax : 0≤(ac : Int):=yt
    have ay : ac < (l0.length : Int):=yt
    obtain ⟨aZ,aX,ag⟩:=Kd.at_int HR0.out ac ax ay
    cases aX
    replace ag:=yhx HB ag
    replace ax:=eq_true ax
    replace ay:=eq_true ay
    go_wp2_with (first|((with_reducible refine gate_callee (f:=75) rfl ?_);refine ygl 30 Try.func75 #[.int .i64 (rd l0 ac)] ?_;(with_reducible refine (comb_size.calls (rd l0 ac) aw _ A8.out).mono ?_);rintro e w9 ⟨rfl,hb⟩;refine ⟨_,rfl, ?_⟩;replace HB:=ybs hb;(try clear hb)))
    go_roundg k2
    case measure=>exact yom2 HJ1 HK2
    case rel=>exact ⟨(wrap64 (aj+aw)),(wrap64 (ac+1)),yq,yq,H',⟨yom2 HJ1 HK2⟩,⟨yhb⟩⟩
   rw [if_neg c5] at H
   have aJ:=yG c5
   clear c5
   by_cases c10 : aj > 12
   ·
    rw [if_pos c10] at H
    have aC:=yDs c10
    clear c10
    simp only [Option.some.injEq,Prod.mk.injEq] at H
    obtain ⟨rfl,rfl⟩:=H
    go_wp2
    go_ret2
    exact ⟨ye,yhb⟩
   rw [if_neg c10] at H
   have aC:=yGs c10
   clear c10
   obtain ⟨a9,au⟩ : ∃ y_ : List Int,y_=(([0] : List Int)):=⟨_,rfl⟩
   replace H : (comb_Index.l1 k2 l0 aj 0 l0 (l0.length : Int) 0)=some (r1,r2):=yrw au H
   have a7:=zm au;clear au
   have H' := zm H
   clear H
   obtain ⟨Z,hz,HZs⟩:=comb_table.zsize
   go_wp2_with (first|((with_reducible refine gate_callee (f:=72) rfl ?_);refine goesL_ (some 35) rfl rfl Try.func72 (by kernel_rfl) rfl #[] rfl (by first|rfl|simp) ?_;(with_reducible refine (comb_table.made _).mono ?_);rintro e w5 ⟨rfl,hb5⟩;refine ⟨_,rfl, ?_⟩;have hst:=run_storeCells_new (P:=Try.prog) w5 118 Z (ABl (comb_table.T 16)) comb_table.size16 HZs.out (ABl_one _);have n1_:=zm (ze (zJ yhb hb5) (.cells (ABl (comb_table.T 16)) 118));clear HB;have HB:=n1_;clear n1_;have hbn:=zm (blk_new w5 (.cells (ABl (comb_table.T 16)) 118))))
   have hb0:=HB.out
   obtain ⟨W0,hW0⟩ : ∃ W0,W0=w5.alloc (.cells (ABl (comb_table.T 16)) 118):=⟨_,rfl⟩
   rw [← hW0] at hb0 hbn
   rw [← hW0]
   clear hW0 HB hst hz HZs
   generalize w5.heap.size=B at hbn ⊢
   replace HR0:=zm (Kd.C_below HR0.out hb0)
   have HB:=zm (Below.refl W0.heap.size W0)
   go_loopg [4,8,38] k2 (fun kq v4 v8 v38 w' => ∃ (ak : Int) (av : Int) (aa : Int),v4=.int .i64 ak∧v8=.int .u64 av∧v38=.int .i64 aa∧Aside0 (comb_Index.l1 kq l0 ak av l0 (l0.length : Int) aa=some (r1,r2))∧Aside0 (kq≤k2)∧Aside0 (Below W0.heap.size W0 w'))
   case atStart=>exact ⟨(aj),(0),(0),yq,yq,yq,H',⟨Nat.le_refl _⟩,⟨yhb⟩⟩
   case round =>
    clear H'
    try clear aJ
    try clear aV
    try clear aW
    try clear aC
    try clear ag
    try clear ax
    try clear ay
    obtain ⟨ak,av,aa,rfl,rfl,rfl,HA,HK3,HB⟩:=hrel
    obtain ⟨k3,rfl⟩:=ysu gk (fun h=>by subst h;exact absurd HA.out (by simp [comb_Index.l1]))
    have H:=HA.out;clear HA
    simp only [comb_Index.l1] at H
    by_cases c13 : aa < (l0.length : Int)
    ·
     rw [if_pos c13] at H
     have aD:=yD c13
     clear c13
     obtain ⟨c14,H⟩:=yif H
     have aK : decide (0≤aa)=true:=decide_eq_true c14
     clear c14
     obtain ⟨c15,H⟩:=yif H
     have aM : decide (aa < (l0.length : Int))=true:=decide_eq_true c15
     clear c15
     obtain ⟨af,A16,H⟩:=ybi H
     have aI:=zm H;clear H
     have az : 0≤(aa : Int):=yt
     have aA : aa < (l0.length : Int):=yt
     obtain ⟨a8,aY,ae⟩:=Kd.at_int HR0.out aa az aA
     cases aY
     replace ae:=(HB.out.cell (zb W0 _ ae)).trans ae
     replace az:=eq_true az
     replace aA:=eq_true aA
     go_upto_if 51 with (first|((with_reducible refine gate_callee (f:=75) rfl ?_);refine ygl 49 Try.func75 #[.int .i64 (rd l0 aa)] ?_;(with_reducible refine (comb_size.calls (rd l0 aa) af _ A16.out).mono ?_);rintro e w18 ⟨rfl,hb⟩;refine ⟨_,rfl, ?_⟩;replace HB:=ybs hb;(try clear hb)))
     (try simp only [Act.put,List.setIfInBounds_toArray,List.set_cons_zero,List.set_cons_succ])
     go_cut [8] (fun v8 wc => ∃ (kq : Nat) (am : Int),v8=.int .u64 am∧Aside0 (comb_Index.j3 kq l0 ak am (rd l0 aa) (wrap64 ((wrap64 ((l0.length : Int) - aa)) - 1)) af l0 (l0.length : Int) aa=some (r1,r2))∧Aside0 (kq≤k3)∧Aside0 (Below W0.heap.size W0 wc))
     case first =>
      have H:=aI.out;clear aI
      by_cases c19 : af > 0
      ·
       rw [if_pos c19] at H
       have ah:=yDs c19
       clear c19
       (first|rw [ah]|(simp only [i64_w,i32_w];rw [ah])|skip)
       obtain ⟨aE,A20,H⟩:=ybi H
       have H' := zm H
       clear H
       obtain ⟨ia0,ib0,ic0,id0⟩:=comb_table.inn A20.out
       have hcl0:=(HB.out.cell (zb W0 _ (comb_table.look hbn.out A20.out))).trans (comb_table.look hbn.out A20.out)
       go_wp2
       go_meet
       case rel=>exact ⟨_,(IntKind.u64.wrap (av+aE)),yq,H',⟨yom3 HJ1 HK2 HK3⟩,⟨yhb⟩⟩
      rw [if_neg c19] at H
      have ah:=yGs c19
      clear c19
      (first|rw [ah]|(simp only [i64_w,i32_w];rw [ah])|skip)
      have H' := zm H
      clear H
      go_wp2
      go_meet
      case rel=>exact ⟨_,(av),yq,H',⟨yom3 HJ1 HK2 HK3⟩,⟨yhb⟩⟩
     case rest =>
      clear aI
      try clear aD
      try clear aK
      try clear aM
      try clear ae
      try clear az
      try clear aA
      obtain ⟨kq,am,rfl,HA,ao,HB⟩:=hcut
      obtain ⟨aN,rfl⟩:=ysu kq (fun h=>by subst h;exact absurd HA.out (by simp [comb_Index.j3]))
      have H:=HA.out;clear HA
      simp only [comb_Index.j3] at H
      have H' := zm H
      clear H
      go_wp2
      go_loopg [8,13] aN (fun kq v8 v13 w' => ∃ (ap : Int) (ai : Int),v8=.int .u64 ap∧v13=.int .i64 ai∧Aside0 (comb_Index.l2 kq l0 ak ap (rd l0 aa) (wrap64 ((wrap64 ((l0.length : Int) - aa)) - 1)) af ai l0 (l0.length : Int) aa=some (r1,r2))∧Aside0 (kq≤aN)∧Aside0 (Below W0.heap.size W0 w'))
      case atStart=>exact ⟨(am),(1),yq,yq,H',⟨Nat.le_refl _⟩,⟨yhb⟩⟩
      case round =>
       clear H'
       obtain ⟨ap,ai,rfl,rfl,HA,HK5,HB⟩:=hrel
       obtain ⟨k5,rfl⟩:=ysu gk (fun h=>by subst h;exact absurd HA.out (by simp [comb_Index.l2]))
       have H:=HA.out;clear HA
       simp only [comb_Index.l2] at H
       by_cases c21 : ai < af
       ·
        rw [if_pos c21] at H
        have aQ:=yD c21
        clear c21
        obtain ⟨aG,A22,H⟩:=ybi H
        have H' := zm H
        clear H
        obtain ⟨ia1,ib1,ic1,id1⟩:=comb_table.inn A22.out
        have hcl1:=(HB.out.cell (zb W0 _ (comb_table.look hbn.out A22.out))).trans (comb_table.look hbn.out A22.out)
        go_wp2
        go_roundg k5
        case measure=>exact yom5 HJ1 HK2 HK3 ao HK5
        case rel=>exact ⟨(IntKind.u64.wrap (ap+(IntKind.u64.wrap (2 * aG)))),(wrap64 (ai+1)),yq,yq,H',⟨yom5 HJ1 HK2 HK3 ao HK5⟩,⟨yhb⟩⟩
       rw [if_neg c21] at H
       have aQ:=yG c21
       clear c21
       by_cases c23 : (rd l0 aa) < 0
       ·
        rw [if_pos c23] at H
        have aT:=yD c23
        clear c23
        obtain ⟨aH,A24,H⟩:=ybi H
        have H' := zm H
        clear H
        obtain ⟨ia2,ib2,ic2,id2⟩:=comb_table.inn A24.out
        have hcl2:=(HB.out.cell (zb W0 _ (comb_table.look hbn.out A24.out))).trans (comb_table.look hbn.out A24.out)
        go_wp2
        go_roundg k5
        case measure=>exact yom5 HJ1 HK2 HK3 ao HK5
        case rel=>exact ⟨(wrap64 (ak - af)),(IntKind.u64.wrap (ap+aH)),(wrap64 (aa+1)),yq,yq,yq,H',⟨yom5 HJ1 HK2 HK3 ao HK5⟩,⟨yhb⟩⟩
       rw [if_neg c23] at H
       have aT:=yG c23
       clear c23
       have H' := zm H
       clear H
       go_wp2
       go_roundg k5
       case measure=>exact yom5 HJ1 HK2 HK3 ao HK5
       case rel=>exact ⟨(wrap64 (ak - af)),(ap),(wrap64 (aa+1)),yq,yq,yq,H',⟨yom5 HJ1 HK2 HK3 ao HK5⟩,⟨yhb⟩⟩
    rw [if_neg c13] at H
    have aD:=yG c13
    clear c13
    simp only [Option.some.injEq,Prod.mk.injEq] at H
    obtain ⟨rfl,rfl⟩:=H
    go_wp2
    go_ret2
    exact ⟨ye,zJ hb0 yhb⟩
mutual
def cpack_pulses.j0 : Nat→List Int→Int→Bool→Option (Bool)
 | 0,_,_,_=>none
 | k+1,x0,x2,x23=>if x23=true then (some false) else (cpack_pulses.l0 k x2 x0 (x0.length : Int) 0)
def cpack_pulses.l0 : Nat→Int→List Int→Int→Int→Option (Bool)
 | 0,_,_,_,_=>none
 | k+1,x2,x24,x25,x26=>if x26 < x25 then (if 0≤x26 then (if x26 < (x24.length : Int) then (cpack_pulses.l0 k (wrap64 (x2 - (mx (rd x24 x26) (wrap64 (-(rd x24 x26)))))) x24 x25 (wrap64 (x26+1))) else (none)) else (none)) else (some (x2 == 0))
end
def cpack_pulses.f (k : Nat) (l0 : List Int) (a1 : Int) (a2 : Int) : Option (Bool):=(comb_Index.f k l0).bind fun ak=>(if ak.2=0 then (cpack_pulses.j0 k l0 a2 ((l0.length : Int) != a1)) else (cpack_pulses.j0 k l0 a2 true))
theorem cpack_pulses.mono_l : ∀ k,(∀ y0 y1 y2,LeO (cpack_pulses.j0 k y0 y1 y2) (cpack_pulses.j0 (k+1) y0 y1 y2))∧(∀ y0 y1 y2 y3,LeO (cpack_pulses.l0 k y0 y1 y2 y3) (cpack_pulses.l0 (k+1) y0 y1 y2 y3))
 | 0=>⟨fun _ _ _ r h=>by simp [cpack_pulses.j0] at h,fun _ _ _ _ r h=>by simp [cpack_pulses.l0] at h⟩
 | k+1=>by
  obtain ⟨ih0,ih1⟩:=cpack_pulses.mono_l k
  refine ⟨?_, ?_⟩
  ·
   intro y0 y1 y2
   unfold cpack_pulses.j0
   repeat' with_reducible first|apply ih0|apply ih1|apply comb_Index.mono|apply yLr|apply yLn|apply yLi|apply yLb|intro _
  intro y0 y1 y2 y3
  unfold cpack_pulses.l0
  repeat' with_reducible first|apply ih0|apply ih1|apply comb_Index.mono|apply yLr|apply yLn|apply yLi|apply yLb|intro _
theorem cpack_pulses.mono : ∀ a0 a1 a2 k,LeO (cpack_pulses.f k a0 a1 a2) (cpack_pulses.f (k+1) a0 a1 a2):=by
 intro a0 a1 a2 k
 obtain ⟨ih0,ih1⟩:=cpack_pulses.mono_l k
 unfold cpack_pulses.f
 repeat' with_reducible first|apply ih0|apply ih1|apply comb_Index.mono|apply yLr|apply yLn|apply yLi|apply yLb|intro _
set_option maxHeartbeats 8000000 in
set_option maxRecDepth 100000 in
theorem cpack_pulses.calls (k : Nat) (A0 : Option Addr) (c0 : Nat) (l0 : List Int) (a1 : Int) (a2 : Int) (r : Bool) (w : World) (hr0 : Kd.C (Kd.int .i64) w A0 l0.length l0) (hc0 : l0.length≤c0) (h : cpack_pulses.f k l0 a1 a2=some r) :
  Calls Try.prog 44 #[.slice A0 l0.length c0, .int .i64 a1, .int .i64 a2] w fun e w' => e=.returned (.bool r)∧Below w.heap.size w w' := by
 have HR0:=zm hr0;have HC0:=zm hc0;clear hr0 hc0;have HB:=zm (Below.refl w.heap.size w);have H:=h
 unfold cpack_pulses.f at H
 clear h
 obtain ⟨⟨ap,al⟩,A4,H⟩:=ybi H
 try dsimp only at H
 have HC5:=zm H;clear H
 go_enter Try.func44,Try.ntmps44
 go_upto_region 2 with (first|((with_reducible refine gate_callee (f:=33) rfl ?_);refine ygl 13 Try.func33 #[.slice A0 l0.length c0] ?_;(with_reducible refine (comb_Index.calls k _ _ l0 ap al _ ?am HC0.out A4.out).mono ?_);(case am=>exact yce HR0.out);rintro e w6 ⟨rfl,hb⟩;refine ⟨_,rfl, ?_⟩;replace HB:=ybs hb;(try clear hb)))
 (try simp only [Act.put,List.setIfInBounds_toArray,List.set_cons_zero,List.set_cons_succ])
 go_cut [23] (fun v23 wc => ∃ (kq : Nat) (ac : Bool),v23=.bool ac∧Aside0 (cpack_pulses.j0 kq l0 a2 ac=some r)∧Aside0 (kq≤k)∧Aside0 (Below w.heap.size w wc))
 case first =>
  have H:=HC5.out;clear HC5
  by_cases c7 : al=0
  ·
   rw [if_pos c7] at H
   obtain ⟨ag,aq⟩:=yE c7
   clear c7
   (first|rw [ag]|(simp only [i64_w,i32_w];rw [ag])|skip)
   have H' := zm H
   clear H
   go_wp2
   go_meet
   case rel=>exact ⟨_,(((l0.length : Int) != a1)),yq,H',⟨yo⟩,⟨yhb⟩⟩
  rw [if_neg c7] at H
  obtain ⟨ag,aq⟩:=yF c7
  (first|rw [ag]|(simp only [i64_w,i32_w];rw [ag])|skip)
  have H' := zm H
  clear H
  go_wp2
  go_meet
  case rel=>exact ⟨_,(true),yq,H',⟨yo⟩,⟨yhb⟩⟩
 case rest =>
  clear HC5
  obtain ⟨kq,ac,rfl,HA,HJ4,HB⟩:=hcut
  obtain ⟨kj4,rfl⟩:=ysu kq (fun h=>by subst h;exact absurd HA.out (by simp [cpack_pulses.j0]))
  have H:=HA.out;clear HA
  simp only [cpack_pulses.j0] at H
  by_cases c8 : ac=true
  ·
   subst c8
   rw [if_pos rfl] at H
   obtain rfl:=Option.some.inj H
   go_wp2
   go_ret
   exact ⟨ye,yhb⟩
  replace c8:=Bool.eq_false_iff.mpr c8
  subst c8
  rw [ynf] at H
  have H' := zm H
  clear H
  go_wp2
  go_loopg [2,26] kj4 (fun kq v2 v26 w' => ∃ (ah : Int) (aa : Int),v2=.int .i64 ah∧v26=.int .i64 aa∧Aside0 (cpack_pulses.l0 kq ah l0 (l0.length : Int) aa=some r)∧Aside0 (kq≤kj4)∧Aside0 (Below w.heap.size w w'))
  case atStart=>exact ⟨(a2),(0),yq,yq,H',⟨Nat.le_refl _⟩,⟨yhb⟩⟩
  case round =>
   clear H'
   obtain ⟨ah,aa,rfl,rfl,HA,HK2,HB⟩:=hrel
   obtain ⟨k2,rfl⟩:=ysu gk (fun h=>by subst h;exact absurd HA.out (by simp [cpack_pulses.l0]))
   have H:=HA.out;clear HA
   simp only [cpack_pulses.l0] at H
   by_cases c9 : aa < (l0.length : Int)
   ·
    rw [if_pos c9] at H
    have au:=yD c9
    clear c9
    obtain ⟨c10,H⟩:=yif H
    have ax : decide (0≤aa)=true:=decide_eq_true c10
    clear c10
    obtain ⟨c11,H⟩:=yif H
    have ay : decide (aa < (l0.length : Int))=true:=decide_eq_true c11
    clear c11
    obtain ⟨ao,ae⟩ : ∃ j_ : Int,(mx (rd l0 aa) (wrap64 (-(rd l0 aa))))=j_:=⟨_,rfl⟩
    (first|rw [ae] at H|simp only [ae] at H)
    have av : (if (rd l0 aa) < (wrap64 (-(rd l0 aa))) then (wrap64 (-(rd l0 aa))) else (rd l0 aa))=ao:=ae
    have H' := zm H
    clear H
    have ai : 0≤(aa : Int):=yt
    have aj : aa < (l0.length : Int):=yt
    obtain ⟨az,aw,af⟩:=Kd.at_int HR0.out aa ai aj
    cases aw
    replace af:=yhx HB af
    replace ai:=eq_true ai
    replace aj:=eq_true aj
    go_wp2
    go_roundg k2
    case measure=>exact yom2 HJ4 HK2
    case rel=>exact ⟨(wrap64 (ah - (ao))),(wrap64 (aa+1)),(by first|rfl|(simp;done)|(simp only [← ae] <;> (first|rfl|simp))|(simp [*];done)),yq,H',⟨yom2 HJ4 HK2⟩,⟨yhb⟩⟩
   rw [if_neg c9] at H
   have au:=yG c9
   clear c9
   obtain rfl:=Option.some.inj H
   go_wp2
   go_ret
   exact ⟨ye,yhb⟩
mutual
def cpack_Right.j0 : Nat→List (List Int)→Bool→Bool→List (List Int)→List (List (List Int))→Option (Bool)
 | 0,_,_,_,_,_=>none
 | k+1,x7,x29,bW,bX,aY=>if x29=true then (some false) else (cpack_Right.l0 k x7 aY (aY.length : Int) 0)
def cpack_Right.l0 : Nat→List (List Int)→List (List (List Int))→Int→Int→Option (Bool)
 | 0,_,_,_,_=>none
 | k+1,x7,x31,x32,x33=>if x33 < x32 then (if 0≤x33 then (if x33 < (x31.length : Int) then (if ((rd_L2 x31 x33).length : Int)=5 then (cpack_Right.l1 k x7 x33 x31 x32 x33 (rd_L2 x31 x33) ((rd_L2 x31 x33).length : Int) 0) else (some false)) else (none)) else (none)) else (some true)
def cpack_Right.l1 : Nat→List (List Int)→Int→List (List (List Int))→Int→Int→List (List Int)→Int→Int→Option (Bool)
 | 0,_,_,_,_,_,_,_,_=>none
 | k+1,x7,x9,x31,x32,x33,x41,x42,x43=>if x43 < x42 then (if 0≤x43 then (if x43 < (x41.length : Int) then ((band_Width.f x43).bind fun aH=>(if 0≤x9 then (if x9 < (x7.length : Int) then (if x43 < ((rd_L1 x7 x9).length : Int) then ((cpack_pulses.f k (rd_L1 x41 x43) aH (rd (rd_L1 x7 x9) x43)).bind fun bv=>(if bv=true then (cpack_Right.l1 k x7 x9 x31 x32 x33 x41 x42 (wrap64 (x43+1))) else (some false))) else (none)) else (none)) else (none))) else (none)) else (none)) else (cpack_Right.l0 k x7 x31 x32 (wrap64 (x33+1)))
end
def cpack_Right.f (k : Nat) (a0 : Int) (a1 : Int) (ay : Bool) (al : List (List Int)) (af : List (List (List Int))) : Option (Bool):=(alloc_Pulses.f k a0 a1 al).bind fun a8=>(if a8.2=0 then (cpack_Right.j0 k a8.1 ((af.length : Int) != a1) ay al af) else (cpack_Right.j0 k a8.1 true ay al af))
theorem cpack_Right.mono_l : ∀ k,(∀ y0 y1 y2 y3 y4,LeO (cpack_Right.j0 k y0 y1 y2 y3 y4) (cpack_Right.j0 (k+1) y0 y1 y2 y3 y4))∧(∀ y0 y1 y2 y3,LeO (cpack_Right.l0 k y0 y1 y2 y3) (cpack_Right.l0 (k+1) y0 y1 y2 y3))∧(∀ y0 y1 y2 y3 y4 y5 y6 y7,LeO (cpack_Right.l1 k y0 y1 y2 y3 y4 y5 y6 y7) (cpack_Right.l1 (k+1) y0 y1 y2 y3 y4 y5 y6 y7))
 | 0=>⟨fun _ _ _ _ _ r h=>by simp [cpack_Right.j0] at h,fun _ _ _ _ r h=>by simp [cpack_Right.l0] at h,fun _ _ _ _ _ _ _ _ r h=>by simp [cpack_Right.l1] at h⟩
 | k+1=>by
  obtain ⟨ih0,ih1,ih2⟩:=cpack_Right.mono_l k
  refine ⟨?_, ?_, ?_⟩
  ·
   intro y0 y1 y2 y3 y4
   unfold cpack_Right.j0
   repeat' with_reducible first|apply ih0|apply ih1|apply ih2|apply alloc_Pulses.mono|apply cpack_pulses.mono|apply yLr|apply yLn|apply yLi|apply yLb|intro _
  ·
   intro y0 y1 y2 y3
   unfold cpack_Right.l0
   repeat' with_reducible first|apply ih0|apply ih1|apply ih2|apply alloc_Pulses.mono|apply cpack_pulses.mono|apply yLr|apply yLn|apply yLi|apply yLb|intro _
  intro y0 y1 y2 y3 y4 y5 y6 y7
  unfold cpack_Right.l1
  repeat' with_reducible first|apply ih0|apply ih1|apply ih2|apply alloc_Pulses.mono|apply cpack_pulses.mono|apply yLr|apply yLn|apply yLi|apply yLb|intro _
theorem cpack_Right.mono : ∀ a0 a1 a2 a3 a4 k,LeO (cpack_Right.f k a0 a1 a2 a3 a4) (cpack_Right.f (k+1) a0 a1 a2 a3 a4):=by
 intro a0 a1 a2 a3 a4 k
 obtain ⟨ih0,ih1,ih2⟩:=cpack_Right.mono_l k
 unfold cpack_Right.f
 repeat' with_reducible first|apply ih0|apply ih1|apply ih2|apply alloc_Pulses.mono|apply cpack_pulses.mono|apply yLr|apply yLn|apply yLi|apply yLb|intro _
def cpack_Right.T12 : Bool × List (List Nat × List Nat):=(true, [([], []),([], []),([1], [1]),([], []),([], []),([3,4], [3,4]),([5], [5]),([], []),([6,7], [6,7]),([8], [8]),([0,2,9,2], [0,2,9]),([10], [10])])
def cpack_Right.B12 : List Nat := [0,0,2,0,0,24,56,0,248,504,1023,2047]
theorem cpack_Right.tab12 : rtab .any (opsOf Try.f15 12)=cpack_Right.T12:=by kernel_rfl
theorem cpack_Right.bits12 : waitsOk cpack_Right.T12.2 cpack_Right.B12=true:=by kernel_rfl
set_option maxHeartbeats 8000000 in
set_option maxRecDepth 100000 in
theorem cpack_Right.calls (k : Nat) (a0 : Int) (a1 : Int) (ay : Bool) (aN : Option Addr) (aQ : Nat) (al : List (List Int)) (a9 : Option Addr) (a7 : Nat) (af : List (List (List Int))) (r : Bool) (w : World) (hr2_1 : Kd.C (Kd.slice 3 (Kd.int .i64)) w aN al.length al) (hc2_1 : al.length≤aQ) (hr2_2 : Kd.C (Kd.slice 49 (Kd.slice 3 (Kd.int .i64))) w a9 af.length af) (hc2_2 : af.length≤a7) (h : cpack_Right.f k a0 a1 ay al af=some r) :
  Calls Try.prog 15 #[.int .i64 a0, .int .i64 a1, .agg #[.bool ay, .slice aN al.length aQ, .slice a9 af.length a7]] w fun e w' => e=.returned (.bool r)∧Below w.heap.size w w' := by
 have hu25:=Try.underlying25;have bN:=zm hr2_1;have bO:=zm hc2_1;clear hr2_1 hc2_1;have bn:=zm hr2_2;have b5:=zm hc2_2;clear hr2_2 hc2_2;have HB:=zm (Below.refl w.heap.size w);have H:=h
 unfold cpack_Right.f at H
 clear h
 obtain ⟨⟨aj,bP⟩,A4,H⟩:=ybi H
 try dsimp only at H
 have HC5:=zm H;clear H
 go_enter Try.func15,Try.ntmps15
 go_upto_region 2 with (first|((with_reducible refine gate_dst (N:=5) rfl ?_);(try (refine gate_guard (by rfl) ?_;dsimp only));refine ybx 5 #[.bool ay, .slice aN al.length aQ, .slice a9 af.length a7] 25 ?_;intro ba hg w6 hbox hb;have ae:=zm (hbox);have b6:=ygw hg;have b7:=ygw hg;replace HB:=ybs hb;clear hb hbox hg;obtain ⟨bw,bx,bz,bA,bB,bC⟩:=yc3 ae)|((with_reducible refine gate_callee (f:=30) rfl ?_);refine ygl 18 Try.func30 #[.int .i64 a0, .int .i64 a1, .slice aN al.length aQ] ?_;(with_reducible refine (alloc_Pulses.calls k a0 a1 _ _ al aj bP _ ?aI bO.out A4.out).mono ?_);(case aI=>exact ycb bN);rintro e w8 ⟨bD,rfl,ho0,hb⟩;refine ⟨_,rfl, ?_⟩;have bo:=zm (Kd.S_lower ho0 (zE yhb));replace ae:=ybb ae hb;replace HB:=ybs hb;(try clear hb);(try clear ho0)))
 (try simp only [Act.put,List.setIfInBounds_toArray,List.set_cons_zero,List.set_cons_succ])
 go_cut [29] (fun v29 wc => ∃ (kq : Nat) (aZ : Bool),v29=.bool aZ∧Aside0 (cpack_Right.j0 kq aj aZ ay al af=some r)∧Aside0 (kq≤k)∧Aside0 (Kd.S (Kd.slice 3 (Kd.int .i64)) 49 wc w.heap.size (fun _=>True) bD aj)∧Aside0 (wc.heap[ba]? = some (.cells #[.bool ay,(.slice aN al.length aQ),(.slice a9 af.length a7)] 25 (0,0)))∧Aside0 (Below w.heap.size w wc))
 case first =>
  have H:=HC5.out;clear HC5
  by_cases c9 : bP=0
  ·
   rw [if_pos c9] at H
   obtain ⟨bb,bY⟩:=yE c9
   clear c9
   (first|rw [bb]|(simp only [i64_w,i32_w];rw [bb])|skip)
   have H' := zm H
   clear H
   obtain ⟨_,_,_,_,_,_⟩:=yc3 ae
   go_wp2
   go_meet
   case rel=>exact ⟨_,(((af.length : Int) != a1)),yq,H',⟨yo⟩,⟨yr bo⟩,⟨yk ae⟩,⟨yhb⟩⟩
  rw [if_neg c9] at H
  obtain ⟨bb,bY⟩:=yF c9
  (first|rw [bb]|(simp only [i64_w,i32_w];rw [bb])|skip)
  have H' := zm H
  clear H
  go_wp2
  go_meet
  case rel=>exact ⟨_,(true),yq,H',⟨yo⟩,⟨yr bo⟩,⟨yk ae⟩,⟨yhb⟩⟩
 case rest =>
  clear HC5
  try clear bw
  try clear bx
  try clear bz
  try clear bA
  try clear bB
  try clear bC
  obtain ⟨kq,aZ,rfl,HA,HJ4,ai,ae,HB⟩:=hcut
  obtain ⟨kj4,rfl⟩:=ysu kq (fun h=>by subst h;exact absurd HA.out (by simp [cpack_Right.j0]))
  have H:=HA.out;clear HA
  simp only [cpack_Right.j0] at H
  by_cases c11 : aZ=true
  ·
   subst c11
   rw [if_pos rfl] at H
   obtain rfl:=Option.some.inj H
   go_wp2
   go_ret
   exact ⟨ye,yhb⟩
  replace c11:=Bool.eq_false_iff.mpr c11
  subst c11
  rw [ynf] at H
  have H' := zm H
  clear H
  obtain ⟨bf,bg,bh,bi,bj,bk⟩:=yc3 ae
  go_wp2
  go_loopg [33] kj4 (fun kq v33 w' => ∃ (aa : Int),v33=.int .i64 aa∧Aside0 (cpack_Right.l0 kq aj af (af.length : Int) aa=some r)∧Aside0 (kq≤kj4)∧Aside0 (Kd.S (Kd.slice 3 (Kd.int .i64)) 49 w' w.heap.size (fun _=>True) bD aj)∧Aside0 (w'.heap[ba]? = some (.cells #[.bool ay,(.slice aN al.length aQ),(.slice a9 af.length a7)] 25 (0,0)))∧Aside0 (Below w.heap.size w w'))
  case atStart=>exact ⟨(0),yq,H',⟨Nat.le_refl _⟩,⟨yr ai⟩,⟨yk ae⟩,⟨yhb⟩⟩
  case round =>
   clear H'
   try clear bf
   try clear bg
   try clear bh
   try clear bi
   try clear bj
   try clear bk
   obtain ⟨aa,rfl,HA,HK2,ai,ae,HB⟩:=hrel
   obtain ⟨k2,rfl⟩:=ysu gk (fun h=>by subst h;exact absurd HA.out (by simp [cpack_Right.l0]))
   have H:=HA.out;clear HA
   simp only [cpack_Right.l0] at H
   by_cases c13 : aa < (af.length : Int)
   ·
    rw [if_pos c13] at H
    have bp:=yD c13
    clear c13
    obtain ⟨c14,H⟩:=yif H
    have bQ : decide (0≤aa)=true:=decide_eq_true c14
    clear c14
    obtain ⟨c15,H⟩:=yif H
    have bR : decide (aa < (af.length : Int))=true:=decide_eq_true c15
    clear c15
    by_cases c16 : ((rd_L2 af aa).length : Int)=5
    ·
     rw [if_pos c16] at H
     obtain ⟨bq,br⟩:=yE c16
     clear c16
     have H' := zm H
     clear H
     have aJ : 0≤(aa : Int):=yt
     have aK : aa < (af.length : Int):=yt
     obtain ⟨bs,bE,bF,bG,ak,am,ao⟩:=at_L2 bn.out aa aJ aK
     cases bG
     replace ak:=yhx HB ak
     have az:=zm ao;have bl:=zm am;clear ao am
     replace aJ:=eq_true aJ
     replace aK:=eq_true aK
     go_wp2
     go_loopg [43] k2 (fun kq v43 w' => ∃ (ac : Int),v43=.int .i64 ac∧Aside0 (cpack_Right.l1 kq aj aa af (af.length : Int) aa (rd_L2 af aa) ((rd_L2 af aa).length : Int) ac=some r)∧Aside0 (kq≤k2)∧Aside0 (Kd.S (Kd.slice 3 (Kd.int .i64)) 49 w' w.heap.size (fun _=>True) bD aj)∧Aside0 (w'.heap[ba]? = some (.cells #[.bool ay,(.slice aN al.length aQ),(.slice (some bs) af.length a7)] 25 (0,0)))∧Aside0 (Below w.heap.size w w'))
     case atStart=>exact ⟨(0),yq,H',⟨Nat.le_refl _⟩,⟨yr ai⟩,⟨yk ae⟩,⟨yhb⟩⟩
     case round =>
      clear H'
      try clear bp
      try clear bQ
      try clear bR
      try clear bq
      try clear br
      try clear ak
      try clear aJ
      try clear aK
      obtain ⟨ac,rfl,HA,HK3,ai,ae,HB⟩:=hrel
      obtain ⟨k3,rfl⟩:=ysu gk (fun h=>by subst h;exact absurd HA.out (by simp [cpack_Right.l1]))
      have H:=HA.out;clear HA
      simp only [cpack_Right.l1] at H
      by_cases c17 : ac < ((rd_L2 af aa).length : Int)
      ·
       rw [if_pos c17] at H
       have bS:=yD c17
       clear c17
       obtain ⟨c18,H⟩:=yif H
       have b8 : decide (0≤ac)=true:=decide_eq_true c18
       clear c18
       obtain ⟨c19,H⟩:=yif H
       have b9 : decide (ac < ((rd_L2 af aa).length : Int))=true:=decide_eq_true c19
       clear c19
       obtain ⟨aH,A20,H⟩:=ybi H
       obtain ⟨c21,H⟩:=yif H
       have ca : decide (0≤aa)=true:=decide_eq_true c21
       clear c21
       obtain ⟨c22,H⟩:=yif H
       have cb : decide (aa < (aj.length : Int))=true:=decide_eq_true c22
       clear c22
       obtain ⟨c23,H⟩:=yif H
       have ce : decide (ac < ((rd_L1 aj aa).length : Int))=true:=decide_eq_true c23
       clear c23
       obtain ⟨bv,A24,H⟩:=ybi H
       by_cases c25 : bv=true
       ·
        subst c25
        rw [if_pos rfl] at H
        have H' := zm H
        clear H
        have aT : 0≤(ac : Int):=yt
        have aU : ac < ((rd_L2 af aa).length : Int):=yt
        obtain ⟨bT,aV,aW,bH,ap,aq,au⟩:=at_L1 az.out ac aT aU
        cases bH
        replace ap:=yhx HB ap
        have aA:=zm au;have aC:=zm aq;clear au aq
        replace aT:=eq_true aT
        replace aU:=eq_true aU
        try go_wp2
        replace ai:=zm (Kd.S_drew ai.out)
        replace ae:=zm (zj ae.out)
        replace HB:=zm (zf HB.out)
        obtain ⟨cf,cg,bU⟩:=Kd.S_slice ai.out
        (first|subst bU|(injection bU with f1_ f2_ f3_;have f4_:=f1_.symm;have f5_:=f3_.symm;clear f1_ f2_ f3_;subst f4_;subst f5_))
        have aD : 0≤(aa : Int):=yt
        have aE : aa < (aj.length : Int):=yt
        obtain ⟨bc,bI,aX,bJ,av,aw,ax⟩:=at_L1 (Kd.S_reads' ai.out).2.2 aa aD aE
        cases bJ
        obtain ⟨ce179,hce179,hMe179,hcc179⟩:=Kd.S_get ai.out [] aa aD (by first|exact aE|exact yt|(have e_:=(Kd.S_reads' ai.out).1;omega))
        obtain ⟨ve179_0,rfl,ge179_0⟩:=hMe179
        have hv179_0:=hcc179 0 _ rfl
        rw [Nat.add_zero,show ((Kd.slice 3 (Kd.int .i64))).sz=1 from rfl,Nat.mul_one] at hv179_0
        replace hv179_0:=Option.some.inj (hv179_0.symm.trans av)
        rw [hv179_0] at ge179_0
        have ah:=zm (show Kd.R (Kd.int .i64) 3 _ _ _ _ (rd_L1 aj aa) from ge179_0)
        clear hv179_0 ge179_0 hcc179 hce179;have ag:=zm ax;have bm:=zm aw;clear ax aw
        replace aD:=eq_true aD
        replace aE:=eq_true aE
        obtain ⟨aM,bK,aG,bZ,b4⟩:=yai ag ac
        cases bK
        refine yst (fun w' => w'.cell? (bc.add (aa).toNat)=some (.slice (some aM) (rd_L1 aj aa).length aX)∧w'.cell? (aM.add (ac).toNat)=some (.int .i64 (rd (rd_L1 aj aa) ac))) [] 12 cpack_Right.tab12 cpack_Right.bits12 (fun hHeld HT_ HW_ => ?_)
        generalize wr.drew=w26 at ai ae HB ah ag av aG hHeld ⊢
        refine yp 0 48 HT_ ?_
        refine yp 1 49 HT_ ?_
        refine yp 3 51 HT_ ?_
        refine yp 4 52 HT_ ?_
        refine yp 5 53 HT_ ?_
        refine yp 7 55 HT_ ?_
        refine yl 6 54 HT_ HW_ hHeld ?_
        refine yp 8 56 HT_ ?_
        refine yl 9 57 HT_ HW_ hHeld ?_
        refine yw 2 50 HT_ (fun K hK => ?_)
        refine ygs Try.func32 #[.int .i64 ac] ?_
        with_reducible refine (band_Width.calls ac aH _ A20.out).mono ?_
        rintro e w28 ⟨rfl,hb⟩
        have bL:=yhs hb hHeld.1
        have bM:=yhs hb hHeld.2
        refine ⟨_,rfl, ?_⟩
        replace ai:=ySb ai hb
        replace ah:=yRb ah hb
        replace ae:=ybb ae hb
        replace ag:=yCb ag hb
        replace HB:=ybs hb
        (try clear hb)
        refine hK.out _ _ yH (fun hHeld => ?_)
        clear hK K
        refine ym (some 50) ?_
        refine yw 10 58 HT_ (fun K hK => ?_)
        refine ygs Try.func44 #[.slice aV (rd_L1 (rd_L2 af aa) ac).length aW, .int .i64 aH, .int .i64 (rd (rd_L1 aj aa) ac)] ?_
        with_reducible refine (cpack_pulses.calls k3 _ _ (rd_L1 (rd_L2 af aa) ac) aH (rd (rd_L1 aj aa) ac) true _ ?aI ?bd A24.out).mono ?_
        (case aI=>exact ycb aA)
        (case bd=>exact aC.out)
        rintro e w29 ⟨rfl,hb⟩
        have bL:=yhs hb hHeld.1
        have bM:=yhs hb hHeld.2
        refine ⟨_,rfl, ?_⟩
        replace ai:=ySb ai hb
        replace ah:=yRb ah hb
        replace ae:=ybb ae hb
        replace ag:=yCb ag hb
        replace HB:=ybs hb
        (try clear hb)
        refine hK.out _ _ yH (fun hHeld => ?_)
        clear hK K
        refine ym (some 58) ?_
        refine yp 11 59 HT_ ?_
        refine done_ (done_of HT_.out (by kernel_rfl)) ?_
        try go_wp2
        go_roundg k3
        case measure=>exact yom3 HJ4 HK2 HK3
        case rel=>exact ⟨(wrap64 (ac+1)),yq,H',⟨yom3 HJ4 HK2 HK3⟩,⟨yr ai⟩,⟨yk ae⟩,⟨yhb⟩⟩
       replace c25:=Bool.eq_false_iff.mpr c25
       subst c25
       rw [ynf] at H
       obtain rfl:=Option.some.inj H
       have aT : 0≤(ac : Int):=yt
       have aU : ac < ((rd_L2 af aa).length : Int):=yt
       obtain ⟨bT,aV,aW,bH,ap,aq,au⟩:=at_L1 az.out ac aT aU
       cases bH
       replace ap:=yhx HB ap
       have aA:=zm au;have aC:=zm aq;clear au aq
       replace aT:=eq_true aT
       replace aU:=eq_true aU
       try go_wp2
       replace ai:=zm (Kd.S_drew ai.out)
       replace ae:=zm (zj ae.out)
       replace HB:=zm (zf HB.out)
       obtain ⟨ch,ci,bV⟩:=Kd.S_slice ai.out
       (first|subst bV|(injection bV with f1_ f2_ f3_;have f4_:=f1_.symm;have f5_:=f3_.symm;clear f1_ f2_ f3_;subst f4_;subst f5_))
       have aD : 0≤(aa : Int):=yt
       have aE : aa < (aj.length : Int):=yt
       obtain ⟨bc,bI,aX,bJ,av,aw,ax⟩:=at_L1 (Kd.S_reads' ai.out).2.2 aa aD aE
       cases bJ
       obtain ⟨ce179,hce179,hMe179,hcc179⟩:=Kd.S_get ai.out [] aa aD (by first|exact aE|exact yt|(have e_:=(Kd.S_reads' ai.out).1;omega))
       obtain ⟨ve179_0,rfl,ge179_0⟩:=hMe179
       have hv179_0:=hcc179 0 _ rfl
       rw [Nat.add_zero,show ((Kd.slice 3 (Kd.int .i64))).sz=1 from rfl,Nat.mul_one] at hv179_0
       replace hv179_0:=Option.some.inj (hv179_0.symm.trans av)
       rw [hv179_0] at ge179_0
       have ah:=zm (show Kd.R (Kd.int .i64) 3 _ _ _ _ (rd_L1 aj aa) from ge179_0)
       clear hv179_0 ge179_0 hcc179 hce179;have ag:=zm ax;have bm:=zm aw;clear ax aw
       replace aD:=eq_true aD
       replace aE:=eq_true aE
       obtain ⟨aM,bK,aG,bZ,b4⟩:=yai ag ac
       cases bK
       refine yst (fun w' => w'.cell? (bc.add (aa).toNat)=some (.slice (some aM) (rd_L1 aj aa).length aX)∧w'.cell? (aM.add (ac).toNat)=some (.int .i64 (rd (rd_L1 aj aa) ac))) [] 12 cpack_Right.tab12 cpack_Right.bits12 (fun hHeld HT_ HW_ => ?_)
       generalize wr.drew=w30 at ai ae HB ah ag av aG hHeld ⊢
       refine yp 0 48 HT_ ?_
       refine yp 1 49 HT_ ?_
       refine yp 3 51 HT_ ?_
       refine yp 4 52 HT_ ?_
       refine yp 5 53 HT_ ?_
       refine yp 7 55 HT_ ?_
       refine yl 6 54 HT_ HW_ hHeld ?_
       refine yp 8 56 HT_ ?_
       refine yl 9 57 HT_ HW_ hHeld ?_
       refine yw 2 50 HT_ (fun K hK => ?_)
       refine ygs Try.func32 #[.int .i64 ac] ?_
       with_reducible refine (band_Width.calls ac aH _ A20.out).mono ?_
       rintro e w32 ⟨rfl,hb⟩
       have bL:=yhs hb hHeld.1
       have bM:=yhs hb hHeld.2
       refine ⟨_,rfl, ?_⟩
       replace ai:=ySb ai hb
       replace ah:=yRb ah hb
       replace ae:=ybb ae hb
       replace ag:=yCb ag hb
       replace HB:=ybs hb
       (try clear hb)
       refine hK.out _ _ yH (fun hHeld => ?_)
       clear hK K
       refine ym (some 50) ?_
       refine yw 10 58 HT_ (fun K hK => ?_)
       refine ygs Try.func44 #[.slice aV (rd_L1 (rd_L2 af aa) ac).length aW, .int .i64 aH, .int .i64 (rd (rd_L1 aj aa) ac)] ?_
       with_reducible refine (cpack_pulses.calls k3 _ _ (rd_L1 (rd_L2 af aa) ac) aH (rd (rd_L1 aj aa) ac) false _ ?aI ?bd A24.out).mono ?_
       (case aI=>exact ycb aA)
       (case bd=>exact aC.out)
       rintro e w33 ⟨rfl,hb⟩
       have bL:=yhs hb hHeld.1
       have bM:=yhs hb hHeld.2
       refine ⟨_,rfl, ?_⟩
       replace ai:=ySb ai hb
       replace ah:=yRb ah hb
       replace ae:=ybb ae hb
       replace ag:=yCb ag hb
       replace HB:=ybs hb
       (try clear hb)
       refine hK.out _ _ yH (fun hHeld => ?_)
       clear hK K
       refine ym (some 58) ?_
       refine yp 11 59 HT_ ?_
       refine done_ (done_of HT_.out (by kernel_rfl)) ?_
       try go_wp2
       go_ret
       exact ⟨ye,yhb⟩
      rw [if_neg c17] at H
      have bS:=yG c17
      clear c17
      have H' := zm H
      clear H
      go_wp2
      go_roundg k3
      case measure=>exact yom3 HJ4 HK2 HK3
      case rel=>exact ⟨(wrap64 (aa+1)),yq,H',⟨yom3 HJ4 HK2 HK3⟩,⟨yr ai⟩,⟨yk ae⟩,⟨yhb⟩⟩
    rw [if_neg c16] at H
    obtain ⟨bq,br⟩:=yF c16
    obtain rfl:=Option.some.inj H
    have aJ : 0≤(aa : Int):=yt
    have aK : aa < (af.length : Int):=yt
    obtain ⟨bs,bE,bF,bG,ak,am,ao⟩:=at_L2 bn.out aa aJ aK
    cases bG
    replace ak:=yhx HB ak
    have az:=zm ao;have bl:=zm am;clear ao am
    replace aJ:=eq_true aJ
    replace aK:=eq_true aK
    go_wp2
    go_ret
    exact ⟨ye,yhb⟩
   rw [if_neg c13] at H
   have bp:=yG c13
   clear c13
   obtain rfl:=Option.some.inj H
   go_wp2
   go_ret
   exact ⟨ye,yhb⟩
def gain_put.j0 : Nat→Int→Int→Bool→Int→Int→List Int→Option (Int × Int × List Int × Int)
 | 0,_,_,_,_,_,_=>none
 | k+1,x1,x10,x23,aE,aG,aH=>if x23=true then ((coder_Put.f k aE aG aH (wrap64 (x10+3)) (wrap64 ((wrap64 (x10+3))+1)) 8).bind fun aI=>(some (aI.1,aI.2.1,aI.2.2.1,aI.2.2.2))) else ((coder_Put.f k aE aG aH 7 8 8).bind fun au=>(if au.2.2.2=0 then ((coder_PutNum.f k au.1 au.2.1 au.2.2.1 (IntKind.u64.wrap (x1)) 45).bind fun aJ=>(some (aJ.1,aJ.2.1,aJ.2.2.1,aJ.2.2.2))) else (some (au.1,au.2.1,au.2.2.1,au.2.2.2))))
def gain_put.f (k : Nat) (ai : Int) (aj : Int) (ae : List Int) (a1 : Int) (a2 : Int) (a3 : Bool) : Option (Int × Int × List Int × Int):=if a3=true then ((coder_PutNum.f k ai aj ae (IntKind.u64.wrap (a1)) 45).bind fun aK=>(some (aK.1,aK.2.1,aK.2.2.1,aK.2.2.2))) else (if (wrap64 (a1 - a2)) ≥ (-3) then (gain_put.j0 k a1 (wrap64 (a1 - a2)) (decide ((wrap64 (a1 - a2))≤3)) ai aj ae) else (gain_put.j0 k a1 (wrap64 (a1 - a2)) false ai aj ae))
theorem gain_put.mono_l : ∀ k,(∀ y0 y1 y2 y3 y4 y5,LeO (gain_put.j0 k y0 y1 y2 y3 y4 y5) (gain_put.j0 (k+1) y0 y1 y2 y3 y4 y5))
 | 0=>fun _ _ _ _ _ _ r h=>by simp [gain_put.j0] at h
 | k+1=>by
  have ih0:=gain_put.mono_l k
  ·
   intro y0 y1 y2 y3 y4 y5
   unfold gain_put.j0
   repeat' with_reducible first|apply ih0|apply coder_Put.mono|apply coder_PutNum.mono|apply yLr|apply yLn|apply yLi|apply yLb|intro _
theorem gain_put.mono : ∀ a0 a1 a2 a3 a4 a5 k,LeO (gain_put.f k a0 a1 a2 a3 a4 a5) (gain_put.f (k+1) a0 a1 a2 a3 a4 a5):=by
 intro a0 a1 a2 a3 a4 a5 k
 have ih0:=gain_put.mono_l k
 unfold gain_put.f
 repeat' with_reducible first|apply ih0|apply coder_Put.mono|apply coder_PutNum.mono|apply yLr|apply yLn|apply yLi|apply yLb|intro _
set_option maxHeartbeats 8000000 in
set_option maxRecDepth 100000 in
theorem gain_put.calls (k : Nat) (ai : Int) (aj : Int) (aw : Option Addr) (ax : Nat) (ae : List Int) (a1 : Int) (a2 : Int) (a3 : Bool) (r1 : Int) (r2 : Int) (r3 : List Int) (r4 : Int) (w : World) (hr0_2 : Kd.C (Kd.int .u8) w aw ae.length ae) (hc0_2 : ae.length≤ax) (h : gain_put.f k ai aj ae a1 a2 a3=some (r1,r2,r3,r4)) :
  Calls Try.prog 67 #[.agg #[.int .u64 ai, .int .u32 aj, .slice aw ae.length ax], .int .i64 a1, .int .i64 a2, .bool a3] w fun e w' => ∃ v2_ : Value,e=.returned (.tuple #[.agg #[.int .u64 r1, .int .u32 r2,v2_], .int .i64 r4])∧Kd.R (Kd.int .u8) 5 w' w.heap.size (fun _=>True) v2_ r3∧Below w.heap.size w w' := by
 have hu54:=Try.underlying54;have aM:=zm hr0_2;have aN:=zm hc0_2;clear hr0_2 hc0_2;have HB:=zm (Below.refl w.heap.size w);have H:=h
 unfold gain_put.f at H
 clear h
 by_cases c5 : a3=true
 ·
  subst c5
  rw [if_pos rfl] at H
  obtain ⟨⟨bm,bn,bo,bH⟩,A6,H⟩:=ybi H
  try dsimp only at H
  simp only [Option.some.injEq,Prod.mk.injEq] at H
  obtain ⟨rfl,rfl,rfl,rfl⟩:=H
  go_enter Try.func67,Try.ntmps67
  go_wp2_with (first|((with_reducible refine gate_dst (N:=4) rfl ?_);refine ybx 4 #[.int .u64 ai, .int .u32 aj, .slice aw ae.length ax] 54 ?_;intro aQ hg w7 hbox hb;have aa:=zm (hbox);have bp:=ygw hg;have bq:=ygw hg;replace HB:=ybs hb;clear hb hbox hg)|((with_reducible refine gate_dst (N:=8) rfl ?_);refine ybx 8 #[.int .u64 0, .int .u32 0, .slice none 0 0] 54 ?_;intro av hg w8 hbox hb;have ac:=zm (hbox);have br:=ygw hg;have bs:=ygw hg;replace HB:=ybs hb;have af:=ynl aa hg;have ag:=yng aa hg;replace aa:=ybb aa hb;clear hb hbox hg;have:=af.out;have:=ag.out;obtain ⟨aT,aU,aV,aW,aX,aY⟩:=yc3 aa)|((with_reducible refine gate_callee (f:=34) rfl ?_);refine ygl 46 Try.func34 #[.agg #[.int .u64 ai, .int .u32 aj, .slice aw ae.length ax], .int .u64 (IntKind.u64.wrap (a1)), .int .u64 45] ?_;(with_reducible refine (coder_PutNum.calls k ai aj _ _ ae (IntKind.u64.wrap (a1)) 45 bm bn bo bH _ ?ak aN.out A6.out).mono ?_);(case ak=>exact ycb aM);rintro e w11 ⟨bY,rfl,ho0,hb⟩;refine ⟨_,rfl, ?_⟩;have bf:=zm (Kd.R_lower ho0 (zE yhb));replace aa:=ybb aa hb;replace ac:=ybb ac hb;replace HB:=ybs hb;(try clear hb);(try clear ho0);obtain ⟨aZ,a7,a8,a9,ba,bb⟩:=yc3 ac;obtain ⟨bI,bJ,bK⟩:=Kd.R_slice bf.out;subst bK))
  refine bodyPost_ret (results_ct rfl _ _ av 54 #[.int .u64 bm, .int .u32 bn, .slice bI bo.length bJ] (0,0) _ rfl (ykp ac) Try.underlying54 rfl (by kernel_rfl)) rfl ?_
  exact ⟨_,ye,yR1 bf ac,yhb⟩
 replace c5:=Bool.eq_false_iff.mpr c5
 subst c5
 rw [ynf] at H
 have bj:=zm H;clear H
 go_enter Try.func67,Try.ntmps67
 go_upto_region 3 with (first|((with_reducible refine gate_dst (N:=4) rfl ?_);refine ybx 4 #[.int .u64 ai, .int .u32 aj, .slice aw ae.length ax] 54 ?_;intro aQ hg w15 hbox hb;have aa:=zm (hbox);have bp:=ygw hg;have bq:=ygw hg;replace HB:=ybs hb;clear hb hbox hg)|((with_reducible refine gate_dst (N:=8) rfl ?_);refine ybx 8 #[.int .u64 0, .int .u32 0, .slice none 0 0] 54 ?_;intro av hg w16 hbox hb;have ac:=zm (hbox);have br:=ygw hg;have bs:=ygw hg;replace HB:=ybs hb;have af:=ynl aa hg;have ag:=yng aa hg;replace aa:=ybb aa hb;clear hb hbox hg))
 (try simp only [Act.put,List.setIfInBounds_toArray,List.set_cons_zero,List.set_cons_succ])
 go_cut [23] (fun v23 wc => ∃ (kq : Nat) (ay : Bool),v23=.bool ay∧Aside0 (gain_put.j0 kq a1 (wrap64 (a1 - a2)) ay ai aj ae=some (r1,r2,r3,r4))∧Aside0 (kq≤k)∧Aside0 (wc.heap[aQ]? = some (.cells #[.int .u64 ai, .int .u32 aj,(.slice aw ae.length ax)] 54 (0,0)))∧Aside0 (wc.heap[av]? = some (.cells #[.int .u64 0, .int .u32 0,(.slice none 0 0)] 54 (0,0)))∧Aside0 (Below w.heap.size w wc))
 case first =>
  have H:=bj.out;clear bj
  by_cases c17 : (wrap64 (a1 - a2)) ≥ (-3)
  ·
   rw [if_pos c17] at H
   have az:=yDl c17
   clear c17
   (first|rw [az]|(simp only [i64_w,i32_w];rw [az])|skip)
   have H' := zm H
   clear H
   go_wp2
   go_meet
   case rel=>exact ⟨_,(decide ((wrap64 (a1 - a2))≤3)),yq,H',⟨yo⟩,⟨yk aa⟩,⟨yk ac⟩,⟨yhb⟩⟩
  rw [if_neg c17] at H
  have az:=yGl c17
  clear c17
  (first|rw [az]|(simp only [i64_w,i32_w];rw [az])|skip)
  have H' := zm H
  clear H
  go_wp2
  go_meet
  case rel=>exact ⟨_,(false),yq,H',⟨yo⟩,⟨yk aa⟩,⟨yk ac⟩,⟨yhb⟩⟩
 case rest =>
  clear bj
  try clear aT
  try clear aU
  try clear aV
  try clear aZ
  try clear a7
  try clear a8
  try clear aW
  try clear aX
  try clear aY
  try clear a9
  try clear ba
  try clear bb
  obtain ⟨kq,ay,rfl,HA,bZ,aa,ac,HB⟩:=hcut
  obtain ⟨bc,rfl⟩:=ysu kq (fun h=>by subst h;exact absurd HA.out (by simp [gain_put.j0]))
  have H:=HA.out;clear HA
  simp only [gain_put.j0] at H
  by_cases c18 : ay=true
  ·
   subst c18
   rw [if_pos rfl] at H
   obtain ⟨⟨bv,bw,bx,bL⟩,A19,H⟩:=ybi H
   try dsimp only at H
   simp only [Option.some.injEq,Prod.mk.injEq] at H
   obtain ⟨rfl,rfl,rfl,rfl⟩:=H
   have:=af.out
   have:=ag.out
   obtain ⟨_,_,_,_,_,_⟩:=yc3 aa
   go_wp2_with (first|((with_reducible refine gate_callee (f:=26) rfl ?_);refine ygl 30 Try.func26 #[.agg #[.int .u64 ai, .int .u32 aj, .slice aw ae.length ax], .int .i64 (wrap64 ((wrap64 (a1 - a2))+3)), .int .i64 (wrap64 ((wrap64 ((wrap64 (a1 - a2))+3))+1)), .int .i64 8] ?_;(with_reducible refine (coder_Put.calls bc ai aj _ _ ae (wrap64 ((wrap64 (a1 - a2))+3)) (wrap64 ((wrap64 ((wrap64 (a1 - a2))+3))+1)) 8 bv bw bx bL _ ?ak aN.out A19.out).mono ?_);(case ak=>exact ycb aM);rintro e w22 ⟨b4,rfl,ho0,hb⟩;refine ⟨_,rfl, ?_⟩;have bg:=zm (Kd.R_lower ho0 (zE yhb));replace aa:=ybb aa hb;replace ac:=ybb ac hb;replace HB:=ybs hb;(try clear hb);(try clear ho0);obtain ⟨_,_,_,_,_,_⟩:=yc3 ac;obtain ⟨bM,bN,bO⟩:=Kd.R_slice bg.out;subst bO))
   refine bodyPost_ret (results_ct rfl _ _ av 54 #[.int .u64 bv, .int .u32 bw, .slice bM bx.length bN] (0,0) _ rfl (ykp ac) Try.underlying54 rfl (by kernel_rfl)) rfl ?_
   exact ⟨_,ye,yR1 bg ac,yhb⟩
  replace c18:=Bool.eq_false_iff.mpr c18
  subst c18
  rw [ynf] at H
  obtain ⟨⟨aC,aD,aA,bk⟩,A25,H⟩:=ybi H
  try dsimp only at H
  by_cases c26 : bk=0
  ·
   rw [if_pos c26] at H
   obtain ⟨bz,bA⟩:=yE c26
   clear c26
   obtain ⟨⟨bB,bC,bD,bP⟩,A27,H⟩:=ybi H
   try dsimp only at H
   simp only [Option.some.injEq,Prod.mk.injEq] at H
   obtain ⟨rfl,rfl,rfl,rfl⟩:=H
   have:=af.out
   have:=ag.out
   obtain ⟨_,_,_,_,_,_⟩:=yc3 aa
   go_wp2_with (first|((with_reducible refine gate_callee (f:=26) rfl ?_);refine ygl 35 Try.func26 #[.agg #[.int .u64 ai, .int .u32 aj, .slice aw ae.length ax], .int .i64 7, .int .i64 8, .int .i64 8] ?_;(with_reducible refine (coder_Put.calls bc ai aj _ _ ae 7 8 8 aC aD aA bk _ ?ak aN.out A25.out).mono ?_);(case ak=>exact ycb aM);rintro e w30 ⟨bQ,rfl,ho0,hb⟩;refine ⟨_,rfl, ?_⟩;have ah:=zm (Kd.R_lower ho0 (zE yhb));replace aa:=ybb aa hb;replace ac:=ybb ac hb;replace HB:=ybs hb;(try clear hb);(try clear ho0))|((with_reducible refine gate_dst (N:=11) rfl ?_);refine ybx 11 #[.int .u64 0, .int .u32 0, .slice none 0 0] 54 ?_;intro bh hg w31 hbox hb;replace ah:=yRb ah hb;have al:=zm (hbox);have bE:=ygw hg;have bF:=ygw hg;replace HB:=ybs hb;have am:=ynl aa hg;have ao:=yng aa hg;replace aa:=ybb aa hb;have ap:=ynl ac hg;have aq:=yng ac hg;replace ac:=ybb ac hb;clear hb hbox hg;have:=ao.out;have:=am.out;have:=aq.out;have:=ap.out;obtain ⟨_,_,_,_,_,_⟩:=yc3 al;obtain ⟨bl,bd,bR⟩:=Kd.R_slice ah.out;subst bR;obtain ⟨_,_,_,_,_,_⟩:=yc3 aa)|((with_reducible refine gate_callee (f:=34) rfl ?_);refine ygl 46 Try.func34 #[.agg #[.int .u64 aC, .int .u32 aD, .slice bl aA.length bd], .int .u64 (IntKind.u64.wrap (a1)), .int .u64 45] ?_;(with_reducible refine (coder_PutNum.calls bc aC aD _ _ aA (IntKind.u64.wrap (a1)) 45 bB bC bD bP _ ?ak ?bG A27.out).mono ?_);(case ak=>refine (Kd.R_reads' (e:=5) (base:=w.heap.size) (ok:=fun k_=>True) (n:=aA.length) (c:=bd) ?_).2.2;exact (yR2 ah al aa));(case bG=>exact (Kd.R_reads' ah.out).2.1);rintro e w37 ⟨b5,rfl,ho0,hb⟩;refine ⟨_,rfl, ?_⟩;have bi:=zm (Kd.R_lower (Kd.R_new' ho0 (Kd.R_lt (yR2 ah al aa))) (zE yhb));replace ah:=zm (Kd.R_elder' (yR2 ah al aa) (Kd.R_base ho0) hb);replace aa:=zm (zF (g:=aQ) (o:=.cells #[.int .u64 aC, .int .u32 aD, .slice bl aA.length bd] 54 (0,0)) (ykp aa) hb);replace ac:=ybb ac hb;replace al:=zm (zF (g:=bh) (o:=.cells #[.int .u64 aC, .int .u32 aD, .slice bl aA.length bd] 54 (0,0)) (ykp al) hb);replace HB:=ybs hb;(try clear hb);(try clear ho0);obtain ⟨_,_,_,_,_,_⟩:=yc3 ac;obtain ⟨bS,bT,bU⟩:=Kd.R_slice bi.out;subst bU))
   refine bodyPost_ret (results_ct rfl _ _ av 54 #[.int .u64 bB, .int .u32 bC, .slice bS bD.length bT] (0,0) _ rfl (ykp ac) Try.underlying54 rfl (by kernel_rfl)) rfl ?_
   exact ⟨_,ye,yR1 bi ac,yhb⟩
  rw [if_neg c26] at H
  obtain ⟨bz,bA⟩:=yF c26
  simp only [Option.some.injEq,Prod.mk.injEq] at H
  obtain ⟨rfl,rfl,rfl,rfl⟩:=H
  have:=af.out
  have:=ag.out
  obtain ⟨_,_,_,_,_,_⟩:=yc3 aa
  go_wp2_with (first|((with_reducible refine gate_callee (f:=26) rfl ?_);refine ygl 35 Try.func26 #[.agg #[.int .u64 ai, .int .u32 aj, .slice aw ae.length ax], .int .i64 7, .int .i64 8, .int .i64 8] ?_;(with_reducible refine (coder_Put.calls bc ai aj _ _ ae 7 8 8 aC aD aA bk _ ?ak aN.out A25.out).mono ?_);(case ak=>exact ycb aM);rintro e w42 ⟨bQ,rfl,ho0,hb⟩;refine ⟨_,rfl, ?_⟩;have ah:=zm (Kd.R_lower ho0 (zE yhb));replace aa:=ybb aa hb;replace ac:=ybb ac hb;replace HB:=ybs hb;(try clear hb);(try clear ho0))|((with_reducible refine gate_dst (N:=11) rfl ?_);refine ybx 11 #[.int .u64 0, .int .u32 0, .slice none 0 0] 54 ?_;intro bh hg w43 hbox hb;replace ah:=yRb ah hb;have al:=zm (hbox);have bE:=ygw hg;have bF:=ygw hg;replace HB:=ybs hb;have am:=ynl aa hg;have ao:=yng aa hg;replace aa:=ybb aa hb;have ap:=ynl ac hg;have aq:=yng ac hg;replace ac:=ybb ac hb;clear hb hbox hg;have:=ao.out;have:=am.out;have:=aq.out;have:=ap.out;obtain ⟨_,_,_,_,_,_⟩:=yc3 al;obtain ⟨bV,bW,bX⟩:=Kd.R_slice ah.out;subst bX;obtain ⟨_,_,_,_,_,_⟩:=yc3 ac))
  refine bodyPost_ret (results_ct rfl _ _ av 54 #[.int .u64 aC, .int .u32 aD, .slice bV aA.length bW] (0,0) _ rfl (ykp ac) Try.underlying54 rfl (by kernel_rfl)) rfl ?_
  exact ⟨_,ye,yR2 ah al ac,yhb⟩
mutual
def gain_Put.j0 : Nat→List Int→List Int→Bool→Bool→Int→Int→List Int→Int→Int→List Int→Option (Int × Int × List Int × Int)
 | 0,_,_,_,_,_,_,_,_,_,_=>none
 | k+1,x1,x2,x3,x33,cj,ck,cl,aY,aZ,a7=>if x33=true then (some (aY,aZ,a7,1)) else (gain_Put.l0 k x1 x2 x3 0 aY aZ a7 cj ck cl)
def gain_Put.l0 : Nat→List Int→List Int→Bool→Int→Int→Int→List Int→Int→Int→List Int→Option (Int × Int × List Int × Int)
 | 0,_,_,_,_,_,_,_,_,_,_=>none
 | k+1,x1,x2,x3,x36,aY,aZ,a7,br,bs,bv=>if x36 < 5 then (if x3=true then (gain_Put.j2 k x1 x2 x3 x36 0 x36 aY aZ a7 br bs bv) else (if 0≤x36 then (if x36 < (x2.length : Int) then (gain_Put.j2 k x1 x2 x3 x36 (rd x2 x36) x36 aY aZ a7 br bs bv) else (none)) else (none))) else (some (br,bs,bv,0))
def gain_Put.j2 : Nat→List Int→List Int→Bool→Int→Int→Int→Int→Int→List Int→Int→Int→List Int→Option (Int × Int × List Int × Int)
 | 0,_,_,_,_,_,_,_,_,_,_,_,_=>none
 | k+1,x1,x2,x3,x13,x14,x36,aY,aZ,a7,br,bs,bv=>if 0≤x13 then (if x13 < (x1.length : Int) then ((gain_put.f k br bs bv (rd x1 x13) x14 x3).bind fun bN=>(if bN.2.2.2=0 then (gain_Put.l0 k x1 x2 x3 (wrap64 (x36+1)) aY aZ a7 bN.1 bN.2.1 bN.2.2.1) else (some (aY,aZ,a7,bN.2.2.2)))) else (none)) else (none)
end
def gain_Put.f (k : Nat) (bd : Int) (bf : Int) (aJ : List Int) (l1 : List Int) (l2 : List Int) (a3 : Bool) : Option (Int × Int × List Int × Int):=(coder_Put.f k bd bf aJ 0 1 0).bind fun bw=>((gain_Right.f k l1).bind fun da=>(if da=true then (if a3=true then (gain_Put.j0 k l1 l2 a3 false bd bf aJ bw.1 bw.2.1 bw.2.2.1) else ((gain_Right.f k l2).bind fun cm=>(gain_Put.j0 k l1 l2 a3 (!cm) bd bf aJ bw.1 bw.2.1 bw.2.2.1))) else (gain_Put.j0 k l1 l2 a3 true bd bf aJ bw.1 bw.2.1 bw.2.2.1)))
theorem gain_Put.mono_l : ∀ k,(∀ y0 y1 y2 y3 y4 y5 y6 y7 y8 y9,LeO (gain_Put.j0 k y0 y1 y2 y3 y4 y5 y6 y7 y8 y9) (gain_Put.j0 (k+1) y0 y1 y2 y3 y4 y5 y6 y7 y8 y9))∧(∀ y0 y1 y2 y3 y4 y5 y6 y7 y8 y9,LeO (gain_Put.l0 k y0 y1 y2 y3 y4 y5 y6 y7 y8 y9) (gain_Put.l0 (k+1) y0 y1 y2 y3 y4 y5 y6 y7 y8 y9))∧(∀ y0 y1 y2 y3 y4 y5 y6 y7 y8 y9 y10 y11,LeO (gain_Put.j2 k y0 y1 y2 y3 y4 y5 y6 y7 y8 y9 y10 y11) (gain_Put.j2 (k+1) y0 y1 y2 y3 y4 y5 y6 y7 y8 y9 y10 y11))
 | 0=>⟨fun _ _ _ _ _ _ _ _ _ _ r h=>by simp [gain_Put.j0] at h,fun _ _ _ _ _ _ _ _ _ _ r h=>by simp [gain_Put.l0] at h,fun _ _ _ _ _ _ _ _ _ _ _ _ r h=>by simp [gain_Put.j2] at h⟩
 | k+1=>by
  obtain ⟨ih0,ih1,ih2⟩:=gain_Put.mono_l k
  refine ⟨?_, ?_, ?_⟩
  ·
   intro y0 y1 y2 y3 y4 y5 y6 y7 y8 y9
   unfold gain_Put.j0
   repeat' with_reducible first|apply ih0|apply ih1|apply ih2|apply coder_Put.mono|apply gain_Right.mono|apply gain_put.mono|apply yLr|apply yLn|apply yLi|apply yLb|intro _
  ·
   intro y0 y1 y2 y3 y4 y5 y6 y7 y8 y9
   unfold gain_Put.l0
   repeat' with_reducible first|apply ih0|apply ih1|apply ih2|apply coder_Put.mono|apply gain_Right.mono|apply gain_put.mono|apply yLr|apply yLn|apply yLi|apply yLb|intro _
  intro y0 y1 y2 y3 y4 y5 y6 y7 y8 y9 y10 y11
  unfold gain_Put.j2
  repeat' with_reducible first|apply ih0|apply ih1|apply ih2|apply coder_Put.mono|apply gain_Right.mono|apply gain_put.mono|apply yLr|apply yLn|apply yLi|apply yLb|intro _
theorem gain_Put.mono : ∀ a0 a1 a2 a3 a4 a5 k,LeO (gain_Put.f k a0 a1 a2 a3 a4 a5) (gain_Put.f (k+1) a0 a1 a2 a3 a4 a5):=by
 intro a0 a1 a2 a3 a4 a5 k
 obtain ⟨ih0,ih1,ih2⟩:=gain_Put.mono_l k
 unfold gain_Put.f
 repeat' with_reducible first|apply ih0|apply ih1|apply ih2|apply coder_Put.mono|apply gain_Right.mono|apply gain_put.mono|apply yLr|apply yLn|apply yLi|apply yLb|intro _
def gain_Put.T11 : Bool × List (List Nat × List Nat):=(true, [([], []),([], []),([], []),([1,2], [1,2]),([3], [3]),([], []),([], []),([0,4,5,6], [0,4,5,6]),([7], [7]),([8], [8]),([8], [8]),([], []),([11,9,7,0,1,2,3,4,5,6,7,8,9,11], [9,11]),([10,12,0,1,2,3,4,5,6,7,8,9,10,11,12], [10])])
def gain_Put.B11 : List Nat := [0,0,0,6,14,0,0,127,255,511,511,0,3071,8191]
theorem gain_Put.tab11 : rtab .any (opsOf Try.f28 11)=gain_Put.T11:=by kernel_rfl
theorem gain_Put.bits11 : waitsOk gain_Put.T11.2 gain_Put.B11=true:=by kernel_rfl
set_option maxHeartbeats 8000000 in
set_option maxRecDepth 100000 in
theorem gain_Put.calls (k : Nat) (bd : Int) (bf : Int) (aU : Nat→Prop) (a8 : Option Addr) (a9 : Nat) (aJ : List Int) (A1 : Option Addr) (c1 : Nat) (l1 : List Int) (A2 : Option Addr) (c2 : Nat) (l2 : List Int) (a3 : Bool) (r1 : Int) (r2 : Int) (r3 : List Int) (r4 : Int) (w : World) (dh : Kd.V (Kd.int .u8) 5 w w.heap.size (fun k_=>aU k_) (.slice a8 aJ.length a9) aJ) (hr1 : Kd.C (Kd.int .i64) w A1 l1.length l1) (hc1 : l1.length≤c1) (hr2 : Kd.C (Kd.int .i64) w A2 l2.length l2) (hc2 : l2.length≤c2) (h : gain_Put.f k bd bf aJ l1 l2 a3=some (r1,r2,r3,r4)) :
  Calls Try.prog 28 #[.agg #[.int .u64 bd, .int .u32 bf, .slice a8 aJ.length a9], .slice A1 l1.length c1, .slice A2 l2.length c2, .bool a3] w fun e w' => ∃ v2_ : Value,e=.returned (.tuple #[.agg #[.int .u64 r1, .int .u32 r2,v2_], .int .i64 r4])∧Kd.V (Kd.int .u8) 5 w' w.heap.size (fun k_=>(aU k_∨w.heap.size≤k_)) v2_ r3∧Below w.heap.size w w' := by
 have hu54:=Try.underlying54
 have ba:=zm (show Kd.V (Kd.int .u8) 5 w w.heap.size (fun k_=>(aU k_∨w.heap.size≤k_)) (.slice a8 aJ.length a9) aJ from zy dh (fun k_ hk => .inl hk))
 have HR1:=zm hr1;have HC1:=zm hc1;clear hr1 hc1;have HR2:=zm hr2;have HC2:=zm hc2;clear hr2 hc2;have HB:=zm (Below.refl w.heap.size w);have H:=h
 unfold gain_Put.f at H
 clear h
 obtain ⟨⟨bp,bq,aE,dp⟩,A5,H⟩:=ybi H
 try dsimp only at H
 have HC6:=zm H;clear H
 go_enter Try.func28,Try.ntmps28
 go_upto_region 2 with (first|((with_reducible refine gate_dst (N:=4) rfl ?_);refine ybx 4 #[.int .u64 bd, .int .u32 bf, .slice a8 aJ.length a9] 54 ?_;intro aG hg w7 hbox hb;replace ba:=yVe ba hg hb;have aj:=zm (hbox);have dA:=ygw hg;have dB:=ygw hg;replace HB:=ybs hb;clear hb hbox hg)|((with_reducible refine gate_dst (N:=8) rfl ?_);refine ybx 8 #[.int .u64 0, .int .u32 0, .slice none 0 0] 54 ?_;intro aC hg w8 hbox hb;replace ba:=yVe ba hg hb;have ai:=zm (hbox);have dC:=ygw hg;have dD:=ygw hg;replace HB:=ybs hb;have bb:=ynl aj hg;have bc:=yng aj hg;replace aj:=ybb aj hb;clear hb hbox hg;have:=bb.out;have:=bc.out;obtain ⟨cn,co,cp,cq,cr,ct⟩:=yc3 aj)|((with_reducible refine gate_callee (f:=26) rfl ?_);refine ygl 19 Try.func26 #[.agg #[.int .u64 bd, .int .u32 bf, .slice a8 aJ.length a9], .int .i64 0, .int .i64 1, .int .i64 0] ?_;(with_reducible refine (coder_Put.calls k bd bf _ _ aJ 0 1 0 bp bq aE dp _ ?aT ?bx A5.out).mono ?_);(case aT=>exact yce (Kd.V_reads' ba.out).2.2);(case bx=>exact (Kd.V_reads' ba.out).2.1);rintro e w11 ⟨dM,rfl,ho0,hb⟩;refine ⟨_,rfl, ?_⟩;replace ba:=zm (Kd.V_elder' (yr ba) (Kd.R_base ho0) hb);have bI:=zm (Kd.R_lower (Kd.R_newM (M:=fun k_=>(w.heap.size≤k_)) ho0 (zE yhb) (fun k_ h_=>h_)) (zE yhb));replace aj:=ybb aj hb;replace ai:=ybb ai hb;replace HB:=ybs hb;(try clear hb);(try clear ho0))|((with_reducible refine gate_dst (N:=10) rfl ?_);refine ybx 10 #[.int .u64 0, .int .u32 0, .slice none 0 0] 54 ?_;intro aH hg w12 hbox hb;replace ba:=yVe ba hg hb;replace bI:=yRb bI hb;have ak:=zm (hbox);have dE:=ygw hg;have dF:=ygw hg;replace HB:=ybs hb;have bh:=ynl aj hg;have bi:=yng aj hg;replace aj:=ybb aj hb;have bj:=ynl ai hg;have bk:=yng ai hg;replace ai:=ybb ai hb;clear hb hbox hg;have:=bi.out;have:=bh.out;have:=bk.out;have:=bj.out;obtain ⟨cu,cv,cw,cx,cy,cz⟩:=yc3 ak;obtain ⟨aK,aM,dq⟩:=Kd.R_slice bI.out;subst dq))
 (try simp only [Act.put,List.setIfInBounds_toArray,List.set_cons_zero,List.set_cons_succ])
 go_cut [33] (fun v33 wc => ∃ (kq : Nat) (bQ : Bool),v33=.bool bQ∧Aside0 (gain_Put.j0 kq l1 l2 a3 bQ bd bf aJ bp bq aE=some (r1,r2,r3,r4))∧Aside0 (kq≤k)∧Aside0 (Kd.V (Kd.int .u8) 5 wc w.heap.size (fun k_=>(aU k_∨w.heap.size≤k_)∧some k_≠((.slice aK aE.length aM) : Value).ownBlock∧k_≠aG∧k_≠aC∧k_≠aH) (.slice a8 aJ.length a9) aJ)∧Aside0 (Kd.R (Kd.int .u8) 5 wc w.heap.size (fun k_=>(w.heap.size≤k_)) (.slice aK aE.length aM) aE)∧Aside0 (wc.heap[aG]? = some (.cells #[.int .u64 bd, .int .u32 bf,(.slice a8 aJ.length a9)] 54 (0,0)))∧Aside0 (wc.heap[aC]? = some (.cells #[.int .u64 0, .int .u32 0,(.slice none 0 0)] 54 (0,0)))∧Aside0 (wc.heap[aH]? = some (.cells #[.int .u64 bp, .int .u32 bq,(.slice aK aE.length aM)] 54 (0,0)))∧Aside0 (Below w.heap.size w wc))
 case first =>
  have H:=HC6.out;clear HC6
  obtain ⟨da,A17,H⟩:=ybi H
  by_cases c18 : da=true
  ·
   subst c18
   rw [if_pos rfl] at H
   by_cases c19 : a3=true
   ·
    subst c19
    rw [if_pos rfl] at H
    have H' := zm H
    clear H
    go_wp2_with (first|((with_reducible refine gate_callee (f:=62) rfl ?_);refine ygl 23 Try.func62 #[.slice A1 l1.length c1] ?_;(with_reducible refine (gain_Right.calls k _ _ l1 true _ ?aT HC1.out A17.out).mono ?_);(case aT=>exact Kd.C_below HR1.out yhb);rintro e w' ⟨rfl,⟨nd,rfl⟩⟩;refine ⟨_,rfl, ?_⟩))
    go_meet
    case rel=>exact ⟨_,(false),yq,H',⟨yo⟩,⟨yV0 ba⟩,⟨yR1 bI ak⟩,⟨yk aj⟩,⟨yk ai⟩,⟨ykp ak⟩,⟨yhb⟩⟩
   replace c19:=Bool.eq_false_iff.mpr c19
   subst c19
   rw [ynf] at H
   obtain ⟨cm,A20,H⟩:=ybi H
   have H' := zm H
   clear H
   go_wp2_with (first|((with_reducible refine gate_callee (f:=62) rfl ?_);refine ygl 23 Try.func62 #[.slice A1 l1.length c1] ?_;(with_reducible refine (gain_Right.calls k _ _ l1 true _ ?aT HC1.out A17.out).mono ?_);(case aT=>exact Kd.C_below HR1.out yhb);rintro e w' ⟨rfl,⟨nd,rfl⟩⟩;refine ⟨_,rfl, ?_⟩)|(go_at_call 62;(with_reducible refine (gain_Right.calls k _ _ l2 cm _ ?aT HC2.out A20.out).mono ?_);(case aT=>exact Kd.C_below HR2.out yhb);rintro e w' ⟨rfl,⟨nd,rfl⟩⟩))
   go_meet
   case rel=>exact ⟨_,(!cm),yq,H',⟨yo⟩,⟨yV0 ba⟩,⟨yR1 bI ak⟩,⟨yk aj⟩,⟨yk ai⟩,⟨ykp ak⟩,⟨yhb⟩⟩
  replace c18:=Bool.eq_false_iff.mpr c18
  subst c18
  rw [ynf] at H
  have H' := zm H
  clear H
  go_wp2_with (first|((with_reducible refine gate_callee (f:=62) rfl ?_);refine ygl 23 Try.func62 #[.slice A1 l1.length c1] ?_;(with_reducible refine (gain_Right.calls k _ _ l1 false _ ?aT HC1.out A17.out).mono ?_);(case aT=>exact Kd.C_below HR1.out yhb);rintro e w' ⟨rfl,⟨nd,rfl⟩⟩;refine ⟨_,rfl, ?_⟩))
  go_meet
  case rel=>exact ⟨_,(true),yq,H',⟨yo⟩,⟨yV0 ba⟩,⟨yR1 bI ak⟩,⟨yk aj⟩,⟨yk ai⟩,⟨ykp ak⟩,⟨yhb⟩⟩
 case rest =>
  clear HC6
  try clear c1
  try clear c2
  try clear cn
  try clear co
  try clear cp
  try clear cu
  try clear cv
  try clear cw
  try clear cq
  try clear cr
  try clear ct
  try clear cx
  try clear cy
  try clear cz
  obtain ⟨kq,bQ,rfl,HA,HJ5,ae,ac,aj,ai,ak,HB⟩:=hcut
  obtain ⟨kj5,rfl⟩:=ysu kq (fun h=>by subst h;exact absurd HA.out (by simp [gain_Put.j0]))
  have H:=HA.out;clear HA
  simp only [gain_Put.j0] at H
  by_cases c21 : bQ=true
  ·
   subst c21
   rw [if_pos rfl] at H
   simp only [Option.some.injEq,Prod.mk.injEq] at H
   obtain ⟨rfl,rfl,rfl,rfl⟩:=H
   have:=bi.out
   have:=bh.out
   have:=bk.out
   have:=bj.out
   obtain ⟨cA,cB,cC,cD,cE,cF⟩:=yc3 ak
   have:=bc.out
   have:=bb.out
   obtain ⟨cG,cH,cI,cJ,cK,cL⟩:=yc3 ai
   go_wp2
   refine bodyPost_ret (results_ct rfl _ _ aC 54 #[.int .u64 bp, .int .u32 bq, .slice aK aE.length aM] (0,0) _ rfl (ykp ai) Try.underlying54 rfl (by kernel_rfl)) rfl ?_
   exact ⟨_,ye,zy (Kd.R_V (by (with_reducible repeat (first|apply zo|apply zp|apply zq));exact zG (zH (p:=⟨aC,2,none⟩) (zH (p:=⟨aC,1,none⟩) (zH (p:=⟨aC,0,none⟩) (Kd.R_types ac.out ai.out (by decide)) (fun _ hk=>hk.2) (.int .u64 bp)) (fun _ hk=>hk.2) (.int .u32 bq)) (fun _ hk=>hk.2) (.slice aK aE.length aM)) (fun _ hk=>hk.1))) (fun k_ hk=>by first|exact ⟨(.inr (hk.1)),hk.2⟩|exact (.inr (hk))),yhb⟩
  replace c21:=Bool.eq_false_iff.mpr c21
  subst c21
  rw [ynf] at H
  have H' := zm H
  clear H
  have:=bb.out
  have:=bc.out
  have:=bh.out
  have:=bi.out
  obtain ⟨cM,cN,cO,cP,cQ,cR⟩:=yc3 aj
  go_wp2_with (first|((with_reducible refine gate_dst (N:=12) rfl ?_);refine ybx 12 #[.int .u64 0, .int .u32 0, .slice none 0 0] 54 ?_;intro ap hg w30 hbox hb;replace ae:=yVe ae hg hb;replace ac:=yRb ac hb;have ao:=zm (hbox);have dG:=ygw hg;have dH:=ygw hg;replace HB:=ybs hb;have bD:=ynl aj hg;have bE:=yng aj hg;replace aj:=ybb aj hb;have bl:=ynl ai hg;have bm:=yng ai hg;replace ai:=ybb ai hb;have bn:=ynl ak hg;have bo:=yng ak hg;replace ak:=ybb ak hb;clear hb hbox hg;have:=bE.out;have:=bD.out;have:=bm.out;have:=bl.out;have:=bo.out;have:=bn.out;obtain ⟨cS,cT,cU,cV,cW,cX⟩:=yc3 ao))
  go_loopg [36] kj5 (fun kq v36 w' => ∃ (aq : Int) (aN : Int) (aQ : Int) (al : Int) (am : Int) (ag : List Int) (bz : Value),v36=.int .i64 aq∧Aside0 (gain_Put.l0 kq l1 l2 a3 aq bp bq aE al am ag=some (r1,r2,r3,r4))∧Aside0 (kq≤kj5)∧Aside0 (Kd.V (Kd.int .u8) 5 w' w.heap.size (fun k_=>(aU k_∨w.heap.size≤k_)∧some k_≠((.slice aK aE.length aM) : Value).ownBlock∧k_≠aG∧k_≠aC∧k_≠aH∧k_≠ap) (.slice a8 aJ.length a9) aJ)∧Aside0 (Kd.R (Kd.int .u8) 5 w' w.heap.size (fun k_=>(w.heap.size≤k_)) (.slice aK aE.length aM) aE)∧Aside0 (Kd.V (Kd.int .u8) 5 w' w.heap.size (fun k_=>(aU k_∨w.heap.size≤k_)∧some k_≠((.slice aK aE.length aM) : Value).ownBlock∧k_≠aG∧k_≠aC∧k_≠aH∧k_≠ap) bz ag)∧Aside0 (w'.heap[aG]? = some (.cells #[.int .u64 bd, .int .u32 bf,(.slice a8 aJ.length a9)] 54 (0,0)))∧Aside0 (w'.heap[aC]? = some (.cells #[.int .u64 aN, .int .u32 aQ,(.slice none 0 0)] 54 (0,0)))∧Aside0 (w'.heap[aH]? = some (.cells #[.int .u64 bp, .int .u32 bq,(.slice aK aE.length aM)] 54 (0,0)))∧Aside0 (w'.heap[ap]? = some (.cells #[.int .u64 al, .int .u32 am,bz] 54 (0,0)))∧Aside0 (Below w.heap.size w w'))
  case atStart=>exact ⟨(0),(0),(0),(bd),(bf),(aJ),(.slice a8 aJ.length a9),yq,H',⟨Nat.le_refl _⟩,⟨yV0 ae⟩,⟨yR1 ac ao⟩,⟨yV0 ae⟩,⟨yk aj⟩,⟨yk ai⟩,⟨yk ak⟩,⟨ykp ao⟩,⟨yhb⟩⟩
  case round =>
   clear H'
   try clear cA
   try clear cB
   try clear cC
   try clear cG
   try clear cH
   try clear cI
   try clear cM
   try clear cN
   try clear cO
   try clear cS
   try clear cT
   try clear cU
   try clear cD
   try clear cE
   try clear cF
   try clear cJ
   try clear cK
   try clear cL
   try clear cP
   try clear cQ
   try clear cR
   try clear cV
   try clear cW
   try clear cX
   obtain ⟨aq,aN,aQ,al,am,ag,bz,rfl,HA,HK2,ae,ac,aa,aj,ai,ak,ao,HB⟩:=hrel
   obtain ⟨k2,rfl⟩:=ysu gk (fun h=>by subst h;exact absurd HA.out (by simp [gain_Put.l0]))
   have H:=HA.out;clear HA
   simp only [gain_Put.l0] at H
   by_cases c35 : aq < 5
   ·
    rw [if_pos c35] at H
    have cY:=yD c35
    clear c35;have db:=zm H;clear H
    go_upto_if 40 with (fail)
    go_cut [14] (fun v14 wc => ∃ (kq : Nat) (aX : Int),v14=.int .i64 aX∧Aside0 (gain_Put.j2 kq l1 l2 a3 aq aX aq bp bq aE al am ag=some (r1,r2,r3,r4))∧Aside0 (kq≤k2)∧Aside0 (Kd.V (Kd.int .u8) 5 wc w.heap.size (fun k_=>(aU k_∨w.heap.size≤k_)∧some k_≠((.slice aK aE.length aM) : Value).ownBlock∧k_≠aG∧k_≠aC∧k_≠aH∧k_≠ap) (.slice a8 aJ.length a9) aJ)∧Aside0 (Kd.R (Kd.int .u8) 5 wc w.heap.size (fun k_=>(w.heap.size≤k_)) (.slice aK aE.length aM) aE)∧Aside0 (Kd.V (Kd.int .u8) 5 wc w.heap.size (fun k_=>(aU k_∨w.heap.size≤k_)∧some k_≠((.slice aK aE.length aM) : Value).ownBlock∧k_≠aG∧k_≠aC∧k_≠aH∧k_≠ap) bz ag)∧Aside0 (wc.heap[aG]? = some (.cells #[.int .u64 bd, .int .u32 bf,(.slice a8 aJ.length a9)] 54 (0,0)))∧Aside0 (wc.heap[aC]? = some (.cells #[.int .u64 aN, .int .u32 aQ,(.slice none 0 0)] 54 (0,0)))∧Aside0 (wc.heap[aH]? = some (.cells #[.int .u64 bp, .int .u32 bq,(.slice aK aE.length aM)] 54 (0,0)))∧Aside0 (wc.heap[ap]? = some (.cells #[.int .u64 al, .int .u32 am,bz] 54 (0,0)))∧Aside0 (Below w.heap.size w wc))
    case first =>
     have H:=db.out;clear db
     by_cases c37 : a3=true
     ·
      subst c37
      rw [if_pos rfl] at H
      have H' := zm H
      clear H
      go_wp2
      go_meet
      case rel=>exact ⟨_,(0),yq,H',⟨yom2 HJ5 HK2⟩,⟨yr ae⟩,⟨yr ac⟩,⟨yr aa⟩,⟨yk aj⟩,⟨yk ai⟩,⟨yk ak⟩,⟨yk ao⟩,⟨yhb⟩⟩
     replace c37:=Bool.eq_false_iff.mpr c37
     subst c37
     rw [ynf] at H
     obtain ⟨c38,H⟩:=yif H
     have cZ : decide (0≤aq)=true:=decide_eq_true c38
     clear c38
     (first|rw [cZ]|(simp only [i64_w,i32_w];rw [cZ])|skip)
     obtain ⟨c39,H⟩:=yif H
     have dI : decide (aq < (l2.length : Int))=true:=decide_eq_true c39
     clear c39
     have H' := zm H
     clear H
     have dc : 0≤(aq : Int):=yt
     have dd : aq < (l2.length : Int):=yt
     obtain ⟨dJ,dr,bR⟩:=Kd.at_int HR2.out aq dc dd
     cases dr
     replace bR:=yhx HB bR
     replace dc:=eq_true dc
     replace dd:=eq_true dd
     go_wp2
     go_meet
     case rel=>exact ⟨_,(rd l2 aq),yq,H',⟨yom2 HJ5 HK2⟩,⟨yr ae⟩,⟨yr ac⟩,⟨yr aa⟩,⟨yk aj⟩,⟨yk ai⟩,⟨yk ak⟩,⟨yk ao⟩,⟨yhb⟩⟩
    case rest =>
     clear db
     try clear cY
     obtain ⟨kq,aX,rfl,HA,di,ae,ac,aa,aj,ai,ak,ao,HB⟩:=hcut
     obtain ⟨bS,rfl⟩:=ysu kq (fun h=>by subst h;exact absurd HA.out (by simp [gain_Put.j2]))
     have H:=HA.out;clear HA
     simp only [gain_Put.j2] at H
     obtain ⟨c40,H⟩:=yif H
     have dK : decide (0≤aq)=true:=decide_eq_true c40
     clear c40
     obtain ⟨c41,H⟩:=yif H
     have dL : decide (aq < (l1.length : Int))=true:=decide_eq_true c41
     clear c41
     obtain ⟨⟨bA,bB,bF,bG⟩,A42,H⟩:=ybi H
     try dsimp only at H
     by_cases c43 : bG=0
     ·
      rw [if_pos c43] at H
      obtain ⟨dj,dk⟩:=yE c43
      clear c43
      have H' := zm H
      clear H
      obtain ⟨bJ,bK,dt⟩:=Kd.V_slice aa.out
      subst dt
      try go_wp2
      replace ae:=zm (zC ae.out)
      replace ac:=zm (zq ac.out)
      replace aa:=zm (zC aa.out)
      replace aj:=zm (zj aj.out)
      replace ai:=zm (zj ai.out)
      replace ak:=zm (zj ak.out)
      replace ao:=zm (zj ao.out)
      replace HB:=zm (zf HB.out)
      have bO : 0≤(aq : Int):=yt
      have bP : aq < (l1.length : Int):=yt
      obtain ⟨bH,de,aW⟩:=Kd.at_int HR1.out aq bO bP
      have hw279_0:=aW
      cases de
      replace aW:=yhx HB aW
      replace bO:=eq_true bO
      replace bP:=eq_true bP
      refine yst (fun w' => w'.cell? ⟨ap,0,none⟩=some (.int .u64 al)∧w'.cell? ⟨ap,1,none⟩=some (.int .u32 am)∧w'.cell? ⟨ap,2,none⟩=some (.slice bJ ag.length bK)∧w'.cell? (bH.add (aq).toNat)=some (.int .i64 (rd l1 aq))) [] 14 gain_Put.tab11 gain_Put.bits11 (fun hHeld HT_ HW_ => ?_)
      generalize wc.drew=w45 at ae ac aa aj ai ak ao HB aW hHeld ⊢
      refine yp 1 47 HT_ ?_
      refine yp 2 48 HT_ ?_
      refine yp 3 49 HT_ ?_
      refine yp 5 51 HT_ ?_
      refine yp 6 52 HT_ ?_
      refine yl 0 46 HT_ HW_ hHeld ?_
      refine yl 4 50 HT_ HW_ hHeld ?_
      refine join_ (σ:=Value × Nat) 2 #[true,true,true,true,true,true,true,true,true,true,true,true,false,false] (fun s_ => [(53, .tuple #[.agg #[.int .u64 bA, .int .u32 bB,s_.1], .int .i64 bG]),(15, .pointer (some ⟨s_.2,0,none⟩)),(45, .tuple #[.agg #[.int .u64 bA, .int .u32 bB,s_.1], .int .i64 bG]),(54, .agg #[.int .u64 bA, .int .u32 bB,s_.1]),(55, .int .i64 bG)]) (fun s_ w' => (w'.cell? ⟨ap,0,none⟩=some (.int .u64 al)∧w'.cell? ⟨ap,1,none⟩=some (.int .u32 am)∧w'.cell? ⟨ap,2,none⟩=some (.slice bJ ag.length bK)∧w'.cell? (bH.add (aq).toNat)=some (.int .i64 (rd l1 aq)))∧(Kd.R (Kd.int .u8) 5 w' w.heap.size (fun k_=>(w.heap.size≤k_)∧some k_≠(.slice aK aE.length aM : Value).ownBlock) s_.1 bF)∧(Kd.V (Kd.int .u8) 5 w' w.heap.size (fun k_=>(aU k_∨w.heap.size≤k_)∧some k_≠(s_.1 : Value).ownBlock∧some k_≠(.slice aK aE.length aM : Value).ownBlock∧k_≠aG∧k_≠aC∧k_≠aH∧k_≠ap∧k_≠s_.2) (.slice a8 aJ.length a9) aJ)∧(Kd.R (Kd.int .u8) 5 w' w.heap.size (fun k_=>(w.heap.size≤k_)∧some k_≠(s_.1 : Value).ownBlock) (.slice aK aE.length aM) aE)∧(Kd.V (Kd.int .u8) 5 w' w.heap.size (fun k_=>(aU k_∨w.heap.size≤k_)∧some k_≠(s_.1 : Value).ownBlock∧some k_≠(.slice aK aE.length aM : Value).ownBlock∧k_≠aG∧k_≠aC∧k_≠aH∧k_≠ap∧k_≠s_.2) (.slice bJ ag.length bK) ag)∧(w'.heap[aG]? = some (.cells #[.int .u64 bd, .int .u32 bf, .slice a8 aJ.length a9] 54 (0,0)))∧(w'.heap[aC]? = some (.cells #[.int .u64 aN, .int .u32 aQ, .slice none 0 0] 54 (0,0)))∧(w'.heap[aH]? = some (.cells #[.int .u64 bp, .int .u32 bq, .slice aK aE.length aM] 54 (0,0)))∧(w'.heap[ap]? = some (.cells #[.int .u64 al, .int .u32 am, .slice bJ ag.length bK] 54 (0,0)))∧(w'.heap[s_.2]? = some (.cells #[.int .u64 0, .int .u32 0, .slice none 0 0] 54 (0,0)))∧(w.heap.size≤s_.2)∧(w.heap.size≤s_.2)∧(aG≠s_.2)∧(s_.2≠aG)∧(aC≠s_.2)∧(s_.2≠aC)∧(aH≠s_.2)∧(s_.2≠aH)∧(ap≠s_.2)∧(s_.2≠ap)∧(Below w.heap.size w w')) ?_ ?_
      rotate_left
      ·
       intro hCont
       refine two_ (i:=7) (j:=11) (Ni:=some 53) (Nj:=some 15) #[true,true,true,true,true,true,true,true,false,false,false,false,false,false] #[true,true,true,true,true,true,true,false,false,false,false,true,false,false] rfl rfl rfl rfl (two_of HT_.out (by kernel_rfl)) (by decide) (by decide) (fun K hK => ?_) (fun K hK => ?_)
       ·
        skip
        refine ygs Try.func67 #[.agg #[.int .u64 al, .int .u32 am, .slice bJ ag.length bK], .int .i64 (rd l1 aq), .int .i64 aX, .bool a3] ?_
        with_reducible refine (gain_put.calls bS al am _ _ ag (rd l1 aq) aX a3 bA bB bF bG _ ?aT ?bx A42.out).mono ?_
        (case aT=>exact yce (Kd.V_reads' aa.out).2.2)
        (case bx=>exact (Kd.V_reads' aa.out).2.1)
        rintro e w46 ⟨bg,rfl,ho0,hb⟩
        refine ⟨_,rfl, ?_⟩
        replace ae:=zm (Kd.V_elder' (yr ae) (Kd.R_base ho0) hb)
        replace aa:=zm (Kd.V_elder' (yr aa) (Kd.R_base ho0) hb)
        have aV:=zm (Kd.R_lower (Kd.R_new' (Kd.R_newM (M:=fun k_=>(w.heap.size≤k_)) ho0 (zE yhb) (fun k_ h_=>h_)) (Kd.R_lt (yr ac))) (zE yhb))
        replace ac:=zm (Kd.R_elder' (yr ac) (Kd.R_base ho0) hb)
        replace aj:=ybb aj hb
        replace ai:=ybb ai hb
        replace ak:=ybb ak hb
        replace ao:=ybb ao hb
        replace HB:=ybs hb
        (try clear hb)
        (try clear ho0)
        refine hK.out _ _ yH (fun hHeld => ?_)
        clear hK K
        refine ym (some 53) ?_
        refine yp 8 45 HT_ ?_
        refine yp 9 54 HT_ ?_
        refine yp 10 55 HT_ ?_
        refine yw 11 15 HT_ (fun K hK => ?_)
        refine box_step ?hg (N:=15) ?hd (cs := #[.int .u64 0, .int .u32 0, .slice none 0 0]) (t:=54) ?hr ?_;(case hd=>rfl);(case hg=>rfl);(case hr=>first|(go_simp;done)|(go_simp;rfl))
        intro ah hg w47 hbox hb
        replace ae:=yVe ae hg hb
        replace ac:=yRb ac hb
        replace aa:=yVe aa hg hb
        replace aV:=yRb aV hb
        have aI:=zm (hbox)
        have aD:=ygw hg
        have bC:=ygw hg
        replace HB:=ybs hb
        have ay:=ynl aj hg
        have az:=yng aj hg
        replace aj:=ybb aj hb
        have au:=ynl ai hg
        have av:=yng ai hg
        replace ai:=ybb ai hb
        have aw:=ynl ak hg
        have ax:=yng ak hg
        replace ak:=ybb ak hb
        have af:=ynl ao hg
        have aA:=yng ao hg
        replace ao:=ybb ao hb
        clear hb hbox hg
        refine hK.out _ _ yH (fun hHeld => ?_)
        clear hK K
        refine ym (some 15) ?_
        exact norm_ (by simp only [putAll,Act.put,List.setIfInBounds_toArray,List.set_cons_zero,List.set_cons_succ]) (hCont (bg,ah) _ ⟨hHeld,(yR0 aV),(yV0 ae),(yr ac),(yV0 aa),(yk aj),(yk ai),(yk ak),(yk ao),(yk aI),aD.out,bC.out,ay.out,az.out,au.out,av.out,aw.out,ax.out,af.out,aA.out,yhb⟩)
       skip
       refine box_step ?hg (N:=15) ?hd (cs := #[.int .u64 0, .int .u32 0, .slice none 0 0]) (t:=54) ?hr ?_;(case hd=>rfl);(case hg=>rfl);(case hr=>first|(go_simp;done)|(go_simp;rfl))
       intro ah hg w46 hbox hb
       replace ae:=yVe ae hg hb
       replace ac:=yRb ac hb
       replace aa:=yVe aa hg hb
       have aI:=zm (hbox)
       have aD:=ygw hg
       have bC:=ygw hg
       replace HB:=ybs hb
       have ay:=ynl aj hg
       have az:=yng aj hg
       replace aj:=ybb aj hb
       have au:=ynl ai hg
       have av:=yng ai hg
       replace ai:=ybb ai hb
       have aw:=ynl ak hg
       have ax:=yng ak hg
       replace ak:=ybb ak hb
       have af:=ynl ao hg
       have aA:=yng ao hg
       replace ao:=ybb ao hb
       clear hb hbox hg
       refine hK.out _ _ yH (fun hHeld => ?_)
       clear hK K
       refine ym (some 15) ?_
       refine yw 7 53 HT_ (fun K hK => ?_)
       refine ygs Try.func67 #[.agg #[.int .u64 al, .int .u32 am, .slice bJ ag.length bK], .int .i64 (rd l1 aq), .int .i64 aX, .bool a3] ?_
       with_reducible refine (gain_put.calls bS al am _ _ ag (rd l1 aq) aX a3 bA bB bF bG _ ?aT ?bx A42.out).mono ?_
       (case aT=>exact yce (Kd.V_reads' aa.out).2.2)
       (case bx=>exact (Kd.V_reads' aa.out).2.1)
       rintro e w47 ⟨bg,rfl,ho0,hb⟩
       refine ⟨_,rfl, ?_⟩
       replace ae:=zm (Kd.V_elder' (yr ae) (Kd.R_base ho0) hb)
       replace aa:=zm (Kd.V_elder' (yr aa) (Kd.R_base ho0) hb)
       have aV:=zm (Kd.R_lower (Kd.R_new' (Kd.R_newM (M:=fun k_=>(w.heap.size≤k_)) ho0 (zE yhb) (fun k_ h_=>h_)) (Kd.R_lt (yr ac))) (zE yhb))
       replace ac:=zm (Kd.R_elder' (yr ac) (Kd.R_base ho0) hb)
       replace aj:=ybb aj hb
       replace ai:=ybb ai hb
       replace ak:=ybb ak hb
       replace ao:=ybb ao hb
       replace aI:=ybb aI hb
       replace HB:=ybs hb
       (try clear hb)
       (try clear ho0)
       refine hK.out _ _ yH (fun hHeld => ?_)
       clear hK K
       refine ym (some 53) ?_
       refine yp 8 45 HT_ ?_
       refine yp 9 54 HT_ ?_
       refine yp 10 55 HT_ ?_
       exact norm_ (by simp only [putAll,Act.put,List.setIfInBounds_toArray,List.set_cons_zero,List.set_cons_succ]) (hCont (bg,ah) _ ⟨hHeld,(yR0 aV),(yV0 ae),(yr ac),(yV0 aa),(yk aj),(yk ai),(yk ak),(yk ao),(yk aI),aD.out,bC.out,ay.out,az.out,au.out,av.out,aw.out,ax.out,af.out,aA.out,yhb⟩)
      rintro ⟨bg,ah⟩ w48 ⟨hS_,h0_,h1_,h2_,h3_,h4_,h5_,h6_,h7_,h8_,h9_,bT,bU,bV,bW,bX,bY,bZ,b4,b5,b6⟩
      have n0_ : Aside0 (Kd.R (Kd.int .u8) 5 w48 w.heap.size (fun k_=>(w.heap.size≤k_)∧some k_≠(.slice aK aE.length aM : Value).ownBlock) bg bF):=⟨h0_⟩
      have n1_ : Aside0 (Kd.V (Kd.int .u8) 5 w48 w.heap.size (fun k_=>(aU k_∨w.heap.size≤k_)∧some k_≠(bg : Value).ownBlock∧some k_≠(.slice aK aE.length aM : Value).ownBlock∧k_≠aG∧k_≠aC∧k_≠aH∧k_≠ap∧k_≠ah) (.slice a8 aJ.length a9) aJ):=⟨h1_⟩
      have n2_ : Aside0 (Kd.R (Kd.int .u8) 5 w48 w.heap.size (fun k_=>(w.heap.size≤k_)∧some k_≠(bg : Value).ownBlock) (.slice aK aE.length aM) aE):=⟨h2_⟩
      have n3_ : Aside0 (Kd.V (Kd.int .u8) 5 w48 w.heap.size (fun k_=>(aU k_∨w.heap.size≤k_)∧some k_≠(bg : Value).ownBlock∧some k_≠(.slice aK aE.length aM : Value).ownBlock∧k_≠aG∧k_≠aC∧k_≠aH∧k_≠ap∧k_≠ah) (.slice bJ ag.length bK) ag):=⟨h3_⟩
      have n4_ : Aside0 (w48.heap[aG]? = some (.cells #[.int .u64 bd, .int .u32 bf, .slice a8 aJ.length a9] 54 (0,0))):=⟨h4_⟩
      have n5_ : Aside0 (w48.heap[aC]? = some (.cells #[.int .u64 aN, .int .u32 aQ, .slice none 0 0] 54 (0,0))):=⟨h5_⟩
      have n6_ : Aside0 (w48.heap[aH]? = some (.cells #[.int .u64 bp, .int .u32 bq, .slice aK aE.length aM] 54 (0,0))):=⟨h6_⟩
      have n7_ : Aside0 (w48.heap[ap]? = some (.cells #[.int .u64 al, .int .u32 am, .slice bJ ag.length bK] 54 (0,0))):=⟨h7_⟩
      have n8_ : Aside0 (w48.heap[ah]? = some (.cells #[.int .u64 0, .int .u32 0, .slice none 0 0] 54 (0,0))):=⟨h8_⟩
      have n9_ : Aside0 (w.heap.size≤ah):=⟨h9_⟩
      have b7 : Aside0 (w.heap.size≤ah):=⟨bT⟩
      have b8 : Aside0 (aG≠ah):=⟨bU⟩
      have b9 : Aside0 (ah≠aG):=⟨bV⟩
      have ca : Aside0 (aC≠ah):=⟨bW⟩
      have cb : Aside0 (ah≠aC):=⟨bX⟩
      have ce : Aside0 (aH≠ah):=⟨bY⟩
      have cf : Aside0 (ah≠aH):=⟨bZ⟩
      have cg : Aside0 (ap≠ah):=⟨b4⟩
      have ch : Aside0 (ah≠ap):=⟨b5⟩
      have ci : Aside0 (Below w.heap.size w w48):=⟨b6⟩
      clear ae ac aa aj ai ak ao HB h0_ h1_ h2_ h3_ h4_ h5_ h6_ h7_ h8_ h9_ bT bU bV bW bX bY bZ b4 b5 b6;have aV:=n0_;have ae:=n1_;have ac:=n2_;have aa:=n3_;have aj:=n4_;have ai:=n5_;have ak:=n6_;have ao:=n7_;have aI:=n8_;have aD:=n9_;have bC:=b7;have ay:=b8;have az:=b9;have au:=ca;have av:=cb;have aw:=ce;have ax:=cf;have af:=cg;have aA:=ch;have HB:=ci;clear n0_ n1_ n2_ n3_ n4_ n5_ n6_ n7_ n8_ n9_ b7 b8 b9 ca cb ce cf cg ch ci
      have hHeld : w48.cell? ⟨ap,0,none⟩=some (.int .u64 al)∧w48.cell? ⟨ap,1,none⟩=some (.int .u32 am)∧w48.cell? ⟨ap,2,none⟩=some (.slice bJ ag.length bK)∧w48.cell? (bH.add (aq).toNat)=some (.int .i64 (rd l1 aq)):=hS_
      obtain ⟨df,dg,dl⟩:=Kd.R_slice aV.out
      (first|subst dl|(injection dl with f1_ f2_ f3_;have f4_:=f1_.symm;have f5_:=f3_.symm;clear f1_ f2_ f3_;subst f4_;subst f5_))
      refine norm_ (a' := ?_) ?_ ?_
      rotate_left
      ·
       simp only [putAll,Act.put,List.setIfInBounds_toArray,List.set_cons_zero,List.set_cons_succ]
       rfl
      refine yv 12 HT_ (fun K hK => ?_)
      have dN : w48.cell? ⟨ah,0,none⟩=some (.int .u64 0):=(zs aI.out 0).trans rfl
      have hfs49:=zx aI.out 0
      have:=ay.out
      have:=au.out
      have:=aw.out
      have:=af.out
      have:=az.out
      have:=av.out
      have:=ax.out
      have:=aA.out
      have dO : w48.cell? ⟨ah,1,none⟩=some (.int .u32 0):=(zs aI.out 1).trans rfl
      have hfs50:=zx aI.out 1
      have:=ay.out
      have:=au.out
      have:=aw.out
      have:=af.out
      have:=az.out
      have:=av.out
      have:=ax.out
      have:=aA.out
      have dP : w48.cell? ⟨ah,2,none⟩=some (.slice none 0 0):=(zs aI.out 2).trans rfl
      have hfs52:=zx aI.out 2
      have:=ay.out
      have:=au.out
      have:=aw.out
      have:=af.out
      have:=az.out
      have:=av.out
      have:=ax.out
      have:=aA.out
      refine skip_ (w1 := ?_) (by rfl) rfl ?_ ?_
      rotate_left
      ·
       go_simp
       rfl
      refine hK.out _ _ ⟨((zr (p:=⟨ah,_,none⟩) af.out _).trans (((zr (p:=⟨ah,_,none⟩) af.out _).trans (((zr (p:=⟨ah,_,none⟩) af.out _).trans (hHeld.1)))))),((zr (p:=⟨ah,_,none⟩) af.out _).trans (((zr (p:=⟨ah,_,none⟩) af.out _).trans (((zr (p:=⟨ah,_,none⟩) af.out _).trans (hHeld.2.1)))))),((zr (p:=⟨ah,_,none⟩) af.out _).trans (((zr (p:=⟨ah,_,none⟩) af.out _).trans (((zr (p:=⟨ah,_,none⟩) af.out _).trans (hHeld.2.2.1)))))),((zr (p:=⟨ah,_,none⟩) (by first|exact zn (zl (by have:=zb _ _ hw279_0;first|rwa [za] at this|exact this) aD.out)|(rw [za];exact zn (zl (by have:=zb _ _ hw279_0;first|rwa [za] at this|exact this) aD.out))|(show (Addr.add _ _).block≠_;rw [za];exact zn (zl (by have:=zb _ _ hw279_0;first|rwa [za] at this|exact this) aD.out))|(dsimp only;exact zn (zl (by have:=zb _ _ hw279_0;first|rwa [za] at this|exact this) aD.out))) _).trans (((zr (p:=⟨ah,_,none⟩) (by first|exact zn (zl (by have:=zb _ _ hw279_0;first|rwa [za] at this|exact this) aD.out)|(rw [za];exact zn (zl (by have:=zb _ _ hw279_0;first|rwa [za] at this|exact this) aD.out))|(show (Addr.add _ _).block≠_;rw [za];exact zn (zl (by have:=zb _ _ hw279_0;first|rwa [za] at this|exact this) aD.out))|(dsimp only;exact zn (zl (by have:=zb _ _ hw279_0;first|rwa [za] at this|exact this) aD.out))) _).trans (((zr (p:=⟨ah,_,none⟩) (by first|exact zn (zl (by have:=zb _ _ hw279_0;first|rwa [za] at this|exact this) aD.out)|(rw [za];exact zn (zl (by have:=zb _ _ hw279_0;first|rwa [za] at this|exact this) aD.out))|(show (Addr.add _ _).block≠_;rw [za];exact zn (zl (by have:=zb _ _ hw279_0;first|rwa [za] at this|exact this) aD.out))|(dsimp only;exact zn (zl (by have:=zb _ _ hw279_0;first|rwa [za] at this|exact this) aD.out))) _).trans (hHeld.2.2.2))))))⟩ (fun hHeld => ?_)
      clear hK K
      refine yp 13 16 HT_ ?_
      refine done_ (done_of HT_.out (by kernel_rfl)) ?_
      have:=az.out
      have:=ay.out
      have:=av.out
      have:=au.out
      have:=ax.out
      have:=aw.out
      have:=aA.out
      have:=af.out
      obtain ⟨_,_,_,_,_,_⟩:=yc3 aI
      have:=bE.out
      have:=bD.out
      have:=bm.out
      have:=bl.out
      have:=bo.out
      have:=bn.out
      obtain ⟨_,_,_,_,_,_⟩:=yc3 ao
      try go_wp2
      go_roundg bS
      case measure=>exact yom3 HJ5 HK2 di
      case rel=>exact ⟨(wrap64 (aq+1)),(aN),(aQ),(bA),(bB),(bF),(.slice df bF.length dg),yq,H',⟨yom3 HJ5 HK2 di⟩,⟨yV0 ae⟩,⟨yR2 ac aI ao⟩,⟨zy (Kd.R_V (ok:=fun k_=>w.heap.size≤k_∧some k_≠((.slice aK aE.length aM) : Value).ownBlock∧k_≠aG∧k_≠aC∧k_≠aH∧k_≠ap) (by (with_reducible repeat (first|apply zo|apply zp|apply zq));exact zG (zH (p:=⟨ap,2,none⟩) (zH (p:=⟨ap,1,none⟩) (zH (p:=⟨ap,0,none⟩) (zH (p:=⟨ah,2,none⟩) (zH (p:=⟨ah,1,none⟩) (zH (p:=⟨ah,0,none⟩) (Kd.R_types (Kd.R_types (Kd.R_types (Kd.R_types (Kd.R_types (Kd.R_types aV.out aj.out (by decide)) ai.out (by decide)) ak.out (by decide)) ao.out (by decide)) aI.out (by decide)) ao.out (by decide)) (fun _ hk=>hk.1.2) (.int .u64 bA)) (fun _ hk=>hk.1.2) (.int .u32 bB)) (fun _ hk=>hk.1.2) (.slice df bF.length dg)) (fun _ hk=>hk.2) (.int .u64 bA)) (fun _ hk=>hk.2) (.int .u32 bB)) (fun _ hk=>hk.2) (.slice df bF.length dg)) (fun _ hk=>⟨hk.1.1.1.1.1.1.1,⟨hk.1.1.1.1.1.1.2,⟨hk.1.1.1.1.1.2,⟨hk.1.1.1.1.2,⟨hk.1.1.1.2,hk.1.1.2⟩⟩⟩⟩⟩))) (fun k_ hk=>by first|exact ⟨(.inr (hk.1)),hk.2⟩|exact (.inr (hk)))⟩,⟨yk aj⟩,⟨yk ai⟩,⟨yk ak⟩,⟨ykp ao⟩,⟨yhb⟩⟩
     rw [if_neg c43] at H
     obtain ⟨dj,dk⟩:=yF c43
     simp only [Option.some.injEq,Prod.mk.injEq] at H
     obtain ⟨rfl,rfl,rfl,rfl⟩:=H
     obtain ⟨bL,bM,du⟩:=Kd.V_slice aa.out
     subst du
     try go_wp2
     replace ae:=zm (zC ae.out)
     replace ac:=zm (zq ac.out)
     replace aa:=zm (zC aa.out)
     replace aj:=zm (zj aj.out)
     replace ai:=zm (zj ai.out)
     replace ak:=zm (zj ak.out)
     replace ao:=zm (zj ao.out)
     replace HB:=zm (zf HB.out)
     have bO : 0≤(aq : Int):=yt
     have bP : aq < (l1.length : Int):=yt
     obtain ⟨bH,de,aW⟩:=Kd.at_int HR1.out aq bO bP
     have hw279_0:=aW
     cases de
     replace aW:=yhx HB aW
     replace bO:=eq_true bO
     replace bP:=eq_true bP
     refine yst (fun w' => w'.cell? ⟨ap,0,none⟩=some (.int .u64 al)∧w'.cell? ⟨ap,1,none⟩=some (.int .u32 am)∧w'.cell? ⟨ap,2,none⟩=some (.slice bL ag.length bM)∧w'.cell? (bH.add (aq).toNat)=some (.int .i64 (rd l1 aq))) [] 14 gain_Put.tab11 gain_Put.bits11 (fun hHeld HT_ HW_ => ?_)
     generalize wc.drew=w63 at ae ac aa aj ai ak ao HB aW hHeld ⊢
     refine yp 1 47 HT_ ?_
     refine yp 2 48 HT_ ?_
     refine yp 3 49 HT_ ?_
     refine yp 5 51 HT_ ?_
     refine yp 6 52 HT_ ?_
     refine yl 0 46 HT_ HW_ hHeld ?_
     refine yl 4 50 HT_ HW_ hHeld ?_
     refine join_ (σ:=Value × Nat) 2 #[true,true,true,true,true,true,true,true,true,true,true,true,false,false] (fun s_ => [(53, .tuple #[.agg #[.int .u64 bA, .int .u32 bB,s_.1], .int .i64 bG]),(15, .pointer (some ⟨s_.2,0,none⟩)),(45, .tuple #[.agg #[.int .u64 bA, .int .u32 bB,s_.1], .int .i64 bG]),(54, .agg #[.int .u64 bA, .int .u32 bB,s_.1]),(55, .int .i64 bG)]) (fun s_ w' => (w'.cell? ⟨ap,0,none⟩=some (.int .u64 al)∧w'.cell? ⟨ap,1,none⟩=some (.int .u32 am)∧w'.cell? ⟨ap,2,none⟩=some (.slice bL ag.length bM)∧w'.cell? (bH.add (aq).toNat)=some (.int .i64 (rd l1 aq)))∧(Kd.R (Kd.int .u8) 5 w' w.heap.size (fun k_=>(w.heap.size≤k_)∧some k_≠(.slice aK aE.length aM : Value).ownBlock) s_.1 bF)∧(Kd.V (Kd.int .u8) 5 w' w.heap.size (fun k_=>(aU k_∨w.heap.size≤k_)∧some k_≠(s_.1 : Value).ownBlock∧some k_≠(.slice aK aE.length aM : Value).ownBlock∧k_≠aG∧k_≠aC∧k_≠aH∧k_≠ap∧k_≠s_.2) (.slice a8 aJ.length a9) aJ)∧(Kd.R (Kd.int .u8) 5 w' w.heap.size (fun k_=>(w.heap.size≤k_)∧some k_≠(s_.1 : Value).ownBlock) (.slice aK aE.length aM) aE)∧(Kd.V (Kd.int .u8) 5 w' w.heap.size (fun k_=>(aU k_∨w.heap.size≤k_)∧some k_≠(s_.1 : Value).ownBlock∧some k_≠(.slice aK aE.length aM : Value).ownBlock∧k_≠aG∧k_≠aC∧k_≠aH∧k_≠ap∧k_≠s_.2) (.slice bL ag.length bM) ag)∧(w'.heap[aG]? = some (.cells #[.int .u64 bd, .int .u32 bf, .slice a8 aJ.length a9] 54 (0,0)))∧(w'.heap[aC]? = some (.cells #[.int .u64 aN, .int .u32 aQ, .slice none 0 0] 54 (0,0)))∧(w'.heap[aH]? = some (.cells #[.int .u64 bp, .int .u32 bq, .slice aK aE.length aM] 54 (0,0)))∧(w'.heap[ap]? = some (.cells #[.int .u64 al, .int .u32 am, .slice bL ag.length bM] 54 (0,0)))∧(w'.heap[s_.2]? = some (.cells #[.int .u64 0, .int .u32 0, .slice none 0 0] 54 (0,0)))∧(w.heap.size≤s_.2)∧(w.heap.size≤s_.2)∧(aG≠s_.2)∧(s_.2≠aG)∧(aC≠s_.2)∧(s_.2≠aC)∧(aH≠s_.2)∧(s_.2≠aH)∧(ap≠s_.2)∧(s_.2≠ap)∧(Below w.heap.size w w')) ?_ ?_
     rotate_left
     ·
      intro hCont
      refine two_ (i:=7) (j:=11) (Ni:=some 53) (Nj:=some 15) #[true,true,true,true,true,true,true,true,false,false,false,false,false,false] #[true,true,true,true,true,true,true,false,false,false,false,true,false,false] rfl rfl rfl rfl (two_of HT_.out (by kernel_rfl)) (by decide) (by decide) (fun K hK => ?_) (fun K hK => ?_)
      ·
       skip
       refine ygs Try.func67 #[.agg #[.int .u64 al, .int .u32 am, .slice bL ag.length bM], .int .i64 (rd l1 aq), .int .i64 aX, .bool a3] ?_
       with_reducible refine (gain_put.calls bS al am _ _ ag (rd l1 aq) aX a3 bA bB bF bG _ ?aT ?bx A42.out).mono ?_
       (case aT=>exact yce (Kd.V_reads' aa.out).2.2)
       (case bx=>exact (Kd.V_reads' aa.out).2.1)
       rintro e w64 ⟨bg,rfl,ho0,hb⟩
       refine ⟨_,rfl, ?_⟩
       replace ae:=zm (Kd.V_elder' (yr ae) (Kd.R_base ho0) hb)
       replace aa:=zm (Kd.V_elder' (yr aa) (Kd.R_base ho0) hb)
       have aV:=zm (Kd.R_lower (Kd.R_new' (Kd.R_newM (M:=fun k_=>(w.heap.size≤k_)) ho0 (zE yhb) (fun k_ h_=>h_)) (Kd.R_lt (yr ac))) (zE yhb))
       replace ac:=zm (Kd.R_elder' (yr ac) (Kd.R_base ho0) hb)
       replace aj:=ybb aj hb
       replace ai:=ybb ai hb
       replace ak:=ybb ak hb
       replace ao:=ybb ao hb
       replace HB:=ybs hb
       (try clear hb)
       (try clear ho0)
       refine hK.out _ _ yH (fun hHeld => ?_)
       clear hK K
       refine ym (some 53) ?_
       refine yp 8 45 HT_ ?_
       refine yp 9 54 HT_ ?_
       refine yp 10 55 HT_ ?_
       refine yw 11 15 HT_ (fun K hK => ?_)
       refine box_step ?hg (N:=15) ?hd (cs := #[.int .u64 0, .int .u32 0, .slice none 0 0]) (t:=54) ?hr ?_;(case hd=>rfl);(case hg=>rfl);(case hr=>first|(go_simp;done)|(go_simp;rfl))
       intro ah hg w65 hbox hb
       replace ae:=yVe ae hg hb
       replace ac:=yRb ac hb
       replace aa:=yVe aa hg hb
       replace aV:=yRb aV hb
       have aI:=zm (hbox)
       have aD:=ygw hg
       have bC:=ygw hg
       replace HB:=ybs hb
       have ay:=ynl aj hg
       have az:=yng aj hg
       replace aj:=ybb aj hb
       have au:=ynl ai hg
       have av:=yng ai hg
       replace ai:=ybb ai hb
       have aw:=ynl ak hg
       have ax:=yng ak hg
       replace ak:=ybb ak hb
       have af:=ynl ao hg
       have aA:=yng ao hg
       replace ao:=ybb ao hb
       clear hb hbox hg
       refine hK.out _ _ yH (fun hHeld => ?_)
       clear hK K
       refine ym (some 15) ?_
       exact norm_ (by simp only [putAll,Act.put,List.setIfInBounds_toArray,List.set_cons_zero,List.set_cons_succ]) (hCont (bg,ah) _ ⟨hHeld,(yR0 aV),(yV0 ae),(yr ac),(yV0 aa),(yk aj),(yk ai),(yk ak),(yk ao),(yk aI),aD.out,bC.out,ay.out,az.out,au.out,av.out,aw.out,ax.out,af.out,aA.out,yhb⟩)
      skip
      refine box_step ?hg (N:=15) ?hd (cs := #[.int .u64 0, .int .u32 0, .slice none 0 0]) (t:=54) ?hr ?_;(case hd=>rfl);(case hg=>rfl);(case hr=>first|(go_simp;done)|(go_simp;rfl))
      intro ah hg w64 hbox hb
      replace ae:=yVe ae hg hb
      replace ac:=yRb ac hb
      replace aa:=yVe aa hg hb
      have aI:=zm (hbox)
      have aD:=ygw hg
      have bC:=ygw hg
      replace HB:=ybs hb
      have ay:=ynl aj hg
      have az:=yng aj hg
      replace aj:=ybb aj hb
      have au:=ynl ai hg
      have av:=yng ai hg
      replace ai:=ybb ai hb
      have aw:=ynl ak hg
      have ax:=yng ak hg
      replace ak:=ybb ak hb
      have af:=ynl ao hg
      have aA:=yng ao hg
      replace ao:=ybb ao hb
      clear hb hbox hg
      refine hK.out _ _ yH (fun hHeld => ?_)
      clear hK K
      refine ym (some 15) ?_
      refine yw 7 53 HT_ (fun K hK => ?_)
      refine ygs Try.func67 #[.agg #[.int .u64 al, .int .u32 am, .slice bL ag.length bM], .int .i64 (rd l1 aq), .int .i64 aX, .bool a3] ?_
      with_reducible refine (gain_put.calls bS al am _ _ ag (rd l1 aq) aX a3 bA bB bF bG _ ?aT ?bx A42.out).mono ?_
      (case aT=>exact yce (Kd.V_reads' aa.out).2.2)
      (case bx=>exact (Kd.V_reads' aa.out).2.1)
      rintro e w65 ⟨bg,rfl,ho0,hb⟩
      refine ⟨_,rfl, ?_⟩
      replace ae:=zm (Kd.V_elder' (yr ae) (Kd.R_base ho0) hb)
      replace aa:=zm (Kd.V_elder' (yr aa) (Kd.R_base ho0) hb)
      have aV:=zm (Kd.R_lower (Kd.R_new' (Kd.R_newM (M:=fun k_=>(w.heap.size≤k_)) ho0 (zE yhb) (fun k_ h_=>h_)) (Kd.R_lt (yr ac))) (zE yhb))
      replace ac:=zm (Kd.R_elder' (yr ac) (Kd.R_base ho0) hb)
      replace aj:=ybb aj hb
      replace ai:=ybb ai hb
      replace ak:=ybb ak hb
      replace ao:=ybb ao hb
      replace aI:=ybb aI hb
      replace HB:=ybs hb
      (try clear hb)
      (try clear ho0)
      refine hK.out _ _ yH (fun hHeld => ?_)
      clear hK K
      refine ym (some 53) ?_
      refine yp 8 45 HT_ ?_
      refine yp 9 54 HT_ ?_
      refine yp 10 55 HT_ ?_
      exact norm_ (by simp only [putAll,Act.put,List.setIfInBounds_toArray,List.set_cons_zero,List.set_cons_succ]) (hCont (bg,ah) _ ⟨hHeld,(yR0 aV),(yV0 ae),(yr ac),(yV0 aa),(yk aj),(yk ai),(yk ak),(yk ao),(yk aI),aD.out,bC.out,ay.out,az.out,au.out,av.out,aw.out,ax.out,af.out,aA.out,yhb⟩)
     rintro ⟨bg,ah⟩ w66 ⟨hS_,h0_,h1_,h2_,h3_,h4_,h5_,h6_,h7_,h8_,h9_,bT,bU,bV,bW,bX,bY,bZ,b4,b5,b6⟩
     have n0_ : Aside0 (Kd.R (Kd.int .u8) 5 w66 w.heap.size (fun k_=>(w.heap.size≤k_)∧some k_≠(.slice aK aE.length aM : Value).ownBlock) bg bF):=⟨h0_⟩
     have n1_ : Aside0 (Kd.V (Kd.int .u8) 5 w66 w.heap.size (fun k_=>(aU k_∨w.heap.size≤k_)∧some k_≠(bg : Value).ownBlock∧some k_≠(.slice aK aE.length aM : Value).ownBlock∧k_≠aG∧k_≠aC∧k_≠aH∧k_≠ap∧k_≠ah) (.slice a8 aJ.length a9) aJ):=⟨h1_⟩
     have n2_ : Aside0 (Kd.R (Kd.int .u8) 5 w66 w.heap.size (fun k_=>(w.heap.size≤k_)∧some k_≠(bg : Value).ownBlock) (.slice aK aE.length aM) aE):=⟨h2_⟩
     have n3_ : Aside0 (Kd.V (Kd.int .u8) 5 w66 w.heap.size (fun k_=>(aU k_∨w.heap.size≤k_)∧some k_≠(bg : Value).ownBlock∧some k_≠(.slice aK aE.length aM : Value).ownBlock∧k_≠aG∧k_≠aC∧k_≠aH∧k_≠ap∧k_≠ah) (.slice bL ag.length bM) ag):=⟨h3_⟩
     have n4_ : Aside0 (w66.heap[aG]? = some (.cells #[.int .u64 bd, .int .u32 bf, .slice a8 aJ.length a9] 54 (0,0))):=⟨h4_⟩
     have n5_ : Aside0 (w66.heap[aC]? = some (.cells #[.int .u64 aN, .int .u32 aQ, .slice none 0 0] 54 (0,0))):=⟨h5_⟩
     have n6_ : Aside0 (w66.heap[aH]? = some (.cells #[.int .u64 bp, .int .u32 bq, .slice aK aE.length aM] 54 (0,0))):=⟨h6_⟩
     have n7_ : Aside0 (w66.heap[ap]? = some (.cells #[.int .u64 al, .int .u32 am, .slice bL ag.length bM] 54 (0,0))):=⟨h7_⟩
     have n8_ : Aside0 (w66.heap[ah]? = some (.cells #[.int .u64 0, .int .u32 0, .slice none 0 0] 54 (0,0))):=⟨h8_⟩
     have n9_ : Aside0 (w.heap.size≤ah):=⟨h9_⟩
     have b7 : Aside0 (w.heap.size≤ah):=⟨bT⟩
     have b8 : Aside0 (aG≠ah):=⟨bU⟩
     have b9 : Aside0 (ah≠aG):=⟨bV⟩
     have ca : Aside0 (aC≠ah):=⟨bW⟩
     have cb : Aside0 (ah≠aC):=⟨bX⟩
     have ce : Aside0 (aH≠ah):=⟨bY⟩
     have cf : Aside0 (ah≠aH):=⟨bZ⟩
     have cg : Aside0 (ap≠ah):=⟨b4⟩
     have ch : Aside0 (ah≠ap):=⟨b5⟩
     have ci : Aside0 (Below w.heap.size w w66):=⟨b6⟩
     clear ae ac aa aj ai ak ao HB h0_ h1_ h2_ h3_ h4_ h5_ h6_ h7_ h8_ h9_ bT bU bV bW bX bY bZ b4 b5 b6;have aV:=n0_;have ae:=n1_;have ac:=n2_;have aa:=n3_;have aj:=n4_;have ai:=n5_;have ak:=n6_;have ao:=n7_;have aI:=n8_;have aD:=n9_;have bC:=b7;have ay:=b8;have az:=b9;have au:=ca;have av:=cb;have aw:=ce;have ax:=cf;have af:=cg;have aA:=ch;have HB:=ci;clear n0_ n1_ n2_ n3_ n4_ n5_ n6_ n7_ n8_ n9_ b7 b8 b9 ca cb ce cf cg ch ci
     have hHeld : w66.cell? ⟨ap,0,none⟩=some (.int .u64 al)∧w66.cell? ⟨ap,1,none⟩=some (.int .u32 am)∧w66.cell? ⟨ap,2,none⟩=some (.slice bL ag.length bM)∧w66.cell? (bH.add (aq).toNat)=some (.int .i64 (rd l1 aq)):=hS_
     obtain ⟨dv,dw,dm⟩:=Kd.R_slice aV.out
     (first|subst dm|(injection dm with f1_ f2_ f3_;have f4_:=f1_.symm;have f5_:=f3_.symm;clear f1_ f2_ f3_;subst f4_;subst f5_))
     refine norm_ (a' := ?_) ?_ ?_
     rotate_left
     ·
      simp only [putAll,Act.put,List.setIfInBounds_toArray,List.set_cons_zero,List.set_cons_succ]
      rfl
     refine yv 12 HT_ (fun K hK => ?_)
     have dQ : w66.cell? ⟨ah,0,none⟩=some (.int .u64 0):=(zs aI.out 0).trans rfl
     have hfs67:=zx aI.out 0
     have:=ay.out
     have:=au.out
     have:=aw.out
     have:=af.out
     have:=az.out
     have:=av.out
     have:=ax.out
     have:=aA.out
     have dR : w66.cell? ⟨ah,1,none⟩=some (.int .u32 0):=(zs aI.out 1).trans rfl
     have hfs68:=zx aI.out 1
     have:=ay.out
     have:=au.out
     have:=aw.out
     have:=af.out
     have:=az.out
     have:=av.out
     have:=ax.out
     have:=aA.out
     have dS : w66.cell? ⟨ah,2,none⟩=some (.slice none 0 0):=(zs aI.out 2).trans rfl
     have hfs70:=zx aI.out 2
     have:=ay.out
     have:=au.out
     have:=aw.out
     have:=af.out
     have:=az.out
     have:=av.out
     have:=ax.out
     have:=aA.out
     refine skip_ (w1 := ?_) (by rfl) rfl ?_ ?_
     rotate_left
     ·
      go_simp
      rfl
     refine hK.out _ _ ⟨((zr (p:=⟨ah,_,none⟩) af.out _).trans (((zr (p:=⟨ah,_,none⟩) af.out _).trans (((zr (p:=⟨ah,_,none⟩) af.out _).trans (hHeld.1)))))),((zr (p:=⟨ah,_,none⟩) af.out _).trans (((zr (p:=⟨ah,_,none⟩) af.out _).trans (((zr (p:=⟨ah,_,none⟩) af.out _).trans (hHeld.2.1)))))),((zr (p:=⟨ah,_,none⟩) af.out _).trans (((zr (p:=⟨ah,_,none⟩) af.out _).trans (((zr (p:=⟨ah,_,none⟩) af.out _).trans (hHeld.2.2.1)))))),((zr (p:=⟨ah,_,none⟩) (by first|exact zn (zl (by have:=zb _ _ hw279_0;first|rwa [za] at this|exact this) aD.out)|(rw [za];exact zn (zl (by have:=zb _ _ hw279_0;first|rwa [za] at this|exact this) aD.out))|(show (Addr.add _ _).block≠_;rw [za];exact zn (zl (by have:=zb _ _ hw279_0;first|rwa [za] at this|exact this) aD.out))|(dsimp only;exact zn (zl (by have:=zb _ _ hw279_0;first|rwa [za] at this|exact this) aD.out))) _).trans (((zr (p:=⟨ah,_,none⟩) (by first|exact zn (zl (by have:=zb _ _ hw279_0;first|rwa [za] at this|exact this) aD.out)|(rw [za];exact zn (zl (by have:=zb _ _ hw279_0;first|rwa [za] at this|exact this) aD.out))|(show (Addr.add _ _).block≠_;rw [za];exact zn (zl (by have:=zb _ _ hw279_0;first|rwa [za] at this|exact this) aD.out))|(dsimp only;exact zn (zl (by have:=zb _ _ hw279_0;first|rwa [za] at this|exact this) aD.out))) _).trans (((zr (p:=⟨ah,_,none⟩) (by first|exact zn (zl (by have:=zb _ _ hw279_0;first|rwa [za] at this|exact this) aD.out)|(rw [za];exact zn (zl (by have:=zb _ _ hw279_0;first|rwa [za] at this|exact this) aD.out))|(show (Addr.add _ _).block≠_;rw [za];exact zn (zl (by have:=zb _ _ hw279_0;first|rwa [za] at this|exact this) aD.out))|(dsimp only;exact zn (zl (by have:=zb _ _ hw279_0;first|rwa [za] at this|exact this) aD.out))) _).trans (hHeld.2.2.2))))))⟩ (fun hHeld => ?_)
     clear hK K
     refine yp 13 16 HT_ ?_
     refine done_ (done_of HT_.out (by kernel_rfl)) ?_
     have:=bi.out
     have:=bh.out
     have:=bk.out
     have:=bj.out
     have:=bn.out
     have:=bo.out
     have:=aw.out
     have:=ax.out
     obtain ⟨_,_,_,_,_,_⟩:=yc3 ak
     have:=bc.out
     have:=bb.out
     have:=bl.out
     have:=bm.out
     have:=au.out
     have:=av.out
     obtain ⟨_,_,_,_,_,_⟩:=yc3 ai
     try go_wp2
     refine bodyPost_ret (results_ct rfl _ _ aC 54 #[.int .u64 bp, .int .u32 bq, .slice aK aE.length aM] (0,0) _ rfl (ykp ai) Try.underlying54 rfl (by kernel_rfl)) rfl ?_
     exact ⟨_,ye,zy (Kd.R_V (by (with_reducible repeat (first|apply zo|apply zp|apply zq));exact zG (zH (p:=⟨aC,2,none⟩) (zH (p:=⟨aC,1,none⟩) (zH (p:=⟨aC,0,none⟩) (zH (p:=⟨ah,2,none⟩) (zH (p:=⟨ah,1,none⟩) (zH (p:=⟨ah,0,none⟩) (Kd.R_types (Kd.R_types ac.out aI.out (by decide)) ai.out (by decide)) (fun _ hk=>hk.1.2) (.int .u64 bA)) (fun _ hk=>hk.1.2) (.int .u32 bB)) (fun _ hk=>hk.1.2) (.slice dv bF.length dw)) (fun _ hk=>hk.2) (.int .u64 bp)) (fun _ hk=>hk.2) (.int .u32 bq)) (fun _ hk=>hk.2) (.slice aK aE.length aM)) (fun _ hk=>hk.1.1.1))) (fun k_ hk=>by first|exact ⟨(.inr (hk.1)),hk.2⟩|exact (.inr (hk))),yhb⟩
   rw [if_neg c35] at H
   have cY:=yG c35
   clear c35
   simp only [Option.some.injEq,Prod.mk.injEq] at H
   obtain ⟨rfl,rfl,rfl,rfl⟩:=H
   have:=bE.out
   have:=bD.out
   have:=bm.out
   have:=bl.out
   have:=bo.out
   have:=bn.out
   obtain ⟨_,_,_,_,_,_⟩:=yc3 ao
   have:=bc.out
   have:=bb.out
   have:=bj.out
   have:=bk.out
   obtain ⟨_,_,_,_,_,_⟩:=yc3 ai
   obtain ⟨dx,dy,dz⟩:=Kd.V_slice aa.out
   subst dz
   go_wp2
   refine bodyPost_ret (results_ct rfl _ _ aC 54 #[.int .u64 al, .int .u32 am, .slice dx ag.length dy] (0,0) _ rfl (ykp ai) Try.underlying54 rfl (by kernel_rfl)) rfl ?_
   exact ⟨_,ye,yV0 aa,yhb⟩
end Go.Proofs.Ytnmbndkojpjkmaa.Prt
