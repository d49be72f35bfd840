-- Functions of the program and of the document as plain Lean, each with the proof that the code comes to it. Written by a program of this session (wip/tools/myprint.py, pack.py) over the kit's printer; Lean checks it.
import Derived.Test.YtnmbndkojpjkmaaZPackFitsPrt0
import Derived.Test.YtnmbndkojpjkmaaZPackFitsM1
import Derived.Test.YtnmbndkojpjkmaaZPackFitsM2
import Derived.Test.YtnmbndkojpjkmaaZPackFitsSh2
import Derived.Test.YtnmbndkojpjkmaaZPackFitsSh
namespace Go.Proofs.Ytnmbndkojpjkmaa.Prt
open Go.RowKit Go.Proofs.YtnmbndkojpjkmaaW.PrintWords Go.Proofs.YtnmbndkojpjkmaaW.PrintLast Go.Proofs.YtnmbndkojpjkmaaW.PrintMore
attribute [local go_sem] max2_int min2_int max_two min_two max_three min_three max_four min_four   -- for this text's walks alone
set_option linter.unusedVariables false
set_option linter.unusedSimpArgs false


mutual
def cpack_Read.j0 : Nat→Int→Int→List (List Int)→Bool→Int→Int→List Int→Int→Bool→Option (Bool × (List (List Int)) × (List (List (List Int))) × Int)
 | 0,_,_,_,_,_,_,_,_,_=>none
 | k+1,x0,x1,x3,x65,bm,bn,bo,bp,bf=>if x65=true then (some (false,([] : List (List Int)),([] : List (List (List Int))),1)) else (cpack_Read.l0 k x0 x1 x3 x1 0 bm bn bo bp bf ([] : List (List Int)))
def cpack_Read.l0 : Nat→Int→Int→List (List Int)→Int→Int→Int→Int→List Int→Int→Bool→List (List Int)→Option (Bool × (List (List Int)) × (List (List (List Int))) × Int)
 | 0,_,_,_,_,_,_,_,_,_,_,_=>none
 | k+1,x0,x1,x3,x67,x68,bm,bn,bo,bp,bf,bl=>if x68 < x67 then ((cpack_of.f x3 x68).bind fun bK=>((gain_Take.f k bm bn bo bp bK bf).bind fun cu=>(if bl.length < 5864062014805 then (cpack_Read.l0 k x0 x1 x3 x67 (wrap64 (x68+1)) cu.1 cu.2.1 cu.2.2.1 cu.2.2.2.1 bf (bl ++ [cu.2.2.2.2.1])) else (none)))) else ((alloc_Pulses.f k x0 x1 bl).bind fun eT=>(cpack_Read.l1 k eT.1 x1 0 bm bn bo bp bf bl ([] : List (List (List Int)))))
def cpack_Read.l1 : Nat→List (List Int)→Int→Int→Int→Int→List Int→Int→Bool→List (List Int)→List (List (List Int))→Option (Bool × (List (List Int)) × (List (List (List Int))) × Int)
 | 0,_,_,_,_,_,_,_,_,_,_=>none
 | k+1,x18,x98,x99,bm,bn,bo,bp,bf,bl,bB=>if x99 < x98 then (cpack_Read.l2 k x18 x99 ([] : List (List Int)) x98 x99 0 bm bn bo bp bf bl bB) else (some (bf,bl,bB,0))
def cpack_Read.l2 : Nat→List (List Int)→Int→List (List Int)→Int→Int→Int→Int→Int→List Int→Int→Bool→List (List Int)→List (List (List Int))→Option (Bool × (List (List Int)) × (List (List (List Int))) × Int)
 | 0,_,_,_,_,_,_,_,_,_,_,_,_,_=>none
 | k+1,x18,x20,x21,x98,x99,b7,bm,bn,bo,bp,bf,bl,bB=>if b7 < 5 then ((band_Width.f b7).bind fun bU=>(if 0≤bU then (if (bU : Int).toNat≤35184372088832 then (if 0≤x20 then (if x20 < (x18.length : Int) then (if 0≤b7 then (if b7 < ((rd_L1 x18 x20).length : Int) then (if (rd (rd_L1 x18 x20) b7) > 0 then ((band_Width.f b7).bind fun cz=>((comb_Count.f cz (rd (rd_L1 x18 x20) b7)).bind fun dd=>((coder_TakeNum.f k bm bn bo bp dd.1).bind fun bE=>((band_Width.f b7).bind fun cA=>((comb_Vector.f k cA (rd (rd_L1 x18 x20) b7) bE.2.2.2.2.1).bind fun de=>(if x21.length < 5864062014805 then (cpack_Read.l2 k x18 x20 (x21 ++ [de.1]) x98 x99 (wrap64 (b7+1)) bE.1 bE.2.1 bE.2.2.1 bE.2.2.2.1 bf bl bB) else (none))))))) else (if x21.length < 5864062014805 then (cpack_Read.l2 k x18 x20 (x21 ++ [(List.replicate (bU : Int).toNat 0)]) x98 x99 (wrap64 (b7+1)) bm bn bo bp bf bl bB) else (none))) else (none)) else (none)) else (none)) else (none)) else (none)) else (none))) else (if bB.length < 5864062014805 then (cpack_Read.l1 k x18 x98 (wrap64 (x99+1)) bm bn bo bp bf bl (bB ++ [x21])) else (none))
end
def cpack_Read.f (k : Nat) (a0 : Int) (a1 : Int) (l2 : List Int) (l3 : List (List Int)) : Option (Bool × (List (List Int)) × (List (List (List Int))) × Int):=(alloc_Right.f a0 a1).bind fun eE=>(if eE=true then (if (l2.length : Int)=a0 then ((coder_Open.f l2).bind fun b4=>((coder_Get.f b4.1 b4.2.1 b4.2.2.1 b4.2.2.2 2).bind fun cv=>((coder_Take.f k b4.1 b4.2.1 b4.2.2.1 b4.2.2.2 cv.1 (wrap64 (cv.1+1)) 2).bind fun b5=>(if cv.1=1 then (cpack_Read.j0 k a0 a1 l3 false b5.1 b5.2.1 b5.2.2.1 b5.2.2.2.1 (cv.1 == 1)) else ((cpack_gains.f k a1 l3).bind fun dx=>(cpack_Read.j0 k a0 a1 l3 (!dx) b5.1 b5.2.1 b5.2.2.1 b5.2.2.2.1 (cv.1 == 1))))))) else (some (false,([] : List (List Int)),([] : List (List (List Int))),2))) else (some (false,([] : List (List Int)),([] : List (List (List Int))),1)))
theorem cpack_Read.mono_l : ∀ k,(∀ y0 y1 y2 y3 y4 y5 y6 y7 y8,LeO (cpack_Read.j0 k y0 y1 y2 y3 y4 y5 y6 y7 y8) (cpack_Read.j0 (k+1) y0 y1 y2 y3 y4 y5 y6 y7 y8))∧(∀ y0 y1 y2 y3 y4 y5 y6 y7 y8 y9 y10,LeO (cpack_Read.l0 k y0 y1 y2 y3 y4 y5 y6 y7 y8 y9 y10) (cpack_Read.l0 (k+1) y0 y1 y2 y3 y4 y5 y6 y7 y8 y9 y10))∧(∀ y0 y1 y2 y3 y4 y5 y6 y7 y8 y9,LeO (cpack_Read.l1 k y0 y1 y2 y3 y4 y5 y6 y7 y8 y9) (cpack_Read.l1 (k+1) y0 y1 y2 y3 y4 y5 y6 y7 y8 y9))∧(∀ y0 y1 y2 y3 y4 y5 y6 y7 y8 y9 y10 y11 y12,LeO (cpack_Read.l2 k y0 y1 y2 y3 y4 y5 y6 y7 y8 y9 y10 y11 y12) (cpack_Read.l2 (k+1) y0 y1 y2 y3 y4 y5 y6 y7 y8 y9 y10 y11 y12))
 | 0=>⟨fun _ _ _ _ _ _ _ _ _ r h=>by simp [cpack_Read.j0] at h,fun _ _ _ _ _ _ _ _ _ _ _ r h=>by simp [cpack_Read.l0] at h,fun _ _ _ _ _ _ _ _ _ _ r h=>by simp [cpack_Read.l1] at h,fun _ _ _ _ _ _ _ _ _ _ _ _ _ r h=>by simp [cpack_Read.l2] at h⟩
 | k+1=>by
  obtain ⟨ih0,ih1,ih2,ih3⟩:=cpack_Read.mono_l k
  refine ⟨?_, ?_, ?_, ?_⟩
  ·
   intro y0 y1 y2 y3 y4 y5 y6 y7 y8
   unfold cpack_Read.j0
   repeat' with_reducible first|apply ih0|apply ih1|apply ih2|apply ih3|apply alloc_Pulses.mono|apply coder_Take.mono|apply coder_TakeNum.mono|apply comb_Vector.mono|apply cpack_gains.mono|apply gain_Take.mono|apply yLr|apply yLn|apply yLi|apply yLb|intro _
  ·
   intro y0 y1 y2 y3 y4 y5 y6 y7 y8 y9 y10
   unfold cpack_Read.l0
   repeat' with_reducible first|apply ih0|apply ih1|apply ih2|apply ih3|apply alloc_Pulses.mono|apply coder_Take.mono|apply coder_TakeNum.mono|apply comb_Vector.mono|apply cpack_gains.mono|apply gain_Take.mono|apply yLr|apply yLn|apply yLi|apply yLb|intro _
  ·
   intro y0 y1 y2 y3 y4 y5 y6 y7 y8 y9
   unfold cpack_Read.l1
   repeat' with_reducible first|apply ih0|apply ih1|apply ih2|apply ih3|apply alloc_Pulses.mono|apply coder_Take.mono|apply coder_TakeNum.mono|apply comb_Vector.mono|apply cpack_gains.mono|apply gain_Take.mono|apply yLr|apply yLn|apply yLi|apply yLb|intro _
  intro y0 y1 y2 y3 y4 y5 y6 y7 y8 y9 y10 y11 y12
  unfold cpack_Read.l2
  repeat' with_reducible first|apply ih0|apply ih1|apply ih2|apply ih3|apply alloc_Pulses.mono|apply coder_Take.mono|apply coder_TakeNum.mono|apply comb_Vector.mono|apply cpack_gains.mono|apply gain_Take.mono|apply yLr|apply yLn|apply yLi|apply yLb|intro _
theorem cpack_Read.mono : ∀ a0 a1 a2 a3 k,LeO (cpack_Read.f k a0 a1 a2 a3) (cpack_Read.f (k+1) a0 a1 a2 a3):=by
 intro a0 a1 a2 a3 k
 obtain ⟨ih0,ih1,ih2,ih3⟩:=cpack_Read.mono_l k
 unfold cpack_Read.f
 repeat' with_reducible first|apply ih0|apply ih1|apply ih2|apply ih3|apply alloc_Pulses.mono|apply coder_Take.mono|apply coder_TakeNum.mono|apply comb_Vector.mono|apply cpack_gains.mono|apply gain_Take.mono|apply yLr|apply yLn|apply yLi|apply yLb|intro _
def cpack_Read.T14 : Bool × List (List Nat × List Nat):=(true, [([], []),([], []),([], []),([1,2], [1,2]),([], []),([4], [4]),([0,3,5,3], [0,3,5]),([6], [6]),([7], [7]),([7], [7]),([7], [7]),([], []),([11,8,6,0,1,2,3,4,5,6,7,8,11], [8,11]),([9,12,0,1,2,3,4,5,6,7,8,9,11,12], [9]),([10,13,0,1,2,3,4,5,6,7,8,9,10,11,12,13], [10])])
def cpack_Read.B14 : List Nat := [0,0,0,6,0,16,63,127,255,255,255,0,2559,7167,16383]
theorem cpack_Read.tab14 : rtab .any (opsOf Try.f20 14)=cpack_Read.T14:=by kernel_rfl
theorem cpack_Read.bits14 : waitsOk cpack_Read.T14.2 cpack_Read.B14=true:=by kernel_rfl
def cpack_Read.T15 : Bool × List (List Nat × List Nat):=(true, [([], []),([], []),([1], [1]),([], []),([3], [3]),([2,4], [2,4]),([0,5,0], [0]),([0,1,2,3,4,5,6], []),([7,5,6,0,1,2,3,4,5,6], [5,7])])
def cpack_Read.B15 : List Nat := [0,0,2,0,8,30,63,127,255]
theorem cpack_Read.tab15 : rtab .any (opsOf Try.f20 15)=cpack_Read.T15:=by kernel_rfl
theorem cpack_Read.bits15 : waitsOk cpack_Read.T15.2 cpack_Read.B15=true:=by kernel_rfl
def cpack_Read.T27 : Bool × List (List Nat × List Nat):=(true, [([], []),([0], [0]),([], []),([], []),([2,3], [2,3]),([4], [4]),([], []),([5,6], [5,6]),([7], [7]),([1,8,1], [1,8]),([9], [9]),([10], [10]),([10], [10]),([11,9,0,1,2,3,4,5,6,7,8,9,10,11], [11]),([12,13,0,1,2,3,4,5,6,7,8,9,10,11,12,13], [12])])
def cpack_Read.B27 : List Nat := [0,1,0,0,12,28,0,124,252,511,1023,2047,2047,4095,16383]
theorem cpack_Read.tab27 : rtab .any (opsOf Try.f20 27)=cpack_Read.T27:=by kernel_rfl
theorem cpack_Read.bits27 : waitsOk cpack_Read.T27.2 cpack_Read.B27=true:=by kernel_rfl
def cpack_Read.T30 : Bool × List (List Nat × List Nat):=(true, [([], []),([0], [0]),([], []),([], []),([2,3], [2,3]),([4], [4]),([], []),([5,6], [5,6]),([7], [7]),([], []),([1,8,9,1], [1,8,9]),([10], [10]),([11], [11]),([11], [11]),([12,10,0,1,2,3,4,5,6,7,8,9,10,11,12], [12])])
def cpack_Read.B30 : List Nat := [0,1,0,0,12,28,0,124,252,0,1023,2047,4095,4095,8191]
theorem cpack_Read.tab30 : rtab .any (opsOf Try.f20 30)=cpack_Read.T30:=by kernel_rfl
theorem cpack_Read.bits30 : waitsOk cpack_Read.T30.2 cpack_Read.B30=true:=by kernel_rfl
set_option maxHeartbeats 8000000 in
set_option maxRecDepth 100000 in
theorem cpack_Read.calls (k : Nat) (a0 : Int) (a1 : Int) (A2 : Option Addr) (c2 : Nat) (l2 : List Int) (A3 : Option Addr) (c3 : Nat) (l3 : List (List Int)) (r1 : Bool) (r2 : List (List Int)) (r3 : List (List (List Int))) (r4 : Int) (w : World) (hr2 : Kd.C (Kd.int .u8) w A2 l2.length l2) (hc2 : l2.length≤c2) (hr3 : Kd.C (Kd.slice 3 (Kd.int .i64)) w A3 l3.length l3) (hc3 : l3.length≤c3) (h : cpack_Read.f k a0 a1 l2 l3=some (r1,r2,r3,r4)) :
  Calls Try.prog 20 #[.int .i64 a0, .int .i64 a1, .slice A2 l2.length c2, .slice A3 l3.length c3] w fun e w' => ∃ v1_ v2_ : Value,e=.returned (.tuple #[.agg #[.bool r1,v1_,v2_], .int .i64 r4])∧Kd.S (Kd.slice 3 (Kd.int .i64)) 49 w' w.heap.size (fun _=>True) v1_ r2∧Kd.R (Kd.slice 49 (Kd.slice 3 (Kd.int .i64))) 22 w' w.heap.size (fun k_=>some k_≠(v1_ : Value).ownBlock) v2_ r3∧Below w.heap.size w w' := by
 have hu25:=Try.underlying25;have hu82:=Try.underlying82;have HR2:=zm hr2;have HC2:=zm hc2;clear hr2 hc2;have HR3:=zm hr3;have HC3:=zm hc3;clear hr3 hc3;have HB:=zm (Below.refl w.heap.size w);have H:=h
 unfold cpack_Read.f at H
 clear h
 obtain ⟨eE,A5,H⟩:=ybi H
 by_cases c6 : eE=true
 ·
  subst c6
  rw [if_pos rfl] at H
  by_cases c7 : (l2.length : Int)=a0
  ·
   rw [if_pos c7] at H
   obtain ⟨eU,eV⟩:=yE c7
   clear c7
   obtain ⟨⟨cR,cS,cB,cT⟩,A8,H⟩:=ybi H
   try dsimp only at H
   obtain ⟨⟨bd,fZ⟩,A9,H⟩:=ybi H
   try dsimp only at H
   obtain ⟨⟨cC,cD,ci,cE,f5⟩,A10,H⟩:=ybi H
   try dsimp only at H
   have eF:=zm H;clear H
   go_enter Try.func20,Try.ntmps20
   go_upto_region 9 with (first|((with_reducible refine gate_dst (N:=8) rfl ?_);refine ybx 8 #[.bool false, .slice none 0 0, .slice none 0 0] 25 ?_;intro aq hg w12 hbox hb;have af:=zm (hbox);have et:=ygw hg;have eu:=ygw hg;replace HB:=ybs hb;clear hb hbox hg)|((with_reducible refine gate_callee (f:=48) rfl ?_);refine ygl 31 Try.func48 #[.int .i64 a0, .int .i64 a1] ?_;(with_reducible refine (alloc_Right.calls a0 a1 true _ A5.out).mono ?_);rintro e w' ⟨rfl,⟨nd,rfl⟩⟩;refine ⟨_,rfl, ?_⟩;(try (rw [drewN_self w12];generalize hq_ : World.drewN w12 _=w12;replace af:=ykq hq_ af;replace HB:=ysq hq_;clear hq_)))|((with_reducible refine gate_callee (f:=49) rfl ?_);refine ygl 40 Try.func49 #[.slice A2 l2.length c2] ?_;(with_reducible refine (coder_Open.calls (fun k_=>k_ < w.heap.size) _ _ l2 cR cS cB cT _ ?br A8.out).mono ?_);(case br=>exact Kd.V_mk HC2.out (Kd.F_below (Kd.C_F (Kd.heap_int .u8) HR2.out) yhb));rintro e w13 ⟨gM,rfl,ho0,hb⟩;refine ⟨_,rfl, ?_⟩;have bD:=yho (fun k_=>k_≠aq) ho0 (fun k_ hk_=>yoB af hk_);replace af:=ybb af hb;replace HB:=ybs hb;(try clear hb);(try clear ho0))|((with_reducible refine gate_dst (N:=10) rfl ?_);refine ybx 10 #[.int .u64 0, .int .u32 0, .slice none 0 0, .int .i64 0] 82 ?_;intro aj hg w14 hbox hb;replace bD:=yVe bD hg hb;have ag:=zm (hbox);have gx:=ygw hg;have gy:=ygw hg;replace HB:=ybs hb;have bg:=ynl af hg;have bh:=yng af hg;replace af:=ybb af hb;clear hb hbox hg;have:=bh.out;have:=bg.out;obtain ⟨dy,dz,dA,dB,dC,dD,dE,dF⟩:=yc4 ag;obtain ⟨eG,dG,f6⟩:=Kd.V_slice bD.out;subst f6)|((with_reducible refine gate_callee (f:=50) rfl ?_);refine ygl 43 Try.func50 #[.agg #[.int .u64 cR, .int .u32 cS, .slice eG cB.length dG, .int .i64 cT], .int .i64 2] ?_;(with_reducible refine (coder_Get.calls cR cS _ _ cB cT 2 bd fZ _ ?br ?bQ A9.out).mono ?_);(case br=>refine (Kd.V_reads' (e:=5) (base:=w.heap.size) (ok:=fun k_=>(k_≠aq∧k_≠aj)) (n:=cB.length) (c:=dG) ?_).2.2;exact (yV0 bD));(case bQ=>exact (Kd.V_reads' bD.out).2.1);rintro e w18 ⟨rfl,hb⟩;refine ⟨_,rfl, ?_⟩;replace bD:=zm (Kd.V_below (yV0 bD) hb);replace af:=ybb af hb;replace ag:=zm (zF (g:=aj) (o:=.cells #[.int .u64 cR, .int .u32 cS, .slice eG cB.length dG, .int .i64 cT] 82 (0,0)) (ykp ag) hb);replace HB:=ybs hb;(try clear hb);obtain ⟨dH,dI,dJ,dK,dL,dM,dN,dO⟩:=yc4 ag)|((with_reducible refine gate_callee (f:=51) rfl ?_);refine ygl 51 Try.func51 #[.agg #[.int .u64 cR, .int .u32 cS, .slice eG cB.length dG, .int .i64 cT], .int .i64 bd, .int .i64 (wrap64 (bd+1)), .int .i64 2] ?_;(with_reducible refine (coder_Take.calls k cR cS (fun k_=>(k_≠aq∧k_≠aj)) _ _ cB cT bd (wrap64 (bd+1)) 2 cC cD ci cE f5 _ bD.out A10.out).mono ?_);rintro e w20 ⟨gN,rfl,ho0,hb⟩;refine ⟨_,rfl, ?_⟩;replace bD:=yVb bD hb;have cw:=yho (fun k_=>k_≠aq∧k_≠aj) ho0 (fun k_ hk_=>⟨yoB af hk_,yoB ag hk_⟩);replace af:=ybb af hb;replace ag:=ybb ag hb;replace HB:=ybs hb;(try clear hb);(try clear ho0);obtain ⟨dP,dQ,dR,dS,dT,dU,dV,dW⟩:=yc4 ag;obtain ⟨cU,cV,f7⟩:=Kd.V_slice cw.out;subst f7)|((with_reducible refine gate_dst (N:=13) rfl ?_);refine ybx 13 #[.bool false, .slice none 0 0, .slice none 0 0] 25 ?_;intro ak hg w23 hbox hb;replace bD:=zm (Kd.V_below (Kd.V_elderB (yV0 bD) ak (Nat.le_of_eq hg.symm)) hb);replace cw:=zm (Kd.V_below (Kd.V_elderB (yV0 cw) ak (Nat.le_of_eq hg.symm)) hb);have ah:=zm (hbox);have gz:=ygw hg;have gA:=ygw hg;replace HB:=ybs hb;have bi:=ynl af hg;have bj:=yng af hg;replace af:=ybb af hb;have aT:=zm ((by rw [hg];exact zn (zD (g:=aj) (o:=.cells #[.int .u64 cC, .int .u32 cD, .slice cU ci.length cV, .int .i64 cE] 82 (0,0)) (ykp ag)) : aj≠ak));have aU:=zm ((by rw [hg];exact zg (zD (g:=aj) (o:=.cells #[.int .u64 cC, .int .u32 cD, .slice cU ci.length cV, .int .i64 cE] 82 (0,0)) (ykp ag)) : ak≠aj));replace ag:=zm (zF (g:=aj) (o:=.cells #[.int .u64 cC, .int .u32 cD, .slice cU ci.length cV, .int .i64 cE] 82 (0,0)) (ykp ag) hb);clear hb hbox hg;have:=bj.out;have:=bi.out;have:=aU.out;have:=aT.out;obtain ⟨dX,dY,dZ,d5,d6,d7⟩:=yc3 ah))
   (try simp only [Act.put,List.setIfInBounds_toArray,List.set_cons_zero,List.set_cons_succ])
   go_cut [65] (fun v65 wc => ∃ (kq : Nat) (cp : Bool),v65=.bool cp∧Aside0 (cpack_Read.j0 kq a0 a1 l3 cp cC cD ci cE (bd == 1)=some (r1,r2,r3,r4))∧Aside0 (kq≤k)∧Aside0 (Kd.V (Kd.int .u8) 5 wc w.heap.size (fun k_=>k_≠aq∧k_≠aj∧k_≠ak) (.slice cU ci.length cV) ci)∧Aside0 (wc.heap[aq]? = some (.cells #[.bool false,(.slice none 0 0),(.slice none 0 0)] 25 (0,0)))∧Aside0 (wc.heap[aj]? = some (.cells #[.int .u64 cC, .int .u32 cD,(.slice cU ci.length cV), .int .i64 cE] 82 (0,0)))∧Aside0 (wc.heap[ak]? = some (.cells #[.bool (bd == 1),(.slice none 0 0),(.slice none 0 0)] 25 (0,0)))∧Aside0 (Below w.heap.size w wc))
   case first =>
    have H:=eF.out;clear eF
    by_cases c27 : bd=1
    ·
     rw [if_pos c27] at H
     obtain ⟨b8,eW⟩:=yE c27
     clear c27
     (first|rw [b8]|(simp only [i64_w,i32_w];rw [b8])|skip)
     have H' := zm H
     clear H
     have:=bj.out
     have:=bi.out
     have:=aU.out
     have:=aT.out
     obtain ⟨_,_,_,_,_,_⟩:=yc3 ah
     go_wp2
     go_meet
     case rel=>exact ⟨_,(false),yq,H',⟨yo⟩,⟨yV0 cw⟩,⟨yk af⟩,⟨yk ag⟩,⟨by rw [b8];(with_reducible repeat (first|refine zh ?_ _|refine zj ?_|refine zi ?_ _));refine zw (cs := #[.bool true, .slice none 0 0, .slice none 0 0]) ?_ 2 _ rfl;(with_reducible repeat (first|refine zh ?_ _|refine zj ?_|refine zi ?_ _));refine zw (cs := #[.bool true, .slice none 0 0, .slice none 0 0]) ?_ 1 _ rfl;(with_reducible repeat (first|refine zh ?_ _|refine zj ?_|refine zi ?_ _));refine zw (cs := #[.bool false, .slice none 0 0, .slice none 0 0]) ?_ 0 _ rfl;(with_reducible repeat (first|refine zh ?_ _|refine zj ?_|refine zi ?_ _));exact ah.out⟩,⟨yhb⟩⟩
    rw [if_neg c27] at H
    obtain ⟨b8,eW⟩:=yF c27
    (first|rw [b8]|(simp only [i64_w,i32_w];rw [b8])|skip)
    obtain ⟨dx,A31,H⟩:=ybi H
    have H' := zm H
    clear H
    have:=bj.out
    have:=bi.out
    have:=aU.out
    have:=aT.out
    obtain ⟨_,_,_,_,_,_⟩:=yc3 ah
    go_wp2_with (first|(go_at_call 25;(with_reducible refine (cpack_gains.calls k a1 _ _ l3 dx _ ?br HC3.out A31.out).mono ?_);(case br=>exact Kd.C_below HR3.out yhb);rintro e w' ⟨rfl,⟨nd,rfl⟩⟩))
    go_meet
    case rel=>exact ⟨_,(!dx),yq,H',⟨yo⟩,⟨yV0 cw⟩,⟨yk af⟩,⟨yk ag⟩,⟨by rw [b8];(with_reducible repeat (first|refine zh ?_ _|refine zj ?_|refine zi ?_ _));refine zw (cs := #[.bool false, .slice none 0 0, .slice none 0 0]) ?_ 2 _ rfl;(with_reducible repeat (first|refine zh ?_ _|refine zj ?_|refine zi ?_ _));refine zw (cs := #[.bool false, .slice none 0 0, .slice none 0 0]) ?_ 1 _ rfl;(with_reducible repeat (first|refine zh ?_ _|refine zj ?_|refine zi ?_ _));refine zw (cs := #[.bool false, .slice none 0 0, .slice none 0 0]) ?_ 0 _ rfl;(with_reducible repeat (first|refine zh ?_ _|refine zj ?_|refine zi ?_ _));exact ah.out⟩,⟨yhb⟩⟩
   case rest =>
    clear eF
    try clear c2
    try clear c3
    try clear eU
    try clear eV
    try clear dy
    try clear dz
    try clear dA
    try clear dB
    try clear dH
    try clear dI
    try clear dJ
    try clear dK
    try clear dP
    try clear dQ
    try clear dR
    try clear dS
    try clear dX
    try clear dY
    try clear dZ
    try clear dC
    try clear dD
    try clear dE
    try clear dF
    try clear dL
    try clear dM
    try clear dN
    try clear dO
    try clear dT
    try clear dU
    try clear dV
    try clear dW
    try clear d5
    try clear d6
    try clear d7
    obtain ⟨kq,cp,rfl,HA,cx,ac,af,ag,ah,HB⟩:=hcut
    obtain ⟨eX,rfl⟩:=ysu kq (fun h=>by subst h;exact absurd HA.out (by simp [cpack_Read.j0]))
    have H:=HA.out;clear HA
    simp only [cpack_Read.j0] at H
    by_cases c35 : cp=true
    ·
     subst c35
     rw [if_pos rfl] at H
     simp only [Option.some.injEq,Prod.mk.injEq] at H
     obtain ⟨rfl,rfl,rfl,rfl⟩:=H
     have:=bg.out
     have:=bh.out
     have:=bi.out
     have:=bj.out
     obtain ⟨d8,d9,ea,eb,ec,ed⟩:=yc3 af
     go_wp2
     refine bodyPost_ret (results_ct rfl _ _ aq 25 #[.bool false, .slice none 0 0, .slice none 0 0] (0,0) _ rfl (ykp af) Try.underlying25 rfl (by kernel_rfl)) rfl ?_
     exact ⟨_,_,ye,yn,yn,yhb⟩
    replace c35:=Bool.eq_false_iff.mpr c35
    subst c35
    rw [ynf] at H
    have H' := zm H
    clear H
    go_wp2
    go_loopg [68] eX (fun kq v68 w' => ∃ (bL : Int) (az : Int) (aA : Int) (ap : List Int) (aC : Int) (ae : List (List Int)) (a9 : Value) (ao : Value),v68=.int .i64 bL∧Aside0 (cpack_Read.l0 kq a0 a1 l3 a1 bL az aA ap aC (bd == 1) ae=some (r1,r2,r3,r4))∧Aside0 (kq≤eX)∧Aside0 (Kd.V (Kd.int .u8) 5 w' w.heap.size (fun k_=>some k_≠(ao : Value).ownBlock∧k_≠aq∧k_≠aj∧k_≠ak) a9 ap)∧Aside0 (Kd.S (Kd.slice 3 (Kd.int .i64)) 49 w' w.heap.size (fun _=>True) ao ae)∧Aside0 (w'.heap[aq]? = some (.cells #[.bool false,(.slice none 0 0),(.slice none 0 0)] 25 (0,0)))∧Aside0 (w'.heap[aj]? = some (.cells #[.int .u64 az, .int .u32 aA,a9, .int .i64 aC] 82 (0,0)))∧Aside0 (w'.heap[ak]? = some (.cells #[.bool (bd == 1),ao,(.slice none 0 0)] 25 (0,0)))∧Aside0 (Below w.heap.size w w'))
    case atStart=>exact ⟨(0),(cC),(cD),(ci),(cE),(([] : List (List Int))),(.slice cU ci.length cV),(.slice none 0 0),yq,H',⟨Nat.le_refl _⟩,⟨yV0 ac⟩,⟨yn⟩,⟨yk af⟩,⟨yk ag⟩,⟨yk ah⟩,⟨yhb⟩⟩
    case round =>
     clear H'
     try clear d8
     try clear d9
     try clear ea
     try clear eb
     try clear ec
     try clear ed
     obtain ⟨bL,az,aA,ap,aC,ae,a9,ao,rfl,HA,HK2,ac,aa,af,ag,ah,HB⟩:=hrel
     obtain ⟨k2,rfl⟩:=ysu gk (fun h=>by subst h;exact absurd HA.out (by simp [cpack_Read.l0]))
     have H:=HA.out;clear HA
     simp only [cpack_Read.l0] at H
     by_cases c39 : bL < a1
     ·
      rw [if_pos c39] at H
      have ev:=yD c39
      clear c39
      obtain ⟨bK,A40,H⟩:=ybi H
      obtain ⟨⟨b9,ca,bV,cb,bW,cW⟩,A41,H⟩:=ybi H
      try dsimp only at H
      obtain ⟨c42,H⟩:=yif H
      have LMc42:=zm c42;clear c42
      obtain ⟨eH,df⟩ : ∃ y_ : List (List Int),y_=(ae ++ [bW]):=⟨_,rfl⟩
      replace H : (cpack_Read.l0 k2 a0 a1 l3 a1 (wrap64 (bL+1)) b9 ca bV cb (bd == 1) eH)=some (r1,r2,r3,r4):=yrw df H
      have eY:=zm df;clear df
      have H' := zm H
      clear H
      obtain ⟨bX,bY,f8⟩:=Kd.V_slice ac.out
      subst f8
      try go_wp2
      replace ac:=zm (zC ac.out)
      replace aa:=zm (Kd.S_drew aa.out)
      replace af:=zm (zj af.out)
      replace ag:=zm (zj ag.out)
      replace ah:=zm (zj ah.out)
      replace HB:=zm (zf HB.out)
      refine yst (fun w' => w'.cell? ⟨aj,0,none⟩=some (.int .u64 az)∧w'.cell? ⟨aj,1,none⟩=some (.int .u32 aA)∧w'.cell? ⟨aj,2,none⟩=some (.slice bX ap.length bY)∧w'.cell? ⟨aj,3,none⟩=some (.int .i64 aC)∧w'.cell? ⟨ak,0,none⟩=some (.bool (bd == 1))∧w'.cell? ⟨ak,1,none⟩=some (ao)∧w'.cell? ⟨ak,2,none⟩=some (.slice none 0 0)) [] 15 cpack_Read.tab14 cpack_Read.bits14 (fun hHeld HT_ HW_ => ?_)
      generalize wr.drew=w44 at ac aa af ag ah HB hHeld ⊢
      refine yp 1 73 HT_ ?_
      refine yp 2 74 HT_ ?_
      refine yp 4 76 HT_ ?_
      refine yl 0 72 HT_ HW_ hHeld ?_
      refine yl 5 77 HT_ HW_ hHeld ?_
      refine join_ (σ:=Value × Value × Value × Nat) 3 #[true,true,true,true,true,true,true,true,true,true,true,true,false,false,false] (fun s_ => [(75,s_.1),(78, .tuple #[.agg #[.int .u64 b9, .int .u32 ca,s_.2.1, .int .i64 cb],s_.2.2.1, .int .i64 cW]),(15, .pointer (some ⟨s_.2.2.2,0,none⟩)),(71, .tuple #[.agg #[.int .u64 b9, .int .u32 ca,s_.2.1, .int .i64 cb],s_.2.2.1, .int .i64 cW]),(79, .agg #[.int .u64 b9, .int .u32 ca,s_.2.1, .int .i64 cb]),(80,s_.2.2.1),(81, .int .i64 cW)]) (fun s_ w' => (w'.cell? ⟨aj,0,none⟩=some (.int .u64 az)∧w'.cell? ⟨aj,1,none⟩=some (.int .u32 aA)∧w'.cell? ⟨aj,2,none⟩=some (.slice bX ap.length bY)∧w'.cell? ⟨aj,3,none⟩=some (.int .i64 aC)∧w'.cell? ⟨ak,0,none⟩=some (.bool (bd == 1))∧w'.cell? ⟨ak,1,none⟩=some (ao)∧w'.cell? ⟨ak,2,none⟩=some (.slice none 0 0))∧(Kd.V (Kd.int .i64) 3 w' w.heap.size (fun k_=>some k_≠(s_.2.2.1 : Value).ownBlock∧some k_≠(ao : Value).ownBlock∧k_≠aq∧k_≠aj∧k_≠ak∧k_≠s_.2.2.2) s_.1 bK)∧(Kd.V (Kd.int .u8) 5 w' w.heap.size (fun k_=>some k_≠(s_.2.2.1 : Value).ownBlock∧some k_≠(ao : Value).ownBlock∧k_≠aq∧k_≠aj∧k_≠ak∧k_≠s_.2.2.2) s_.2.1 bV)∧(Kd.R (Kd.int .i64) 3 w' w.heap.size (fun _=>True) s_.2.2.1 bW)∧(Kd.V (Kd.int .u8) 5 w' w.heap.size (fun k_=>some k_≠(s_.2.2.1 : Value).ownBlock∧some k_≠(ao : Value).ownBlock∧k_≠aq∧k_≠aj∧k_≠ak∧k_≠s_.2.2.2) (.slice bX ap.length bY) ap)∧(Kd.S (Kd.slice 3 (Kd.int .i64)) 49 w' w.heap.size (fun k_=>some k_≠(s_.2.2.1 : Value).ownBlock) ao ae)∧(w'.heap[aq]? = some (.cells #[.bool false, .slice none 0 0, .slice none 0 0] 25 (0,0)))∧(w'.heap[aj]? = some (.cells #[.int .u64 az, .int .u32 aA, .slice bX ap.length bY, .int .i64 aC] 82 (0,0)))∧(w'.heap[ak]? = some (.cells #[.bool (bd == 1),ao, .slice none 0 0] 25 (0,0)))∧(w'.heap[s_.2.2.2]? = some (.cells #[.int .u64 0, .int .u32 0, .slice none 0 0, .int .i64 0] 82 (0,0)))∧(w.heap.size≤s_.2.2.2)∧(w.heap.size≤s_.2.2.2)∧(aq≠s_.2.2.2)∧(s_.2.2.2≠aq)∧(aj≠s_.2.2.2)∧(s_.2.2.2≠aj)∧(ak≠s_.2.2.2)∧(s_.2.2.2≠ak)∧(Below w.heap.size w w')) ?_ ?_
      rotate_left
      ·
       intro hCont
       refine two_ (i:=3) (j:=11) (Ni:=some 75) (Nj:=some 15) #[true,true,true,true,true,true,false,false,false,false,false,false,false,false,false] #[true,true,true,false,true,true,false,false,false,false,false,true,false,false,false] rfl rfl rfl rfl (two_of HT_.out (by kernel_rfl)) (by decide) (by decide) (fun K hK => ?_) (fun K hK => ?_)
       ·
        skip
        refine ygs Try.func29 #[.slice A3 l3.length c3, .int .i64 bL] ?_
        with_reducible refine (cpack_of.calls (fun k_=>k_ < w.heap.size) _ _ l3 bL bK _ ?br A40.out).mono ?_
        (case br=>exact Kd.V_mk HC3.out (Kd.F_below (Kd.C_F (Kd.heap_slice 3 (Kd.heap_int .i64)) HR3.out) yhb))
        rintro e w45 ⟨ee,rfl,ho0,hb⟩
        refine ⟨_,rfl, ?_⟩
        replace ac:=yVb ac hb
        have aM:=yho (fun k_=>some k_≠(ao : Value).ownBlock∧k_≠aq∧k_≠aj∧k_≠ak) ho0 (fun k_ hk_=>⟨yoS aa hk_,yoB af hk_,yoB ag hk_,yoB ah hk_⟩)
        replace aa:=ySb aa hb
        replace af:=ybb af hb
        replace ag:=ybb ag hb
        replace ah:=ybb ah hb
        replace HB:=ybs hb
        (try clear hb)
        (try clear ho0)
        obtain ⟨eZ,e8,e9⟩:=Kd.V_slice aM.out
        (first|subst e9|(injection e9 with f1_ f2_ f3_;have f4_:=f1_.symm;have f5_:=f3_.symm;clear f1_ f2_ f3_;subst f4_;subst f5_))
        refine hK.out _ _ yH (fun hHeld => ?_)
        clear hK K
        refine ym (some 75) ?_
        refine two_ (i:=6) (j:=11) (Ni:=some 78) (Nj:=some 15) #[true,true,true,true,true,true,true,false,false,false,false,false,false,false,false] #[true,true,true,true,true,true,false,false,false,false,false,true,false,false,false] rfl rfl rfl rfl (two_of HT_.out (by kernel_rfl)) (by decide) (by decide) (fun K hK => ?_) (fun K hK => ?_)
        ·
         skip
         refine ygs Try.func52 #[.agg #[.int .u64 az, .int .u32 aA, .slice bX ap.length bY, .int .i64 aC], .slice eZ bK.length e8, .bool (bd == 1)] ?_
         with_reducible refine (gain_Take.calls k2 az aA (fun k_=>(some k_≠(ao : Value).ownBlock∧(k_≠aq∧(k_≠aj∧k_≠ak)))) _ _ ap aC _ _ bK (bd == 1) b9 ca bV cb bW cW _ ?br ?bQ ?cy A41.out).mono ?_
         (case br=>exact ac.out)
         (case bQ=>exact yce (Kd.V_reads' aM.out).2.2)
         (case cy=>exact (Kd.V_reads' aM.out).2.1)
         rintro e w47 ⟨cF,bC,rfl,ho0,ho1,hb⟩
         refine ⟨_,rfl, ?_⟩
         replace ac:=zm (Kd.V_elder' (yr ac) (Kd.R_base ho1) hb)
         replace aM:=zm (Kd.V_elder' (yr aM) (Kd.R_base ho1) hb)
         have bs:=yho (fun k_=>some k_≠(bC : Value).ownBlock∧some k_≠(ao : Value).ownBlock∧k_≠aq∧k_≠aj∧k_≠ak) ho0 (fun k_ hk_=>⟨hk_.2,Or.elim hk_.1 (fun hs_=>hs_.1) (fun hn_=>(Kd.fresh' (Kd.S_lt (yr aa)) k_ hn_)),Or.elim hk_.1 (fun hs_=>hs_.2.1) (fun hn_=>(Kd.freshB (yk af) k_ hn_)),Or.elim hk_.1 (fun hs_=>hs_.2.2.1) (fun hn_=>(Kd.freshB (yk ag) k_ hn_)),Or.elim hk_.1 (fun hs_=>hs_.2.2.2) (fun hn_=>(Kd.freshB (yk ah) k_ hn_))⟩)
         replace aa:=zm (Kd.S_elder' (yr aa) (Kd.R_base ho1) hb)
         have bu:=zm (Kd.R_lower (zG (ok' := fun k_=>True) ho1 (fun _ hk_=>trivial)) (zE yhb))
         replace af:=ybb af hb
         replace ag:=ybb ag hb
         replace ah:=ybb ah hb
         replace HB:=ybs hb
         (try clear hb)
         (try clear ho0)
         (try clear ho1)
         refine hK.out _ _ yH (fun hHeld => ?_)
         clear hK K
         refine ym (some 78) ?_
         refine yp 7 71 HT_ ?_
         refine yp 8 79 HT_ ?_
         refine yp 9 80 HT_ ?_
         refine yp 10 81 HT_ ?_
         refine yw 11 15 HT_ (fun K hK => ?_)
         refine box_step ?hg (N:=15) ?hd (cs := #[.int .u64 0, .int .u32 0, .slice none 0 0, .int .i64 0]) (t:=82) ?hr ?_;(case hd=>rfl);(case hg=>rfl);(case hr=>first|(go_simp;done)|(go_simp;rfl))
         intro ay hg w48 hbox hb
         replace ac:=yVe ac hg hb
         replace aa:=ySb aa hb
         replace aM:=yVe aM hg hb
         replace bs:=yVe bs hg hb
         replace bu:=yRb bu hb
         have aD:=zm (hbox)
         have cl:=ygw hg
         have cm:=ygw hg
         replace HB:=ybs hb
         have ba:=ynl af hg
         have bb:=yng af hg
         replace af:=ybb af hb
         have aG:=ynl ag hg
         have aH:=yng ag hg
         replace ag:=ybb ag hb
         have aX:=ynl ah hg
         have aY:=yng ah hg
         replace ah:=ybb ah hb
         clear hb hbox hg
         refine hK.out _ _ yH (fun hHeld => ?_)
         clear hK K
         refine ym (some 15) ?_
         exact norm_ (by simp only [putAll,Act.put,List.setIfInBounds_toArray,List.set_cons_zero,List.set_cons_succ]) (hCont (.slice eZ bK.length e8,cF,bC,ay) _ ⟨hHeld,(yV0 aM),(yV0 bs),(yr bu),(yV0 ac),(yS0 aa),(yk af),(yk ag),(yk ah),(yk aD),cl.out,cm.out,ba.out,bb.out,aG.out,aH.out,aX.out,aY.out,yhb⟩)
        skip
        refine box_step ?hg (N:=15) ?hd (cs := #[.int .u64 0, .int .u32 0, .slice none 0 0, .int .i64 0]) (t:=82) ?hr ?_;(case hd=>rfl);(case hg=>rfl);(case hr=>first|(go_simp;done)|(go_simp;rfl))
        intro ay hg w46 hbox hb
        replace ac:=yVe ac hg hb
        replace aa:=ySb aa hb
        replace aM:=yVe aM hg hb
        have aD:=zm (hbox)
        have cl:=ygw hg
        have cm:=ygw hg
        replace HB:=ybs hb
        have ba:=ynl af hg
        have bb:=yng af hg
        replace af:=ybb af hb
        have aG:=ynl ag hg
        have aH:=yng ag hg
        replace ag:=ybb ag hb
        have aX:=ynl ah hg
        have aY:=yng ah hg
        replace ah:=ybb ah hb
        clear hb hbox hg
        obtain ⟨dg,dh,di⟩:=Kd.V_slice aM.out
        (first|subst di|(injection di with f1_ f2_ f3_;have f4_:=f1_.symm;have f5_:=f3_.symm;clear f1_ f2_ f3_;subst f4_;subst f5_))
        refine hK.out _ _ yH (fun hHeld => ?_)
        clear hK K
        refine ym (some 15) ?_
        refine yw 6 78 HT_ (fun K hK => ?_)
        refine ygs Try.func52 #[.agg #[.int .u64 az, .int .u32 aA, .slice bX ap.length bY, .int .i64 aC], .slice dg bK.length dh, .bool (bd == 1)] ?_
        with_reducible refine (gain_Take.calls k2 az aA (fun k_=>((some k_≠(ao : Value).ownBlock∧(k_≠aq∧(k_≠aj∧k_≠ak)))∧k_≠ay)) _ _ ap aC _ _ bK (bd == 1) b9 ca bV cb bW cW _ ?br ?bQ ?cy A41.out).mono ?_
        (case br=>exact ac.out)
        (case bQ=>exact yce (Kd.V_reads' aM.out).2.2)
        (case cy=>exact (Kd.V_reads' aM.out).2.1)
        rintro e w48 ⟨cF,bC,rfl,ho0,ho1,hb⟩
        refine ⟨_,rfl, ?_⟩
        replace ac:=zm (Kd.V_elder' (yr ac) (Kd.R_base ho1) hb)
        replace aM:=zm (Kd.V_elder' (yr aM) (Kd.R_base ho1) hb)
        have bs:=yho (fun k_=>some k_≠(bC : Value).ownBlock∧some k_≠(ao : Value).ownBlock∧k_≠aq∧k_≠aj∧k_≠ak∧k_≠ay) ho0 (fun k_ hk_=>⟨hk_.2,Or.elim hk_.1 (fun hs_=>hs_.1.1) (fun hn_=>(Kd.fresh' (Kd.S_lt (yr aa)) k_ hn_)),Or.elim hk_.1 (fun hs_=>hs_.1.2.1) (fun hn_=>(Kd.freshB (yk af) k_ hn_)),Or.elim hk_.1 (fun hs_=>hs_.1.2.2.1) (fun hn_=>(Kd.freshB (yk ag) k_ hn_)),Or.elim hk_.1 (fun hs_=>hs_.1.2.2.2) (fun hn_=>(Kd.freshB (yk ah) k_ hn_)),Or.elim hk_.1 (fun hs_=>hs_.2) (fun hn_=>(Kd.freshB (yk aD) k_ hn_))⟩)
        replace aa:=zm (Kd.S_elder' (yr aa) (Kd.R_base ho1) hb)
        have bu:=zm (Kd.R_lower (zG (ok' := fun k_=>True) ho1 (fun _ hk_=>trivial)) (zE yhb))
        replace af:=ybb af hb
        replace ag:=ybb ag hb
        replace ah:=ybb ah hb
        replace aD:=ybb aD hb
        replace HB:=ybs hb
        (try clear hb)
        (try clear ho0)
        (try clear ho1)
        refine hK.out _ _ yH (fun hHeld => ?_)
        clear hK K
        refine ym (some 78) ?_
        refine yp 7 71 HT_ ?_
        refine yp 8 79 HT_ ?_
        refine yp 9 80 HT_ ?_
        refine yp 10 81 HT_ ?_
        exact norm_ (by simp only [putAll,Act.put,List.setIfInBounds_toArray,List.set_cons_zero,List.set_cons_succ]) (hCont (.slice dg bK.length dh,cF,bC,ay) _ ⟨hHeld,(yV0 aM),(yr bs),(yr bu),(yV0 ac),(yS0 aa),(yk af),(yk ag),(yk ah),(yk aD),cl.out,cm.out,ba.out,bb.out,aG.out,aH.out,aX.out,aY.out,yhb⟩)
       skip
       refine box_step ?hg (N:=15) ?hd (cs := #[.int .u64 0, .int .u32 0, .slice none 0 0, .int .i64 0]) (t:=82) ?hr ?_;(case hd=>rfl);(case hg=>rfl);(case hr=>first|(go_simp;done)|(go_simp;rfl))
       intro ay hg w45 hbox hb
       replace ac:=yVe ac hg hb
       replace aa:=ySb aa hb
       have aD:=zm (hbox)
       have cl:=ygw hg
       have cm:=ygw hg
       replace HB:=ybs hb
       have ba:=ynl af hg
       have bb:=yng af hg
       replace af:=ybb af hb
       have aG:=ynl ag hg
       have aH:=yng ag hg
       replace ag:=ybb ag hb
       have aX:=ynl ah hg
       have aY:=yng ah hg
       replace ah:=ybb ah hb
       clear hb hbox hg
       refine hK.out _ _ yH (fun hHeld => ?_)
       clear hK K
       refine ym (some 15) ?_
       refine yw 3 75 HT_ (fun K hK => ?_)
       refine ygs Try.func29 #[.slice A3 l3.length c3, .int .i64 bL] ?_
       with_reducible refine (cpack_of.calls (fun k_=>k_ < w.heap.size) _ _ l3 bL bK _ ?br A40.out).mono ?_
       (case br=>exact Kd.V_mk HC3.out (Kd.F_below (Kd.C_F (Kd.heap_slice 3 (Kd.heap_int .i64)) HR3.out) yhb))
       rintro e w46 ⟨ee,rfl,ho0,hb⟩
       refine ⟨_,rfl, ?_⟩
       replace ac:=yVb ac hb
       have aM:=yho (fun k_=>some k_≠(ao : Value).ownBlock∧k_≠aq∧k_≠aj∧k_≠ak∧k_≠ay) ho0 (fun k_ hk_=>⟨yoS aa hk_,yoB af hk_,yoB ag hk_,yoB ah hk_,yoB aD hk_⟩)
       replace aa:=ySb aa hb
       replace af:=ybb af hb
       replace ag:=ybb ag hb
       replace ah:=ybb ah hb
       replace aD:=ybb aD hb
       replace HB:=ybs hb
       (try clear hb)
       (try clear ho0)
       obtain ⟨dg,dh,di⟩:=Kd.V_slice aM.out
       (first|subst di|(injection di with f1_ f2_ f3_;have f4_:=f1_.symm;have f5_:=f3_.symm;clear f1_ f2_ f3_;subst f4_;subst f5_))
       refine hK.out _ _ yH (fun hHeld => ?_)
       clear hK K
       refine ym (some 75) ?_
       refine yw 6 78 HT_ (fun K hK => ?_)
       refine ygs Try.func52 #[.agg #[.int .u64 az, .int .u32 aA, .slice bX ap.length bY, .int .i64 aC], .slice dg bK.length dh, .bool (bd == 1)] ?_
       with_reducible refine (gain_Take.calls k2 az aA (fun k_=>((some k_≠(ao : Value).ownBlock∧(k_≠aq∧(k_≠aj∧k_≠ak)))∧k_≠ay)) _ _ ap aC _ _ bK (bd == 1) b9 ca bV cb bW cW _ ?br ?bQ ?cy A41.out).mono ?_
       (case br=>exact ac.out)
       (case bQ=>exact yce (Kd.V_reads' aM.out).2.2)
       (case cy=>exact (Kd.V_reads' aM.out).2.1)
       rintro e w48 ⟨cF,bC,rfl,ho0,ho1,hb⟩
       refine ⟨_,rfl, ?_⟩
       replace ac:=zm (Kd.V_elder' (yr ac) (Kd.R_base ho1) hb)
       replace aM:=zm (Kd.V_elder' (yr aM) (Kd.R_base ho1) hb)
       have bs:=yho (fun k_=>some k_≠(bC : Value).ownBlock∧some k_≠(ao : Value).ownBlock∧k_≠aq∧k_≠aj∧k_≠ak∧k_≠ay) ho0 (fun k_ hk_=>⟨hk_.2,Or.elim hk_.1 (fun hs_=>hs_.1.1) (fun hn_=>(Kd.fresh' (Kd.S_lt (yr aa)) k_ hn_)),Or.elim hk_.1 (fun hs_=>hs_.1.2.1) (fun hn_=>(Kd.freshB (yk af) k_ hn_)),Or.elim hk_.1 (fun hs_=>hs_.1.2.2.1) (fun hn_=>(Kd.freshB (yk ag) k_ hn_)),Or.elim hk_.1 (fun hs_=>hs_.1.2.2.2) (fun hn_=>(Kd.freshB (yk ah) k_ hn_)),Or.elim hk_.1 (fun hs_=>hs_.2) (fun hn_=>(Kd.freshB (yk aD) k_ hn_))⟩)
       replace aa:=zm (Kd.S_elder' (yr aa) (Kd.R_base ho1) hb)
       have bu:=zm (Kd.R_lower (zG (ok' := fun k_=>True) ho1 (fun _ hk_=>trivial)) (zE yhb))
       replace af:=ybb af hb
       replace ag:=ybb ag hb
       replace ah:=ybb ah hb
       replace aD:=ybb aD hb
       replace HB:=ybs hb
       (try clear hb)
       (try clear ho0)
       (try clear ho1)
       refine hK.out _ _ yH (fun hHeld => ?_)
       clear hK K
       refine ym (some 78) ?_
       refine yp 7 71 HT_ ?_
       refine yp 8 79 HT_ ?_
       refine yp 9 80 HT_ ?_
       refine yp 10 81 HT_ ?_
       exact norm_ (by simp only [putAll,Act.put,List.setIfInBounds_toArray,List.set_cons_zero,List.set_cons_succ]) (hCont (.slice dg bK.length dh,cF,bC,ay) _ ⟨hHeld,(yV0 aM),(yr bs),(yr bu),(yV0 ac),(yS0 aa),(yk af),(yk ag),(yk ah),(yk aD),cl.out,cm.out,ba.out,bb.out,aG.out,aH.out,aX.out,aY.out,yhb⟩)
      rintro ⟨ee,cF,bC,ay⟩ w49 ⟨hS_,h0_,h1_,h2_,h3_,h4_,h5_,h6_,h7_,h8_,h9_,fa,fb,fc,fd,fe,ff,fg,fh⟩
      have n0_ : Aside0 (Kd.V (Kd.int .i64) 3 w49 w.heap.size (fun k_=>some k_≠(bC : Value).ownBlock∧some k_≠(ao : Value).ownBlock∧k_≠aq∧k_≠aj∧k_≠ak∧k_≠ay) ee bK):=⟨h0_⟩
      have n1_ : Aside0 (Kd.V (Kd.int .u8) 5 w49 w.heap.size (fun k_=>some k_≠(bC : Value).ownBlock∧some k_≠(ao : Value).ownBlock∧k_≠aq∧k_≠aj∧k_≠ak∧k_≠ay) cF bV):=⟨h1_⟩
      have n2_ : Aside0 (Kd.R (Kd.int .i64) 3 w49 w.heap.size (fun _=>True) bC bW):=⟨h2_⟩
      have n3_ : Aside0 (Kd.V (Kd.int .u8) 5 w49 w.heap.size (fun k_=>some k_≠(bC : Value).ownBlock∧some k_≠(ao : Value).ownBlock∧k_≠aq∧k_≠aj∧k_≠ak∧k_≠ay) (.slice bX ap.length bY) ap):=⟨h3_⟩
      have n4_ : Aside0 (Kd.S (Kd.slice 3 (Kd.int .i64)) 49 w49 w.heap.size (fun k_=>some k_≠(bC : Value).ownBlock) ao ae):=⟨h4_⟩
      have n5_ : Aside0 (w49.heap[aq]? = some (.cells #[.bool false, .slice none 0 0, .slice none 0 0] 25 (0,0))):=⟨h5_⟩
      have n6_ : Aside0 (w49.heap[aj]? = some (.cells #[.int .u64 az, .int .u32 aA, .slice bX ap.length bY, .int .i64 aC] 82 (0,0))):=⟨h6_⟩
      have n7_ : Aside0 (w49.heap[ak]? = some (.cells #[.bool (bd == 1),ao, .slice none 0 0] 25 (0,0))):=⟨h7_⟩
      have n8_ : Aside0 (w49.heap[ay]? = some (.cells #[.int .u64 0, .int .u32 0, .slice none 0 0, .int .i64 0] 82 (0,0))):=⟨h8_⟩
      have n9_ : Aside0 (w.heap.size≤ay):=⟨h9_⟩
      have fi : Aside0 (w.heap.size≤ay):=⟨fa⟩
      have fj : Aside0 (aq≠ay):=⟨fb⟩
      have fk : Aside0 (ay≠aq):=⟨fc⟩
      have fl : Aside0 (aj≠ay):=⟨fd⟩
      have fm : Aside0 (ay≠aj):=⟨fe⟩
      have fo : Aside0 (ak≠ay):=⟨ff⟩
      have fp : Aside0 (ay≠ak):=⟨fg⟩
      have fq : Aside0 (Below w.heap.size w w49):=⟨fh⟩
      clear ac aa af ag ah HB h0_ h1_ h2_ h3_ h4_ h5_ h6_ h7_ h8_ h9_ fa fb fc fd fe ff fg fh;have aM:=n0_;have bs:=n1_;have bu:=n2_;have ac:=n3_;have aa:=n4_;have af:=n5_;have ag:=n6_;have ah:=n7_;have aD:=n8_;have cl:=n9_;have cm:=fi;have ba:=fj;have bb:=fk;have aG:=fl;have aH:=fm;have aX:=fo;have aY:=fp;have HB:=fq;clear n0_ n1_ n2_ n3_ n4_ n5_ n6_ n7_ n8_ n9_ fi fj fk fl fm fo fp fq
      have hHeld : w49.cell? ⟨aj,0,none⟩=some (.int .u64 az)∧w49.cell? ⟨aj,1,none⟩=some (.int .u32 aA)∧w49.cell? ⟨aj,2,none⟩=some (.slice bX ap.length bY)∧w49.cell? ⟨aj,3,none⟩=some (.int .i64 aC)∧w49.cell? ⟨ak,0,none⟩=some (.bool (bd == 1))∧w49.cell? ⟨ak,1,none⟩=some (ao)∧w49.cell? ⟨ak,2,none⟩=some (.slice none 0 0):=hS_
      obtain ⟨dj,dk,ft⟩:=Kd.V_slice bs.out
      (first|subst ft|(injection ft with f1_ f2_ f3_;have f4_:=f1_.symm;have f5_:=f3_.symm;clear f1_ f2_ f3_;subst f4_;subst f5_))
      refine norm_ (a' := ?_) ?_ ?_
      rotate_left
      ·
       simp only [putAll,Act.put,List.setIfInBounds_toArray,List.set_cons_zero,List.set_cons_succ]
       rfl
      refine yv 12 HT_ (fun K hK => ?_)
      have gO : w49.cell? ⟨ay,0,none⟩=some (.int .u64 0):=(zs aD.out 0).trans rfl
      have hfs50:=zx aD.out 0
      have:=ba.out
      have:=aG.out
      have:=aX.out
      have:=bb.out
      have:=aH.out
      have:=aY.out
      have gP : w49.cell? ⟨ay,1,none⟩=some (.int .u32 0):=(zs aD.out 1).trans rfl
      have hfs51:=zx aD.out 1
      have:=ba.out
      have:=aG.out
      have:=aX.out
      have:=bb.out
      have:=aH.out
      have:=aY.out
      have gQ : w49.cell? ⟨ay,2,none⟩=some (.slice none 0 0):=(zs aD.out 2).trans rfl
      have hfs53:=zx aD.out 2
      have:=ba.out
      have:=aG.out
      have:=aX.out
      have:=bb.out
      have:=aH.out
      have:=aY.out
      have gR : w49.cell? ⟨ay,3,none⟩=some (.int .i64 0):=(zs aD.out 3).trans rfl
      have hfs54:=zx aD.out 3
      have:=ba.out
      have:=aG.out
      have:=aX.out
      have:=bb.out
      have:=aH.out
      have:=aY.out
      refine skip_ (w1 := ?_) (by rfl) rfl ?_ ?_
      rotate_left
      ·
       go_simp
       rfl
      refine hK.out _ _ yH (fun hHeld => ?_)
      clear hK K
      refine yp 13 16 HT_ ?_
      refine yp 14 17 HT_ ?_
      refine done_ (done_of HT_.out (by kernel_rfl)) ?_
      try go_wp2
      obtain ⟨w55,hw_⟩ : ∃ x,x=((((w49.setCell ⟨ay,0,none⟩ (.int .u64 b9)).setCell ⟨ay,1,none⟩ (.int .u32 ca)).setCell ⟨ay,2,none⟩ (.slice dj bV.length dk)).setCell ⟨ay,3,none⟩ (.int .i64 cb)):=⟨_,rfl⟩
      rw [← hw_]
      replace ac : Aside0 (Kd.V (Kd.int .u8) 5 w55 w.heap.size (fun k_=>some k_≠(ao : Value).ownBlock∧some k_≠(bC : Value).ownBlock∧k_≠aq∧k_≠aj∧k_≠ak∧k_≠ay) (.slice bX ap.length bY) ap):=⟨by rw [hw_];exact (yV0 ac)⟩
      replace aa : Aside0 (Kd.S (Kd.slice 3 (Kd.int .i64)) 49 w55 w.heap.size (fun k_=>some k_≠(bC : Value).ownBlock) ao ae):=⟨by rw [hw_];exact (yS1 aa aD)⟩
      replace aM : Aside0 (Kd.V (Kd.int .i64) 3 w55 w.heap.size (fun k_=>some k_≠(ao : Value).ownBlock∧some k_≠(bC : Value).ownBlock∧k_≠aq∧k_≠aj∧k_≠ak∧k_≠ay) ee bK):=⟨by rw [hw_];exact (yV0 aM)⟩
      replace bs : Aside0 (Kd.V (Kd.int .u8) 5 w55 w.heap.size (fun k_=>some k_≠(ao : Value).ownBlock∧some k_≠(bC : Value).ownBlock∧k_≠aq∧k_≠aj∧k_≠ak∧k_≠ay) (.slice dj bV.length dk) bV):=⟨by rw [hw_];exact (yV0 bs)⟩
      replace bu : Aside0 (Kd.R (Kd.int .i64) 3 w55 w.heap.size (fun _=>True) bC bW):=⟨by rw [hw_];exact (yR1 bu aD)⟩
      replace af : Aside0 (w55.heap[aq]? = some (.cells #[.bool false, .slice none 0 0, .slice none 0 0] 25 (0,0))):=⟨by rw [hw_];exact (yk af)⟩
      replace ag : Aside0 (w55.heap[aj]? = some (.cells #[.int .u64 az, .int .u32 aA, .slice bX ap.length bY, .int .i64 aC] 82 (0,0))):=⟨by rw [hw_];exact (yk ag)⟩
      replace ah : Aside0 (w55.heap[ak]? = some (.cells #[.bool (bd == 1),ao, .slice none 0 0] 25 (0,0))):=⟨by rw [hw_];exact (yk ah)⟩
      replace aD : Aside0 (w55.heap[ay]? = some (.cells #[.int .u64 b9, .int .u32 ca, .slice dj bV.length dk, .int .i64 cb] 82 (0,0))):=⟨by rw [hw_];exact (ykp aD)⟩
      replace HB : Aside0 (Below w.heap.size w w55):=⟨by rw [hw_];exact (yhb)⟩
      clear hw_
      replace ac:=zm (zC ac.out)
      replace aa:=zm (Kd.S_drew aa.out)
      replace aM:=zm (zC aM.out)
      replace bs:=zm (zC bs.out)
      replace bu:=zm (zq bu.out)
      replace af:=zm (zj af.out)
      replace ag:=zm (zj ag.out)
      replace ah:=zm (zj ah.out)
      replace aD:=zm (zj aD.out)
      replace HB:=zm (zf HB.out)
      obtain ⟨dl,dm,fu⟩:=Kd.R_slice bu.out
      (first|subst fu|(injection fu with f1_ f2_ f3_;have f4_:=f1_.symm;have f5_:=f3_.symm;clear f1_ f2_ f3_;subst f4_;subst f5_))
      refine yst (fun w' => w'.cell? ⟨ay,0,none⟩=some (.int .u64 b9)∧w'.cell? ⟨ay,1,none⟩=some (.int .u32 ca)∧w'.cell? ⟨ay,2,none⟩=some (.slice dj bV.length dk)∧w'.cell? ⟨ay,3,none⟩=some (.int .i64 cb)∧w'.cell? ⟨ak,0,none⟩=some (.bool (bd == 1))∧w'.cell? ⟨ak,1,none⟩=some (ao)∧w'.cell? ⟨ak,2,none⟩=some (.slice none 0 0)) [8] 9 cpack_Read.tab15 cpack_Read.bits15 (fun hHeld HT_ HW_ => ?_)
      generalize w55.drew=w56 at ac aa aM bs bu af ag ah aD HB hHeld ⊢
      refine yp 1 83 HT_ ?_
      refine yp 3 85 HT_ ?_
      refine yl 0 82 HT_ HW_ hHeld ?_
      refine yl 2 84 HT_ HW_ hHeld ?_
      refine yw 4 86 HT_ (fun K hK => ?_)
      refine value_ (w1 := ?_) (v := ?_) (by rfl) rfl ?_ ?_
      rotate_left 2
      ·
       go_simp
       constructor
       ·
        rfl
       rfl
      refine hK.out _ _ ⟨(zs (zi aD.out _) 0).trans rfl,(zs (zi aD.out _) 1).trans rfl,(zs (zi aD.out _) 2).trans rfl,(zs (zi aD.out _) 3).trans rfl,(zs (zi ah.out _) 0).trans rfl,(zs (zi ah.out _) 1).trans rfl,(zs (zi ah.out _) 2).trans rfl⟩ (fun hHeld => ?_)
      clear hK K
      refine ym (some 86) ?_
      refine yw 5 87 HT_ (fun K hK => ?_)
      refine Kd.S_append_step (Kd.slice 3 (Kd.int .i64)) (w0:=w) w.heap.size (by rfl) (.tmp 84) (.tmp 86) 22 49 (.slice none 0 0) 24 rfl Try.underlying22 info49 rfl (by decide) (by omega) ao ae bW [.slice dl bW.length dm] (fun _=>True) (fun k_=>some k_=(.slice dl bW.length dm : Value).ownBlock) rfl rfl ?aP (fun k_ hk_=>((zG (ok' := fun k_=>((fun _=>True)) k_∧some k_≠(ao : Value).ownBlock) (Kd.R_apart' (bu.out) (Kd.S_typed aa.out) (by decide)) (fun k_ hk=>⟨trivial,hk.2⟩))).1 k_ hk_.symm) ?aF ?aO ?aB ?aS ?aL ?_
      (case aP=>exact Kd.M_row (zG (Kd.R_tight rfl (zG (ok' := fun k_=>((fun _=>True)) k_∧some k_≠(ao : Value).ownBlock) (Kd.R_apart' (bu.out) (Kd.S_typed aa.out) (by decide)) (fun k_ hk=>⟨trivial,hk.2⟩))) (fun _ h_=>h_)))
      (case aB=>exact yhb)
      (case aF=>exact (fun _ _=>trivial))
      (case aO=>exact (yS0 aa))
      (case aS=>exact (zE yhb))
      (case aL=>have:=LMc42.out;omega)
      intro gS w57 ho hb hg hat
      rw [← eY.out] at ho
      replace ac:=zm (Kd.V_afterv (ok:=(fun k_=>some k_≠(.slice dl bW.length dm : Value).ownBlock∧k_≠aq∧k_≠aj∧k_≠ak∧k_≠ay)) (yV0 ac) hg hat)
      replace af:=zm (blk_grown (yk af) hg (Kd.S_ne aa.out af.out (by decide)))
      replace ag:=zm (blk_grown (yk ag) hg (Kd.S_ne aa.out ag.out (by decide)))
      replace ah:=zm (blk_grown (yk ah) hg (Kd.S_ne aa.out ah.out (by decide)))
      replace aM:=zm (Kd.V_afterv (ok:=(fun k_=>some k_≠(.slice dl bW.length dm : Value).ownBlock∧k_≠aq∧k_≠aj∧k_≠ak∧k_≠ay)) (yV0 aM) hg hat)
      replace bs:=zm (Kd.V_afterv (ok:=(fun k_=>some k_≠(.slice dl bW.length dm : Value).ownBlock∧k_≠aq∧k_≠aj∧k_≠ak∧k_≠ay)) (yV0 bs) hg hat)
      replace aD:=zm (blk_grown (yk aD) hg (Kd.S_ne aa.out aD.out (by decide)))
      replace HB:=zm (hb)
      have ew:=zm (ho);clear aa bu ho hb hg hat
      obtain ⟨f9,ga,fv⟩:=Kd.S_slice ew.out
      (first|subst fv|(injection fv with f1_ f2_ f3_;have f4_:=f1_.symm;have f5_:=f3_.symm;clear f1_ f2_ f3_;subst f4_;subst f5_))
      refine hK.out _ _ yH (fun hHeld => ?_)
      clear hK K
      refine ym (some 87) ?_
      refine yv 6 HT_ (fun K hK => ?_)
      have gT : w57.cell? ⟨aj,0,none⟩=some (.int .u64 az):=(zs ag.out 0).trans rfl
      have hfs59:=zx ag.out 0
      have:=bg.out
      have:=aU.out
      have:=aH.out
      have:=bh.out
      have:=aT.out
      have:=aG.out
      have gU : w57.cell? ⟨aj,1,none⟩=some (.int .u32 aA):=(zs ag.out 1).trans rfl
      have hfs60:=zx ag.out 1
      have:=bg.out
      have:=aU.out
      have:=aH.out
      have:=bh.out
      have:=aT.out
      have:=aG.out
      have gV : w57.cell? ⟨aj,2,none⟩=some (.slice bX ap.length bY):=(zs ag.out 2).trans rfl
      have hfs61:=zx ag.out 2
      have:=bg.out
      have:=aU.out
      have:=aH.out
      have:=bh.out
      have:=aT.out
      have:=aG.out
      have gW : w57.cell? ⟨aj,3,none⟩=some (.int .i64 aC):=(zs ag.out 3).trans rfl
      have hfs62:=zx ag.out 3
      have:=bg.out
      have:=aU.out
      have:=aH.out
      have:=bh.out
      have:=aT.out
      have:=aG.out
      refine skip_ (w1 := ?_) (by rfl) rfl ?_ ?_
      rotate_left
      ·
       go_simp
       rfl
      refine hK.out _ _ yH (fun hHeld => ?_)
      clear hK K
      refine yp 7 88 HT_ ?_
      refine last_ (i:=8) (N:=none) #[true,true,true,true,true,true,true,true,true] rfl rfl (one_of HT_.out (by kernel_rfl)) (by decide) (fun K hK => ?_)
      have gX : w57.cell? ⟨ak,1,none⟩=some (ao):=(zs ah.out 1).trans rfl
      have hfs64:=zx ah.out 1
      have:=bi.out
      have:=aT.out
      have:=aY.out
      have:=bj.out
      have:=aU.out
      have:=aX.out
      refine skip_ (w1 := ?_) (by rfl) rfl ?_ ?_
      rotate_left
      ·
       go_simp
       rfl
      refine hK.out _ _ ?_
      clear hK K
      refine done_ (done_of HT_.out (by kernel_rfl)) ?_
      try go_wp2
      go_roundg k2
      case measure=>exact yom2 cx HK2
      case rel=>exact ⟨(wrap64 (bL+1)),(b9),(ca),(bV),(cb),(eH),(.slice dj bV.length dk),(.slice f9 eH.length ga),yq,H',⟨yom2 cx HK2⟩,⟨yV0 bs⟩,⟨yS2 ew ag ah⟩,⟨yk af⟩,⟨ykp ag⟩,⟨ykp ah⟩,⟨yhb⟩⟩
     rw [if_neg c39] at H
     have ev:=yG c39
     clear c39
     obtain ⟨⟨ax,gb⟩,A65,H⟩:=ybi H
     try dsimp only at H
     have H' := zm H
     clear H
     have:=bj.out
     have:=bi.out
     have:=aU.out
     have:=aT.out
     obtain ⟨ef,eg,eh,ei,ej,ek⟩:=yc3 ah
     obtain ⟨aV,aW,gc⟩:=Kd.S_slice aa.out
     subst gc
     go_wp2_with (first|((with_reducible refine gate_callee (f:=30) rfl ?_);refine ygl 95 Try.func30 #[.int .i64 a0, .int .i64 a1, .slice aV ae.length aW] ?_;(with_reducible refine (alloc_Pulses.calls k2 a0 a1 _ _ ae ax gb _ ?br ?bQ A65.out).mono ?_);(case br=>exact yce (Kd.S_reads' aa.out).2.2);(case bQ=>exact (Kd.S_reads' aa.out).2.1);rintro e w70 ⟨b6,rfl,ho0,hb⟩;refine ⟨_,rfl, ?_⟩;replace ac:=zm (Kd.V_elder' (yr ac) (Kd.S_base ho0) hb);have fw:=zm (Kd.S_lower (Kd.S_new' ho0 (Kd.S_lt (yr aa))) (zE yhb));replace aa:=zm (Kd.S_elder' (yr aa) (Kd.S_base ho0) hb);replace af:=ybb af hb;replace ag:=ybb ag hb;replace ah:=ybb ah hb;replace HB:=ybs hb;(try clear hb);(try clear ho0)))
     go_loopg [99] k2 (fun kq v99 w' => ∃ (am : Int) (bF : Int) (bG : Int) (bH : List Int) (bI : Int) (aJ : List (List (List Int))) (a9 : Value) (aN : Value),v99=.int .i64 am∧Aside0 (cpack_Read.l1 kq ax a1 am bF bG bH bI (bd == 1) ae aJ=some (r1,r2,r3,r4))∧Aside0 (kq≤k2)∧Aside0 (Kd.S (Kd.slice 3 (Kd.int .i64)) 49 w' w.heap.size (fun k_=>some k_≠((.slice aV ae.length aW) : Value).ownBlock) b6 ax)∧Aside0 (Kd.V (Kd.int .u8) 5 w' w.heap.size (fun k_=>some k_≠(b6 : Value).ownBlock∧some k_≠((.slice aV ae.length aW) : Value).ownBlock∧some k_≠(aN : Value).ownBlock∧k_≠aq∧k_≠aj∧k_≠ak) a9 bH)∧Aside0 (Kd.S (Kd.slice 3 (Kd.int .i64)) 49 w' w.heap.size (fun k_=>some k_≠(b6 : Value).ownBlock) (.slice aV ae.length aW) ae)∧Aside0 (Kd.R (Kd.slice 49 (Kd.slice 3 (Kd.int .i64))) 22 w' w.heap.size (fun k_=>some k_≠(b6 : Value).ownBlock∧some k_≠((.slice aV ae.length aW) : Value).ownBlock) aN aJ)∧Aside0 (w'.heap[aq]? = some (.cells #[.bool false,(.slice none 0 0),(.slice none 0 0)] 25 (0,0)))∧Aside0 (w'.heap[aj]? = some (.cells #[.int .u64 bF, .int .u32 bG,a9, .int .i64 bI] 82 (0,0)))∧Aside0 (w'.heap[ak]? = some (.cells #[.bool (bd == 1),(.slice aV ae.length aW),aN] 25 (0,0)))∧Aside0 (Below w.heap.size w w'))
     case atStart=>exact ⟨(0),(az),(aA),(ap),(aC),(([] : List (List (List Int)))),(a9),(.slice none 0 0),yq,H',⟨Nat.le_refl _⟩,⟨yS0 fw⟩,⟨yV0 ac⟩,⟨yS0 aa⟩,⟨yn⟩,⟨yk af⟩,⟨yk ag⟩,⟨yk ah⟩,⟨yhb⟩⟩
     case round =>
      clear H'
      try clear ev
      try clear ef
      try clear eg
      try clear eh
      try clear ei
      try clear ej
      try clear ek
      obtain ⟨am,bF,bG,bH,bI,aJ,a9,aN,rfl,HA,HK3,al,ac,aa,ai,af,ag,ah,HB⟩:=hrel
      obtain ⟨k3,rfl⟩:=ysu gk (fun h=>by subst h;exact absurd HA.out (by simp [cpack_Read.l1]))
      have H:=HA.out;clear HA
      simp only [cpack_Read.l1] at H
      by_cases c71 : am < a1
      ·
       rw [if_pos c71] at H
       have ey:=yD c71
       clear c71
       have H' := zm H
       clear H
       go_wp2
       go_loopg [21,102] k3 (fun kq v21 ge w' => ∃ (bv : List (List Int)) (au : Int) (aZ : Int) (a7 : Int) (aK : List Int) (a8 : Int) (a9 : Value),ge=.int .i64 au∧Aside0 (cpack_Read.l2 kq ax am bv a1 am au aZ a7 aK a8 (bd == 1) ae aJ=some (r1,r2,r3,r4))∧Aside0 (kq≤k3)∧Aside0 (Kd.S (Kd.slice 3 (Kd.int .i64)) 49 w' w.heap.size (fun k_=>some k_≠(v21 : Value).ownBlock∧some k_≠((.slice aV ae.length aW) : Value).ownBlock) b6 ax)∧Aside0 (Kd.S (Kd.slice 3 (Kd.int .i64)) 49 w' w.heap.size (fun k_=>some k_≠(b6 : Value).ownBlock∧some k_≠((.slice aV ae.length aW) : Value).ownBlock) v21 bv)∧Aside0 (Kd.V (Kd.int .u8) 5 w' w.heap.size (fun k_=>some k_≠(b6 : Value).ownBlock∧some k_≠(v21 : Value).ownBlock∧some k_≠((.slice aV ae.length aW) : Value).ownBlock∧some k_≠(aN : Value).ownBlock∧k_≠aq∧k_≠aj∧k_≠ak) a9 aK)∧Aside0 (Kd.S (Kd.slice 3 (Kd.int .i64)) 49 w' w.heap.size (fun k_=>some k_≠(b6 : Value).ownBlock∧some k_≠(v21 : Value).ownBlock) (.slice aV ae.length aW) ae)∧Aside0 (Kd.R (Kd.slice 49 (Kd.slice 3 (Kd.int .i64))) 22 w' w.heap.size (fun k_=>some k_≠(b6 : Value).ownBlock∧some k_≠(v21 : Value).ownBlock∧some k_≠((.slice aV ae.length aW) : Value).ownBlock) aN aJ)∧Aside0 (w'.heap[aq]? = some (.cells #[.bool false,(.slice none 0 0),(.slice none 0 0)] 25 (0,0)))∧Aside0 (w'.heap[aj]? = some (.cells #[.int .u64 aZ, .int .u32 a7,a9, .int .i64 a8] 82 (0,0)))∧Aside0 (w'.heap[ak]? = some (.cells #[.bool (bd == 1),(.slice aV ae.length aW),aN] 25 (0,0)))∧Aside0 (Below w.heap.size w w'))
       case atStart=>exact ⟨(([] : List (List Int))),(0),(bF),(bG),(bH),(bI),(a9),yq,H',⟨Nat.le_refl _⟩,⟨yS0 al⟩,⟨yn⟩,⟨yV0 ac⟩,⟨yS0 aa⟩,⟨yR0 ai⟩,⟨yk af⟩,⟨yk ag⟩,⟨yk ah⟩,⟨yhb⟩⟩
       case round =>
        clear H'
        try clear ey
        obtain ⟨bv,au,aZ,a7,aK,a8,a9,rfl,HA,HK4,al,av,ac,aa,ai,af,ag,ah,HB⟩:=hrel
        obtain ⟨k4,rfl⟩:=ysu gk (fun h=>by subst h;exact absurd HA.out (by simp [cpack_Read.l2]))
        have H:=HA.out;clear HA
        simp only [cpack_Read.l2] at H
        by_cases c72 : au < 5
        ·
         rw [if_pos c72] at H
         have fx:=yD c72
         clear c72
         obtain ⟨bU,A73,H⟩:=ybi H
         obtain ⟨c74,H⟩:=yif H
         have gB:=eq_true c74
         have gC : decide (0≤bU)=true:=decide_eq_true c74
         clear c74
         obtain ⟨c75,H⟩:=yif H
         have gD:=eq_true c75
         have gE : decide ((bU : Int).toNat≤35184372088832)=true:=decide_eq_true c75
         clear c75
         obtain ⟨ce,dp⟩ : ∃ y_ : List Int,y_=(List.replicate (bU : Int).toNat 0):=⟨_,rfl⟩
         replace H : (if 0≤am then (if am < (ax.length : Int) then (if 0≤au then (if au < ((rd_L1 ax am).length : Int) then (if (rd (rd_L1 ax am) au) > 0 then ((band_Width.f au).bind fun cz=>((comb_Count.f cz (rd (rd_L1 ax am) au)).bind fun dd=>((coder_TakeNum.f k4 aZ a7 aK a8 dd.1).bind fun bE=>((band_Width.f au).bind fun cA=>((comb_Vector.f k4 cA (rd (rd_L1 ax am) au) bE.2.2.2.2.1).bind fun de=>(if bv.length < 5864062014805 then (cpack_Read.l2 k4 ax am (bv ++ [de.1]) a1 am (wrap64 (au+1)) bE.1 bE.2.1 bE.2.2.1 bE.2.2.2.1 (bd == 1) ae aJ) else (none))))))) else (if bv.length < 5864062014805 then (cpack_Read.l2 k4 ax am (bv ++ [ce]) a1 am (wrap64 (au+1)) aZ a7 aK a8 (bd == 1) ae aJ) else (none))) else (none)) else (none)) else (none)) else (none))=some (r1,r2,r3,r4):=yrw dp H
         have cJ:=zm dp;clear dp
         obtain ⟨c76,H⟩:=yif H
         have gF : decide (0≤am)=true:=decide_eq_true c76
         clear c76
         obtain ⟨c77,H⟩:=yif H
         have gG : decide (am < (ax.length : Int))=true:=decide_eq_true c77
         clear c77
         obtain ⟨c78,H⟩:=yif H
         have gH : decide (0≤au)=true:=decide_eq_true c78
         clear c78
         obtain ⟨c79,H⟩:=yif H
         have gI : decide (au < ((rd_L1 ax am).length : Int))=true:=decide_eq_true c79
         clear c79
         by_cases c80 : (rd (rd_L1 ax am) au) > 0
         ·
          rw [if_pos c80] at H
          have fy:=yDs c80
          clear c80
          obtain ⟨cz,A81,H⟩:=ybi H
          obtain ⟨⟨eI,gf⟩,A82,H⟩:=ybi H
          try dsimp only at H
          obtain ⟨⟨cG,cH,cj,cI,eJ,gg⟩,A83,H⟩:=ybi H
          try dsimp only at H
          obtain ⟨cA,A84,H⟩:=ybi H
          obtain ⟨⟨bZ,gh⟩,A85,H⟩:=ybi H
          try dsimp only at H
          obtain ⟨c86,H⟩:=yif H
          have LMc86:=zm c86;clear c86
          obtain ⟨fz,dq⟩ : ∃ y_ : List (List Int),y_=(bv ++ [bZ]):=⟨_,rfl⟩
          replace H : (cpack_Read.l2 k4 ax am fz a1 am (wrap64 (au+1)) cG cH cj cI (bd == 1) ae aJ)=some (r1,r2,r3,r4):=yrw dq H
          have fA:=zm dq;clear dq
          have H' := zm H
          clear H
          try go_wp2_with (first|((with_reducible refine gate_callee (f:=32) rfl ?_);refine ygl 106 Try.func32 #[.int .i64 au] ?_;(with_reducible refine (band_Width.calls au bU _ A73.out).mono ?_);rintro e w87 ⟨rfl,hb⟩;refine ⟨_,rfl, ?_⟩;replace al:=ySb al hb;replace av:=ySb av hb;replace ac:=yVb ac hb;replace aa:=ySb aa hb;replace ai:=yRb ai hb;replace af:=ybb af hb;replace ag:=ybb ag hb;replace ah:=ybb ah hb;replace HB:=ybs hb;(try clear hb))|((with_reducible refine gate_dst (N:=107) rfl ?_);refine Kd.R_make (Kd.int .i64) _ 3 rfl (N:=107) rfl 49 _ _ rfl bU rfl rfl Try.underlying49 (.int .i64 0) 8 info3 rfl (by decide) (by omega) 0 (ok:=fun _=>True) (okp:=fun _=>True) rfl (fun _ hk=>hk) trivial (yt) (Nat.le_trans (Nat.mul_le_mul_right _ (yt : bU.toNat≤35184372088832)) (by omega)) (Below.refl _ _) (Nat.le_refl _) ?_;intro bw w88 ck hb hg_ hnew_;clear hg_ hnew_;(first|rw [← cJ.out] at ck|(simp only [Int.reduceToNat] at ck;rw [← cJ.out] at ck));replace al:=zm (Kd.S_elder' (yr al) (Kd.R_base ck) hb);replace av:=zm (Kd.S_elder' (yr av) (Kd.R_base ck) hb);replace ac:=zm (Kd.V_elder' (yr ac) (Kd.R_base ck) hb);replace aa:=zm (Kd.S_elder' (yr aa) (Kd.R_base ck) hb);replace ai:=zm (Kd.R_elder' (yr ai) (Kd.R_base ck) hb);have aQ:=zm (Kd.R_lower ck (zE yhb));replace af:=ybb af hb;replace ag:=ybb ag hb;replace ah:=ybb ah hb;replace HB:=ybs hb;clear hb ck;obtain ⟨gY,bA,gi⟩:=Kd.S_slice al.out;subst gi;have cq : 0≤(am : Int):=yt;have cr : am < (ax.length : Int):=yt;obtain ⟨aI,eK,dr,eL,ct,bR,bS⟩:=at_L1 (Kd.S_reads' al.out).2.2 am cq cr;cases eL;obtain ⟨ce549,hce549,hMe549,hcc549⟩:=Kd.S_get al.out [] am cq (by first|exact cr|exact yt|(have e_:=(Kd.S_reads' al.out).1;omega));obtain ⟨ve549_0,rfl,ge549_0⟩:=hMe549;have hv549_0:=hcc549 0 _ rfl;rw [Nat.add_zero,show ((Kd.slice 3 (Kd.int .i64))).sz=1 from rfl,Nat.mul_one] at hv549_0;replace hv549_0:=Option.some.inj (hv549_0.symm.trans ct);rw [hv549_0] at ge549_0;have aw:=zm (show Kd.R (Kd.int .i64) 3 _ _ _ _ (rd_L1 ax am) from ge549_0);clear hv549_0 ge549_0;clear hcc549 hce549;have bc:=zm bS;have el:=zm bR;clear bS bR;replace cq:=eq_true cq;replace cr:=eq_true cr;obtain ⟨ez,eM,em,gj,gl⟩:=yai bc au;cases eM))
          replace al:=zm (Kd.S_drew al.out)
          replace av:=zm (Kd.S_drew av.out)
          replace ac:=zm (zC ac.out)
          replace aa:=zm (Kd.S_drew aa.out)
          replace ai:=zm (zq ai.out)
          replace aQ:=zm (zq aQ.out)
          replace aw:=zm (zq aw.out)
          replace af:=zm (zj af.out)
          replace ag:=zm (zj ag.out)
          replace ah:=zm (zj ah.out)
          replace bc:=zm (Kd.C_drew bc.out)
          replace HB:=zm (zf HB.out)
          have en : 0≤(am : Int):=yt
          have eo : am < (ax.length : Int):=yt
          obtain ⟨fB,gm,dt,gn,cK,cL,cM⟩:=at_L1 (Kd.S_reads' al.out).2.2 am en eo
          obtain rfl : aI=fB:=(by injection gn)
          obtain ⟨ce552,hce552,hMe552,hcc552⟩:=Kd.S_get al.out [] am en (by first|exact eo|exact yt|(have e_:=(Kd.S_reads' al.out).1;omega))
          obtain ⟨ve552_0,rfl,ge552_0⟩:=hMe552
          have hv552_0:=hcc552 0 _ rfl
          rw [Nat.add_zero,show ((Kd.slice 3 (Kd.int .i64))).sz=1 from rfl,Nat.mul_one] at hv552_0
          replace hv552_0:=Option.some.inj (hv552_0.symm.trans cK)
          rw [hv552_0] at ge552_0
          have aE:=zm (show Kd.R (Kd.int .i64) 3 _ _ _ _ (rd_L1 ax am) from ge552_0)
          clear hv552_0 ge552_0 hcc552 hce552;have bq:=zm cM;have fX:=zm cL;clear cM cL
          replace en:=eq_true en
          replace eo:=eq_true eo
          obtain ⟨du,go,ep,gZ,g7⟩:=yai bq au
          cases go
          refine yst (fun w' => w'.cell? (aI.add (am).toNat)=some (.slice (some du) (rd_L1 ax am).length dt)∧w'.cell? (du.add (au).toNat)=some (.int .i64 (rd (rd_L1 ax am) au))) [] 15 cpack_Read.tab27 cpack_Read.bits27 (fun hHeld HT_ HW_ => ?_)
          generalize w88.drew=w91 at al av ac aa ai aQ aw af ag ah bc HB aE bq cK ep hHeld ⊢
          refine yp 0 117 HT_ ?_
          refine yp 2 119 HT_ ?_
          refine yp 3 120 HT_ ?_
          refine yp 4 121 HT_ ?_
          refine yp 6 123 HT_ ?_
          refine yl 5 122 HT_ HW_ hHeld ?_
          refine yp 7 124 HT_ ?_
          refine yl 8 125 HT_ HW_ hHeld ?_
          refine yw 1 118 HT_ (fun K hK => ?_)
          refine ygs Try.func32 #[.int .i64 au] ?_
          with_reducible refine (band_Width.calls au cz _ A81.out).mono ?_
          rintro e w92 ⟨rfl,hb⟩
          have eN:=yhs hb hHeld.1
          have eO:=yhs hb hHeld.2
          refine ⟨_,rfl, ?_⟩
          replace al:=ySb al hb
          replace av:=ySb av hb
          replace ac:=yVb ac hb
          replace aa:=ySb aa hb
          replace ai:=yRb ai hb
          replace aQ:=yRb aQ hb
          replace aw:=yRb aw hb
          replace aE:=yRb aE hb
          replace af:=ybb af hb
          replace ag:=ybb ag hb
          replace ah:=ybb ah hb
          replace bc:=yCb bc hb
          replace bq:=yCb bq hb
          replace HB:=ybs hb
          (try clear hb)
          refine hK.out _ _ yH (fun hHeld => ?_)
          clear hK K
          refine ym (some 118) ?_
          refine yw 9 126 HT_ (fun K hK => ?_)
          refine ygs Try.func31 #[.int .i64 cz, .int .i64 (rd (rd_L1 ax am) au)] ?_
          with_reducible refine (comb_Count.calls cz (rd (rd_L1 ax am) au) eI gf _ A82.out).mono ?_
          rintro e w93 ⟨rfl,hb⟩
          have eN:=yhs hb hHeld.1
          have eO:=yhs hb hHeld.2
          refine ⟨_,rfl, ?_⟩
          replace al:=ySb al hb
          replace av:=ySb av hb
          replace ac:=yVb ac hb
          replace aa:=ySb aa hb
          replace ai:=yRb ai hb
          replace aQ:=yRb aQ hb
          replace aw:=yRb aw hb
          replace aE:=yRb aE hb
          replace af:=ybb af hb
          replace ag:=ybb ag hb
          replace ah:=ybb ah hb
          replace bc:=yCb bc hb
          replace bq:=yCb bq hb
          replace HB:=ybs hb
          (try clear hb)
          refine hK.out _ _ yH (fun hHeld => ?_)
          clear hK K
          refine ym (some 126) ?_
          refine yp 10 116 HT_ ?_
          refine yp 11 127 HT_ ?_
          refine yp 12 128 HT_ ?_
          refine yp 13 24 HT_ ?_
          refine yp 14 25 HT_ ?_
          refine done_ (done_of HT_.out (by kernel_rfl)) ?_
          have:=bh.out
          have:=bg.out
          have:=aT.out
          have:=aU.out
          obtain ⟨_,_,_,_,_,_,_,_⟩:=yc4 ag
          obtain ⟨fC,fD,gp⟩:=Kd.V_slice ac.out
          subst gp
          try go_wp2_with (first|((with_reducible refine gate_callee (f:=53) rfl ?_);refine ygl 132 Try.func53 #[.agg #[.int .u64 aZ, .int .u32 a7, .slice fC aK.length fD, .int .i64 a8], .int .u64 eI] ?_;(with_reducible refine (coder_TakeNum.calls k4 aZ a7 (fun k_=>((some k_≠(.slice (some aI) ax.length bA : Value).ownBlock∧(some k_≠(u21 : Value).ownBlock∧(some k_≠(.slice aV ae.length aW : Value).ownBlock∧(some k_≠(aN : Value).ownBlock∧(k_≠aq∧(k_≠aj∧k_≠ak))))))∧some k_≠(bw : Value).ownBlock)) _ _ aK a8 eI cG cH cj cI eJ gg _ ac.out A83.out).mono ?_);rintro e w98 ⟨g8,rfl,ho0,hb⟩;refine ⟨_,rfl, ?_⟩;replace ac:=yVb ac hb;replace aw:=yRb aw hb;replace aE:=yRb aE hb;have bx:=yho (fun k_=>some k_≠(.slice (some aI) ax.length bA : Value).ownBlock∧some k_≠(u21 : Value).ownBlock∧some k_≠(.slice aV ae.length aW : Value).ownBlock∧some k_≠(aN : Value).ownBlock∧some k_≠(bw : Value).ownBlock∧k_≠aq∧k_≠aj∧k_≠ak) ho0 (fun k_ hk_=>⟨yoS al hk_,yoS av hk_,yoS aa hk_,yoR ai hk_,yoR aQ hk_,yoB af hk_,yoB ag hk_,yoB ah hk_⟩);replace al:=ySb al hb;replace av:=ySb av hb;replace aa:=ySb aa hb;replace ai:=yRb ai hb;replace aQ:=yRb aQ hb;replace af:=ybb af hb;replace ag:=ybb ag hb;replace ah:=ybb ah hb;replace bc:=yCb bc hb;replace bq:=yCb bq hb;replace HB:=ybs hb;(try clear hb);(try clear ho0))|((with_reducible refine gate_dst (N:=26) rfl ?_);refine ybx 26 #[.int .u64 0, .int .u32 0, .slice none 0 0, .int .i64 0] 82 ?_;intro bT hg w99 hbox hb;replace al:=ySb al hb;replace av:=ySb av hb;replace ac:=yVe ac hg hb;replace aa:=ySb aa hb;replace ai:=yRb ai hb;replace aQ:=yRb aQ hb;replace aw:=yRb aw hb;replace aE:=yRb aE hb;replace bx:=yVe bx hg hb;replace bc:=yCb bc hb;replace bq:=yCb bq hb;have bk:=zm (hbox);have gJ:=ygw hg;have gK:=ygw hg;replace HB:=ybs hb;have cX:=ynl af hg;have cY:=yng af hg;replace af:=ybb af hb;have cZ:=ynl ag hg;have da:=yng ag hg;replace ag:=ybb ag hb;have db:=ynl ah hg;have dc:=yng ah hg;replace ah:=ybb ah hb;clear hb hbox hg;have:=cY.out;have:=cX.out;have:=da.out;have:=cZ.out;have:=dc.out;have:=db.out;obtain ⟨_,_,_,_,_,_,_,_⟩:=yc4 bk;obtain ⟨cn,co,fE⟩:=Kd.V_slice bx.out;subst fE;obtain ⟨_,_,_,_,_,_,_,_⟩:=yc4 ag))
          obtain ⟨bP,hw_⟩ : ∃ x,x=((((((((w99.setCell ⟨bT,0,none⟩ (.int .u64 cG)).setCell ⟨bT,1,none⟩ (.int .u32 cH)).setCell ⟨bT,2,none⟩ (.slice cn cj.length co)).setCell ⟨bT,3,none⟩ (.int .i64 cI)).setCell ⟨aj,0,none⟩ (.int .u64 cG)).setCell ⟨aj,1,none⟩ (.int .u32 cH)).setCell ⟨aj,2,none⟩ (.slice cn cj.length co)).setCell ⟨aj,3,none⟩ (.int .i64 cI)):=⟨_,rfl⟩
          rw [← hw_]
          replace al : Aside0 (Kd.S (Kd.slice 3 (Kd.int .i64)) 49 bP w.heap.size (fun k_=>some k_≠(u21 : Value).ownBlock∧some k_≠(.slice aV ae.length aW : Value).ownBlock∧some k_≠(bw : Value).ownBlock) (.slice (some aI) ax.length bA) ax):=⟨by rw [hw_];exact (yS2 al bk ag)⟩
          replace av : Aside0 (Kd.S (Kd.slice 3 (Kd.int .i64)) 49 bP w.heap.size (fun k_=>some k_≠(.slice (some aI) ax.length bA : Value).ownBlock∧some k_≠(.slice aV ae.length aW : Value).ownBlock∧some k_≠(bw : Value).ownBlock) u21 bv):=⟨by rw [hw_];exact (yS2 av bk ag)⟩
          replace ac : Aside0 (Kd.V (Kd.int .u8) 5 bP w.heap.size (fun k_=>some k_≠(.slice (some aI) ax.length bA : Value).ownBlock∧some k_≠(u21 : Value).ownBlock∧some k_≠(.slice aV ae.length aW : Value).ownBlock∧some k_≠(aN : Value).ownBlock∧some k_≠(bw : Value).ownBlock∧k_≠aq∧k_≠aj∧k_≠ak∧k_≠bT) (.slice fC aK.length fD) aK):=⟨by rw [hw_];exact (yV0 ac)⟩
          replace aa : Aside0 (Kd.S (Kd.slice 3 (Kd.int .i64)) 49 bP w.heap.size (fun k_=>some k_≠(.slice (some aI) ax.length bA : Value).ownBlock∧some k_≠(u21 : Value).ownBlock∧some k_≠(bw : Value).ownBlock) (.slice aV ae.length aW) ae):=⟨by rw [hw_];exact (yS2 aa bk ag)⟩
          replace ai : Aside0 (Kd.R (Kd.slice 49 (Kd.slice 3 (Kd.int .i64))) 22 bP w.heap.size (fun k_=>some k_≠(.slice (some aI) ax.length bA : Value).ownBlock∧some k_≠(u21 : Value).ownBlock∧some k_≠(.slice aV ae.length aW : Value).ownBlock∧some k_≠(bw : Value).ownBlock) aN aJ):=⟨by rw [hw_];exact (yR2 ai bk ag)⟩
          replace aQ : Aside0 (Kd.R (Kd.int .i64) 3 bP w.heap.size (fun _=>True) bw ce):=⟨by rw [hw_];exact (yR2 aQ bk ag)⟩
          replace aw : Aside0 (Kd.R (Kd.int .i64) 3 bP w.heap.size (fun k_=>some k_≠(.slice (some aI) ax.length bA : Value).ownBlock∧some k_≠(u21 : Value).ownBlock∧some k_≠(.slice aV ae.length aW : Value).ownBlock∧some k_≠(bw : Value).ownBlock) (.slice (some ez) (rd_L1 ax am).length dr) (rd_L1 ax am)):=⟨by rw [hw_];exact (yR2 aw bk ag)⟩
          replace aE : Aside0 (Kd.R (Kd.int .i64) 3 bP w.heap.size (fun k_=>some k_≠(.slice (some aI) ax.length bA : Value).ownBlock∧some k_≠(u21 : Value).ownBlock∧some k_≠(.slice aV ae.length aW : Value).ownBlock∧some k_≠(bw : Value).ownBlock) (.slice (some du) (rd_L1 ax am).length dt) (rd_L1 ax am)):=⟨by rw [hw_];exact (yR2 aE bk ag)⟩
          replace bx : Aside0 (Kd.V (Kd.int .u8) 5 bP w.heap.size (fun k_=>some k_≠(.slice (some aI) ax.length bA : Value).ownBlock∧some k_≠(u21 : Value).ownBlock∧some k_≠(.slice aV ae.length aW : Value).ownBlock∧some k_≠(aN : Value).ownBlock∧some k_≠(bw : Value).ownBlock∧k_≠aq∧k_≠aj∧k_≠ak∧k_≠bT) (.slice cn cj.length co) cj):=⟨by rw [hw_];exact (yV0 bx)⟩
          replace af : Aside0 (bP.heap[aq]? = some (.cells #[.bool false, .slice none 0 0, .slice none 0 0] 25 (0,0))):=⟨by rw [hw_];exact (yk af)⟩
          replace ag : Aside0 (bP.heap[aj]? = some (.cells #[.int .u64 cG, .int .u32 cH, .slice cn cj.length co, .int .i64 cI] 82 (0,0))):=⟨by rw [hw_];exact (ykp ag)⟩
          replace ah : Aside0 (bP.heap[ak]? = some (.cells #[.bool (bd == 1), .slice aV ae.length aW,aN] 25 (0,0))):=⟨by rw [hw_];exact (yk ah)⟩
          replace bk : Aside0 (bP.heap[bT]? = some (.cells #[.int .u64 cG, .int .u32 cH, .slice cn cj.length co, .int .i64 cI] 82 (0,0))):=⟨by rw [hw_];exact (ykp bk)⟩
          replace HB : Aside0 (Below w.heap.size w bP):=⟨by rw [hw_];exact (yhb)⟩
          clear hw_
          replace al:=zm (Kd.S_drew al.out)
          replace av:=zm (Kd.S_drew av.out)
          replace ac:=zm (zC ac.out)
          replace aa:=zm (Kd.S_drew aa.out)
          replace ai:=zm (zq ai.out)
          replace aQ:=zm (zq aQ.out)
          replace aw:=zm (zq aw.out)
          replace aE:=zm (zq aE.out)
          replace bx:=zm (zC bx.out)
          replace af:=zm (zj af.out)
          replace ag:=zm (zj ag.out)
          replace ah:=zm (zj ah.out)
          replace bk:=zm (zj bk.out)
          replace HB:=zm (zf HB.out)
          have eq : 0≤(am : Int):=yt
          have er : am < (ax.length : Int):=yt
          obtain ⟨fF,gu,eP,gv,cN,cO,cP⟩:=at_L1 (Kd.S_reads' al.out).2.2 am eq er
          obtain rfl : aI=fF:=(by injection gv)
          obtain ⟨ce566,hce566,hMe566,hcc566⟩:=Kd.S_get al.out [] am eq (by first|exact er|exact yt|(have e_:=(Kd.S_reads' al.out).1;omega))
          obtain ⟨ve566_0,rfl,ge566_0⟩:=hMe566
          have hv566_0:=hcc566 0 _ rfl
          rw [Nat.add_zero,show ((Kd.slice 3 (Kd.int .i64))).sz=1 from rfl,Nat.mul_one] at hv566_0
          replace hv566_0:=Option.some.inj (hv566_0.symm.trans cN)
          rw [hv566_0] at ge566_0
          have bz:=zm (show Kd.R (Kd.int .i64) 3 _ _ _ _ (rd_L1 ax am) from ge566_0)
          clear hv566_0 ge566_0 hcc566 hce566;have bJ:=zm cP;have fY:=zm cO;clear cP cO
          replace eq:=eq_true eq
          replace er:=eq_true er
          obtain ⟨eA,gw,es,g9,hD⟩:=yai bJ au
          cases gw
          refine yst (fun w' => w'.cell? (aI.add (am).toNat)=some (.slice (some eA) (rd_L1 ax am).length eP)∧w'.cell? (eA.add (au).toNat)=some (.int .i64 (rd (rd_L1 ax am) au))) [] 15 cpack_Read.tab30 cpack_Read.bits30 (fun hHeld HT_ HW_ => ?_)
          generalize bP.drew=hH at al av ac aa ai aQ aw aE bx af ag ah bk HB bz bJ cN es hHeld ⊢
          refine yp 0 138 HT_ ?_
          refine yp 2 140 HT_ ?_
          refine yp 3 141 HT_ ?_
          refine yp 4 142 HT_ ?_
          refine yp 6 144 HT_ ?_
          refine yp 9 147 HT_ ?_
          refine yl 5 143 HT_ HW_ hHeld ?_
          refine yp 7 145 HT_ ?_
          refine yl 8 146 HT_ HW_ hHeld ?_
          refine yw 1 139 HT_ (fun K hK => ?_)
          refine ygs Try.func32 #[.int .i64 au] ?_
          with_reducible refine (band_Width.calls au cA _ A84.out).mono ?_
          rintro e hJ ⟨rfl,hb⟩
          have eN:=yhs hb hHeld.1
          have eO:=yhs hb hHeld.2
          refine ⟨_,rfl, ?_⟩
          replace al:=ySb al hb
          replace av:=ySb av hb
          replace ac:=yVb ac hb
          replace aa:=ySb aa hb
          replace ai:=yRb ai hb
          replace aQ:=yRb aQ hb
          replace aw:=yRb aw hb
          replace aE:=yRb aE hb
          replace bx:=yVb bx hb
          replace bz:=yRb bz hb
          replace af:=ybb af hb
          replace ag:=ybb ag hb
          replace ah:=ybb ah hb
          replace bk:=ybb bk hb
          replace bJ:=yCb bJ hb
          replace HB:=ybs hb
          (try clear hb)
          refine hK.out _ _ yH (fun hHeld => ?_)
          clear hK K
          refine ym (some 139) ?_
          refine yw 10 148 HT_ (fun K hK => ?_)
          refine ygs Try.func54 #[.int .i64 cA, .int .i64 (rd (rd_L1 ax am) au), .int .u64 eJ] ?_
          with_reducible refine (comb_Vector.calls k4 cA (rd (rd_L1 ax am) au) eJ bZ gh _ A85.out).mono ?_
          rintro e hL ⟨hO,rfl,ho0,hb⟩
          have eN:=yhs hb hHeld.1
          have eO:=yhs hb hHeld.2
          refine ⟨_,rfl, ?_⟩
          replace al:=zm (Kd.S_elder' (yr al) (Kd.R_base ho0) hb)
          replace av:=zm (Kd.S_elder' (yr av) (Kd.R_base ho0) hb)
          replace ac:=zm (Kd.V_elder' (yr ac) (Kd.R_base ho0) hb)
          replace aa:=zm (Kd.S_elder' (yr aa) (Kd.R_base ho0) hb)
          replace ai:=zm (Kd.R_elder' (yr ai) (Kd.R_base ho0) hb)
          replace bx:=zm (Kd.V_elder' (yr bx) (Kd.R_base ho0) hb)
          have cQ:=zm (Kd.R_lower (Kd.R_new' (Kd.R_new' (Kd.R_new' (Kd.R_new' ho0 (Kd.R_lt (yr aQ))) (Kd.R_lt (yr aw))) (Kd.R_lt (yr aE))) (Kd.R_lt (yr bz))) (zE yhb))
          replace aQ:=zm (Kd.R_elder' (yr aQ) (Kd.R_base ho0) hb)
          replace aw:=zm (Kd.R_elder' (yr aw) (Kd.R_base ho0) hb)
          replace aE:=zm (Kd.R_elder' (yr aE) (Kd.R_base ho0) hb)
          replace bz:=zm (Kd.R_elder' (yr bz) (Kd.R_base ho0) hb)
          replace af:=ybb af hb
          replace ag:=ybb ag hb
          replace ah:=ybb ah hb
          replace bk:=ybb bk hb
          replace bJ:=yCb bJ hb
          replace HB:=ybs hb
          (try clear hb)
          (try clear ho0)
          refine hK.out _ _ yH (fun hHeld => ?_)
          clear hK K
          refine ym (some 148) ?_
          refine yp 11 137 HT_ ?_
          refine yp 12 149 HT_ ?_
          refine yp 13 150 HT_ ?_
          refine yp 14 23 HT_ ?_
          refine done_ (done_of HT_.out (by kernel_rfl)) ?_
          obtain ⟨bM,bN,fG⟩:=Kd.R_slice cQ.out
          subst fG
          try go_wp2_with (first|((with_reducible refine gate_builtin (b:=.append) (xs := #[.tmp 151, .tmp 153]) rfl ?_);at_builtin;refine Kd.S_append (Kd.slice 3 (Kd.int .i64)) (w0:=w) w.heap.size rfl (.tmp 151) (.tmp 153) 22 49 (.slice none 0 0) 24 rfl Try.underlying22 info49 rfl (by decide) (by omega) u21 bv bZ [.slice bM bZ.length bN] (fun k_=>some k_≠(.slice (some aI) ax.length bA : Value).ownBlock∧some k_≠(.slice aV ae.length aW : Value).ownBlock∧some k_≠(bw : Value).ownBlock) (fun k_=>some k_=(.slice bM bZ.length bN : Value).ownBlock) rfl rfl ?aP (fun k_ hk_=>((zG (ok' := fun k_=>((fun k_=>some k_≠(.slice (some aI) ax.length bA : Value).ownBlock∧some k_≠(.slice aV ae.length aW : Value).ownBlock∧some k_≠(bw : Value).ownBlock)) k_∧some k_≠(u21 : Value).ownBlock) (Kd.R_apart' (Kd.R_apart' (Kd.R_apart' (cQ.out) (Kd.S_typed al.out) (by decide)) (Kd.S_typed aa.out) (by decide)) (Kd.S_typed av.out) (by decide)) (fun k_ hk=>⟨⟨hk.1.1.2,⟨hk.1.2,hk.1.1.1.1.1.1.2⟩⟩,hk.2⟩))).1 k_ hk_.symm) ?aF ?aO ?aB ?aS ?aL ?_;(case aP=>exact Kd.M_row (zG (Kd.R_tight rfl (zG (ok' := fun k_=>((fun k_=>some k_≠(.slice (some aI) ax.length bA : Value).ownBlock∧some k_≠(.slice aV ae.length aW : Value).ownBlock∧some k_≠(bw : Value).ownBlock)) k_∧some k_≠(u21 : Value).ownBlock) (Kd.R_apart' (Kd.R_apart' (Kd.R_apart' (cQ.out) (Kd.S_typed al.out) (by decide)) (Kd.S_typed aa.out) (by decide)) (Kd.S_typed av.out) (by decide)) (fun k_ hk=>⟨⟨hk.1.1.2,⟨hk.1.2,hk.1.1.1.1.1.1.2⟩⟩,hk.2⟩))) (fun _ h_=>h_)));(case aB=>exact yhb);(case aF=>exact (fun k_ hk=>⟨Kd.fresh' (Kd.S_lt (yr al)) k_ hk,Kd.fresh' (Kd.S_lt (yr aa)) k_ hk,Kd.fresh' (Kd.R_lt (yr aQ)) k_ hk⟩));(case aO=>exact (yS0 av));(case aS=>exact (zE yhb));(case aL=>have:=LMc86.out;omega);intro hU hX ho hb hg hat;rw [← fA.out] at ho;replace al:=zm (Kd.S_after (ok:=(fun k_=>some k_≠(.slice aV ae.length aW : Value).ownBlock∧some k_≠(bw : Value).ownBlock∧some k_≠(.slice bM bZ.length bN : Value).ownBlock)) (yS0 al) hg hat);replace ac:=zm (Kd.V_afterv (ok:=(fun k_=>some k_≠(.slice (some aI) ax.length bA : Value).ownBlock∧some k_≠(.slice aV ae.length aW : Value).ownBlock∧some k_≠(aN : Value).ownBlock∧some k_≠(bw : Value).ownBlock∧some k_≠(.slice bM bZ.length bN : Value).ownBlock∧k_≠aq∧k_≠aj∧k_≠ak∧k_≠bT)) (yV0 ac) hg hat);replace aa:=zm (Kd.S_after (ok:=(fun k_=>some k_≠(.slice (some aI) ax.length bA : Value).ownBlock∧some k_≠(bw : Value).ownBlock∧some k_≠(.slice bM bZ.length bN : Value).ownBlock)) (yS0 aa) hg hat);replace ai:=zm (Kd.R_after (ok:=(fun k_=>some k_≠(.slice (some aI) ax.length bA : Value).ownBlock∧some k_≠(.slice aV ae.length aW : Value).ownBlock∧some k_≠(bw : Value).ownBlock∧some k_≠(.slice bM bZ.length bN : Value).ownBlock)) (yR0 ai) hg hat);replace af:=zm (blk_grown (yk af) hg (Kd.S_ne av.out af.out (by decide)));replace ag:=zm (blk_grown (yk ag) hg (Kd.S_ne av.out ag.out (by decide)));replace ah:=zm (blk_grown (yk ah) hg (Kd.S_ne av.out ah.out (by decide)));replace aQ:=zm (Kd.R_over' (yr aQ) (Kd.S_typed (yr av)) (by decide) hg);replace aw:=zm (Kd.R_after (ok:=(fun k_=>some k_≠(.slice (some aI) ax.length bA : Value).ownBlock∧some k_≠(.slice aV ae.length aW : Value).ownBlock∧some k_≠(bw : Value).ownBlock∧some k_≠(.slice bM bZ.length bN : Value).ownBlock)) (yR0 aw) hg hat);replace aE:=zm (Kd.R_after (ok:=(fun k_=>some k_≠(.slice (some aI) ax.length bA : Value).ownBlock∧some k_≠(.slice aV ae.length aW : Value).ownBlock∧some k_≠(bw : Value).ownBlock∧some k_≠(.slice bM bZ.length bN : Value).ownBlock)) (yR0 aE) hg hat);replace bx:=zm (Kd.V_afterv (ok:=(fun k_=>some k_≠(.slice (some aI) ax.length bA : Value).ownBlock∧some k_≠(.slice aV ae.length aW : Value).ownBlock∧some k_≠(aN : Value).ownBlock∧some k_≠(bw : Value).ownBlock∧some k_≠(.slice bM bZ.length bN : Value).ownBlock∧k_≠aq∧k_≠aj∧k_≠ak∧k_≠bT)) (yV0 bx) hg hat);replace bk:=zm (blk_grown (yk bk) hg (Kd.S_ne av.out bk.out (by decide)));replace bz:=zm (Kd.R_after (ok:=(fun k_=>some k_≠(.slice (some aI) ax.length bA : Value).ownBlock∧some k_≠(.slice aV ae.length aW : Value).ownBlock∧some k_≠(bw : Value).ownBlock∧some k_≠(.slice bM bZ.length bN : Value).ownBlock)) (yR0 bz) hg hat);replace HB:=zm (hb);have fH:=zm (ho);clear av;clear cQ;clear ho hb hg hat))
          go_roundg k4
          case measure=>exact yom4 cx HK2 HK3 HK4
          case rel=>exact ⟨(fz),(wrap64 (au+1)),(cG),(cH),(cj),(cI),(.slice cn cj.length co),yq,H',⟨yom4 cx HK2 HK3 HK4⟩,⟨yS0 al⟩,⟨yS0 fH⟩,⟨yV0 bx⟩,⟨yS0 aa⟩,⟨yR0 ai⟩,⟨yk af⟩,⟨yk ag⟩,⟨yk ah⟩,⟨yhb⟩⟩
         rw [if_neg c80] at H
         have fy:=yGs c80
         clear c80
         obtain ⟨fI,H⟩:=yif H
         have LMc112:=zm fI;clear fI
         obtain ⟨fJ,dv⟩ : ∃ y_ : List (List Int),y_=(bv ++ [ce]):=⟨_,rfl⟩
         replace H : (cpack_Read.l2 k4 ax am fJ a1 am (wrap64 (au+1)) aZ a7 aK a8 (bd == 1) ae aJ)=some (r1,r2,r3,r4):=yrw dv H
         have fK:=zm dv;clear dv
         have H' := zm H
         clear H
         go_wp2_with (first|((with_reducible refine gate_callee (f:=32) rfl ?_);refine ygl 106 Try.func32 #[.int .i64 au] ?_;(with_reducible refine (band_Width.calls au bU _ A73.out).mono ?_);rintro e ia ⟨rfl,hb⟩;refine ⟨_,rfl, ?_⟩;replace al:=ySb al hb;replace av:=ySb av hb;replace ac:=yVb ac hb;replace aa:=ySb aa hb;replace ai:=yRb ai hb;replace af:=ybb af hb;replace ag:=ybb ag hb;replace ah:=ybb ah hb;replace HB:=ybs hb;(try clear hb))|((with_reducible refine gate_dst (N:=107) rfl ?_);refine Kd.R_make (Kd.int .i64) _ 3 rfl (N:=107) rfl 49 _ _ rfl bU rfl rfl Try.underlying49 (.int .i64 0) 8 info3 rfl (by decide) (by omega) 0 (ok:=fun _=>True) (okp:=fun _=>True) rfl (fun _ hk=>hk) trivial (yt) (Nat.le_trans (Nat.mul_le_mul_right _ (yt : bU.toNat≤35184372088832)) (by omega)) (Below.refl _ _) (Nat.le_refl _) ?_;intro bw ib bO hb hg_ hnew_;clear hg_ hnew_;(first|rw [← cJ.out] at bO|(simp only [Int.reduceToNat] at bO;rw [← cJ.out] at bO));replace al:=zm (Kd.S_elder' (yr al) (Kd.R_base bO) hb);replace av:=zm (Kd.S_elder' (yr av) (Kd.R_base bO) hb);replace ac:=zm (Kd.V_elder' (yr ac) (Kd.R_base bO) hb);replace aa:=zm (Kd.S_elder' (yr aa) (Kd.R_base bO) hb);replace ai:=zm (Kd.R_elder' (yr ai) (Kd.R_base bO) hb);have aQ:=zm (Kd.R_lower bO (zE yhb));replace af:=ybb af hb;replace ag:=ybb ag hb;replace ah:=ybb ah hb;replace HB:=ybs hb;clear hb bO;obtain ⟨gL,cf,fL⟩:=Kd.S_slice al.out;subst fL;have cq : 0≤(am : Int):=yt;have cr : am < (ax.length : Int):=yt;obtain ⟨aI,eK,dr,eL,ct,bR,bS⟩:=at_L1 (Kd.S_reads' al.out).2.2 am cq cr;cases eL;obtain ⟨ce549,hce549,hMe549,hcc549⟩:=Kd.S_get al.out [] am cq (by first|exact cr|exact yt|(have e_:=(Kd.S_reads' al.out).1;omega));obtain ⟨ve549_0,rfl,ge549_0⟩:=hMe549;have hv549_0:=hcc549 0 _ rfl;rw [Nat.add_zero,show ((Kd.slice 3 (Kd.int .i64))).sz=1 from rfl,Nat.mul_one] at hv549_0;replace hv549_0:=Option.some.inj (hv549_0.symm.trans ct);rw [hv549_0] at ge549_0;have aw:=zm (show Kd.R (Kd.int .i64) 3 _ _ _ _ (rd_L1 ax am) from ge549_0);clear hv549_0 ge549_0;clear hcc549 hce549;have bc:=zm bS;have el:=zm bR;clear bS bR;replace cq:=eq_true cq;replace cr:=eq_true cr;obtain ⟨ez,eM,em,gj,gl⟩:=yai bc au;cases eM;obtain ⟨cg,ch,fM⟩:=Kd.R_slice aQ.out;subst fM)|((with_reducible refine gate_builtin (b:=.append) (xs := #[.tmp 151, .tmp 153]) rfl ?_);at_builtin;refine Kd.S_append (Kd.slice 3 (Kd.int .i64)) (w0:=w) w.heap.size rfl (.tmp 151) (.tmp 153) 22 49 (.slice none 0 0) 24 rfl Try.underlying22 info49 rfl (by decide) (by omega) u21 bv ce [.slice cg ce.length ch] (fun k_=>some k_≠(.slice (some aI) ax.length cf : Value).ownBlock∧some k_≠(.slice aV ae.length aW : Value).ownBlock) (fun k_=>some k_=(.slice cg ce.length ch : Value).ownBlock) rfl rfl ?aP (fun k_ hk_=>((zG (ok' := fun k_=>((fun k_=>some k_≠(.slice (some aI) ax.length cf : Value).ownBlock∧some k_≠(.slice aV ae.length aW : Value).ownBlock)) k_∧some k_≠(u21 : Value).ownBlock) (Kd.R_apart' (Kd.R_apart' (Kd.R_apart' (aQ.out) (Kd.S_typed al.out) (by decide)) (Kd.S_typed aa.out) (by decide)) (Kd.S_typed av.out) (by decide)) (fun k_ hk=>⟨⟨hk.1.1.2,hk.1.2⟩,hk.2⟩))).1 k_ hk_.symm) ?aF ?aO ?aB ?aS ?aL ?_;(case aP=>exact Kd.M_row (zG (Kd.R_tight rfl (zG (ok' := fun k_=>((fun k_=>some k_≠(.slice (some aI) ax.length cf : Value).ownBlock∧some k_≠(.slice aV ae.length aW : Value).ownBlock)) k_∧some k_≠(u21 : Value).ownBlock) (Kd.R_apart' (Kd.R_apart' (Kd.R_apart' (aQ.out) (Kd.S_typed al.out) (by decide)) (Kd.S_typed aa.out) (by decide)) (Kd.S_typed av.out) (by decide)) (fun k_ hk=>⟨⟨hk.1.1.2,hk.1.2⟩,hk.2⟩))) (fun _ h_=>h_)));(case aB=>exact yhb);(case aF=>exact (fun k_ hk=>⟨Kd.fresh' (Kd.S_lt (yr al)) k_ hk,Kd.fresh' (Kd.S_lt (yr aa)) k_ hk⟩));(case aO=>exact (yS0 av));(case aS=>exact (zE yhb));(case aL=>have:=LMc112.out;omega);intro ic ie ho hb hg hat;rw [← fK.out] at ho;replace al:=zm (Kd.S_after (ok:=(fun k_=>some k_≠(.slice aV ae.length aW : Value).ownBlock∧some k_≠(.slice cg ce.length ch : Value).ownBlock)) (yS0 al) hg hat);replace ac:=zm (Kd.V_afterv (ok:=(fun k_=>some k_≠(.slice (some aI) ax.length cf : Value).ownBlock∧some k_≠(.slice aV ae.length aW : Value).ownBlock∧some k_≠(aN : Value).ownBlock∧some k_≠(.slice cg ce.length ch : Value).ownBlock∧k_≠aq∧k_≠aj∧k_≠ak)) (yV0 ac) hg hat);replace aa:=zm (Kd.S_after (ok:=(fun k_=>some k_≠(.slice (some aI) ax.length cf : Value).ownBlock∧some k_≠(.slice cg ce.length ch : Value).ownBlock)) (yS0 aa) hg hat);replace ai:=zm (Kd.R_after (ok:=(fun k_=>some k_≠(.slice (some aI) ax.length cf : Value).ownBlock∧some k_≠(.slice aV ae.length aW : Value).ownBlock∧some k_≠(.slice cg ce.length ch : Value).ownBlock)) (yR0 ai) hg hat);replace af:=zm (blk_grown (yk af) hg (Kd.S_ne av.out af.out (by decide)));replace ag:=zm (blk_grown (yk ag) hg (Kd.S_ne av.out ag.out (by decide)));replace ah:=zm (blk_grown (yk ah) hg (Kd.S_ne av.out ah.out (by decide)));replace aw:=zm (Kd.R_after (ok:=(fun k_=>some k_≠(.slice (some aI) ax.length cf : Value).ownBlock∧some k_≠(.slice aV ae.length aW : Value).ownBlock∧some k_≠(.slice cg ce.length ch : Value).ownBlock)) (yR0 aw) hg hat);replace HB:=zm (hb);have fN:=zm (ho);clear av;clear aQ;clear ho hb hg hat))
         go_roundg k4
         case measure=>exact yom4 cx HK2 HK3 HK4
         case rel=>exact ⟨(fJ),(wrap64 (au+1)),(aZ),(a7),(aK),(a8),(a9),yq,H',⟨yom4 cx HK2 HK3 HK4⟩,⟨yS0 al⟩,⟨yr fN⟩,⟨yV0 ac⟩,⟨yS0 aa⟩,⟨yR0 ai⟩,⟨yk af⟩,⟨yk ag⟩,⟨yk ah⟩,⟨yhb⟩⟩
        rw [if_neg c72] at H
        have fx:=yG c72
        clear c72
        obtain ⟨fO,H⟩:=yif H
        have LMc119:=zm fO;clear fO
        obtain ⟨eQ,dw⟩ : ∃ y_ : List (List (List Int)),y_=(aJ ++ [bv]):=⟨_,rfl⟩
        replace H : (cpack_Read.l1 k4 ax a1 (wrap64 (am+1)) aZ a7 aK a8 (bd == 1) ae eQ)=some (r1,r2,r3,r4):=yrw dw H
        have fP:=zm dw;clear dw
        have H' := zm H
        clear H
        have:=bj.out
        have:=bi.out
        have:=aU.out
        have:=aT.out
        obtain ⟨_,_,_,_,_,_⟩:=yc3 ah
        obtain ⟨eB,eC,fQ⟩:=Kd.S_slice av.out
        subst fQ
        go_wp2_with (first|((with_reducible refine gate_builtin (b:=.append) (xs := #[.tmp 157, .tmp 159]) rfl ?_);at_builtin;refine Kd.R_append (Kd.slice 49 (Kd.slice 3 (Kd.int .i64))) (w0:=w) w.heap.size rfl (.tmp 157) (.tmp 159) 23 22 (.slice none 0 0) 24 rfl Try.underlying23 info22 rfl (by decide) (by omega) aN aJ bv [.slice eB bv.length eC] (fun k_=>some k_≠(b6 : Value).ownBlock∧some k_≠(.slice aV ae.length aW : Value).ownBlock) (fun k_=>((fun k_=>some k_≠(b6 : Value).ownBlock∧some k_≠(.slice aV ae.length aW : Value).ownBlock)) k_∧some k_≠(aN : Value).ownBlock) rfl rfl ?aP (fun _ hk=>hk) ?aF ?aO ?aB ?aS ?aL ?_;(case aP=>exact Kd.M_row (zG (Kd.R_apart' ((Kd.S_R av.out)) (Kd.R_typed ai.out) (by decide)) (fun k_ hk=>⟨⟨hk.1.1,hk.1.2⟩,hk.2⟩)));(case aB=>exact yhb);(case aF=>exact (fun k_ hk=>⟨Kd.fresh' (Kd.S_lt (yr al)) k_ hk,Kd.fresh' (Kd.S_lt (yr aa)) k_ hk⟩));(case aO=>exact (yR0 ai));(case aS=>exact (zE yhb));(case aL=>have:=LMc119.out;omega);intro ig ii ho hb hg hat;rw [← fP.out] at ho;replace al:=zm (Kd.S_over' (yr al) (Kd.R_typed (yr ai)) (by decide) hg);replace ac:=zm (Kd.V_afterv (ok:=(fun k_=>some k_≠(b6 : Value).ownBlock∧some k_≠(.slice eB bv.length eC : Value).ownBlock∧some k_≠(.slice aV ae.length aW : Value).ownBlock∧k_≠aq∧k_≠aj∧k_≠ak)) (yV0 ac) hg hat);replace aa:=zm (Kd.S_over' (yr aa) (Kd.R_typed (yr ai)) (by decide) hg);replace af:=zm (blk_grown (yk af) hg (zu ai.out af.out (by decide)));replace ag:=zm (blk_grown (yk ag) hg (zu ai.out ag.out (by decide)));replace ah:=zm (blk_grown (yk ah) hg (zu ai.out ah.out (by decide)));replace HB:=zm (hb);have eD:=zm (ho);clear ai;clear av;clear ho hb hg hat;obtain ⟨fR,fS,fT⟩:=Kd.R_slice eD.out;subst fT;obtain ⟨_,_,_,_,_,_⟩:=yc3 ah))
        go_roundg k4
        case measure=>exact yom4 cx HK2 HK3 HK4
        case rel=>exact ⟨(wrap64 (am+1)),(aZ),(a7),(aK),(a8),(eQ),(a9),(.slice fR eQ.length fS),yq,H',⟨yom4 cx HK2 HK3 HK4⟩,⟨yS1 al ah⟩,⟨yV0 ac⟩,⟨yS1 aa ah⟩,⟨yR1 eD ah⟩,⟨yk af⟩,⟨yk ag⟩,⟨ykp ah⟩,⟨yhb⟩⟩
      rw [if_neg c71] at H
      have ey:=yG c71
      clear c71
      simp only [Option.some.injEq,Prod.mk.injEq] at H
      obtain ⟨rfl,rfl,rfl,rfl⟩:=H
      have:=bj.out
      have:=bi.out
      have:=aU.out
      have:=aT.out
      obtain ⟨_,_,_,_,_,_⟩:=yc3 ah
      have:=bg.out
      have:=bh.out
      obtain ⟨_,_,_,_,_,_⟩:=yc3 af
      obtain ⟨fU,fV,fW⟩:=Kd.R_slice ai.out
      subst fW
      go_wp2
      refine bodyPost_ret (results_ct rfl _ _ aq 25 #[.bool (bd == 1), .slice aV ae.length aW, .slice fU aJ.length fV] (0,0) _ rfl (ykp af) Try.underlying25 rfl (by kernel_rfl)) rfl ?_
      exact ⟨_,_,ye,yS1 aa af,yR1 ai af,yhb⟩
  rw [if_neg c7] at H
  obtain ⟨eU,eV⟩:=yF c7
  simp only [Option.some.injEq,Prod.mk.injEq] at H
  obtain ⟨rfl,rfl,rfl,rfl⟩:=H
  go_enter Try.func20,Try.ntmps20
  go_wp2_with (first|((with_reducible refine gate_dst (N:=8) rfl ?_);refine ybx 8 #[.bool false, .slice none 0 0, .slice none 0 0] 25 ?_;intro aq hg eR hbox hb;have af:=zm (hbox);have et:=ygw hg;have eu:=ygw hg;replace HB:=ybs hb;clear hb hbox hg)|((with_reducible refine gate_callee (f:=48) rfl ?_);refine ygl 31 Try.func48 #[.int .i64 a0, .int .i64 a1] ?_;(with_reducible refine (alloc_Right.calls a0 a1 true _ A5.out).mono ?_);rintro e w' ⟨rfl,⟨nd,rfl⟩⟩;refine ⟨_,rfl, ?_⟩;(try (rw [drewN_self eR];generalize hq_ : World.drewN eR _=eR;replace af:=ykq hq_ af;replace HB:=ysq hq_;clear hq_));obtain ⟨_,_,_,_,_,_⟩:=yc3 af))
  refine bodyPost_ret (results_ct rfl _ _ aq 25 #[.bool false, .slice none 0 0, .slice none 0 0] (0,0) _ rfl (ykp af) Try.underlying25 rfl (by kernel_rfl)) rfl ?_
  exact ⟨_,_,ye,yn,yn,yhb⟩
 replace c6:=Bool.eq_false_iff.mpr c6
 subst c6
 rw [ynf] at H
 simp only [Option.some.injEq,Prod.mk.injEq] at H
 obtain ⟨rfl,rfl,rfl,rfl⟩:=H
 go_enter Try.func20,Try.ntmps20
 go_wp2_with (first|((with_reducible refine gate_dst (N:=8) rfl ?_);refine ybx 8 #[.bool false, .slice none 0 0, .slice none 0 0] 25 ?_;intro aq hg eS hbox hb;have af:=zm (hbox);have et:=ygw hg;have eu:=ygw hg;replace HB:=ybs hb;clear hb hbox hg)|((with_reducible refine gate_callee (f:=48) rfl ?_);refine ygl 31 Try.func48 #[.int .i64 a0, .int .i64 a1] ?_;(with_reducible refine (alloc_Right.calls a0 a1 false _ A5.out).mono ?_);rintro e w' ⟨rfl,⟨nd,rfl⟩⟩;refine ⟨_,rfl, ?_⟩;(try (rw [drewN_self eS];generalize hq_ : World.drewN eS _=eS;replace af:=ykq hq_ af;replace HB:=ysq hq_;clear hq_));obtain ⟨_,_,_,_,_,_⟩:=yc3 af))
 refine bodyPost_ret (results_ct rfl _ _ aq 25 #[.bool false, .slice none 0 0, .slice none 0 0] (0,0) _ rfl (ykp af) Try.underlying25 rfl (by kernel_rfl)) rfl ?_
 exact ⟨_,_,ye,yn,yn,yhb⟩
def r06_Same.l0 : Nat→List Int→List Int→Int→Option (Bool)
 | 0,_,_,_=>none
 | k+1,x0,x1,x5=>if x5 < (x0.length : Int) then (if 0≤x5 then (if x5 < (x1.length : Int) then (if (rd x0 x5)=(rd x1 x5) then (r06_Same.l0 k x0 x1 (wrap64 (x5+1))) else (some false)) else (none)) else (none)) else (some true)
def r06_Same.f (k : Nat) (l0 : List Int) (l1 : List Int) : Option (Bool):=if (l0.length : Int)=(l1.length : Int) then (r06_Same.l0 k l0 l1 0) else (some false)
theorem r06_Same.mono_l : ∀ k,(∀ y0 y1 y2,LeO (r06_Same.l0 k y0 y1 y2) (r06_Same.l0 (k+1) y0 y1 y2))
 | 0=>fun _ _ _ r h=>by simp [r06_Same.l0] at h
 | k+1=>by
  have ih0:=r06_Same.mono_l k
  ·
   intro y0 y1 y2
   unfold r06_Same.l0
   repeat' with_reducible first|apply ih0|apply yLr|apply yLn|apply yLi|apply yLb|intro _
theorem r06_Same.mono : ∀ a0 a1 k,LeO (r06_Same.f k a0 a1) (r06_Same.f (k+1) a0 a1):=by
 intro a0 a1 k
 have ih0:=r06_Same.mono_l k
 unfold r06_Same.f
 repeat' with_reducible first|apply ih0|apply yLr|apply yLn|apply yLi|apply yLb|intro _
set_option maxHeartbeats 8000000 in
set_option maxRecDepth 100000 in
theorem r06_Same.calls (k : Nat) (A0 : Option Addr) (c0 : Nat) (l0 : List Int) (A1 : Option Addr) (c1 : Nat) (l1 : List Int) (r : Bool) (w : World) (hr0 : Kd.C (Kd.int .i64) w A0 l0.length l0) (hc0 : l0.length≤c0) (hr1 : Kd.C (Kd.int .i64) w A1 l1.length l1) (hc1 : l1.length≤c1) (h : r06_Same.f k l0 l1=some r) :
  Calls Try.prog 61 #[.slice A0 l0.length c0, .slice A1 l1.length c1] w fun e w' => e=.returned (.bool r)∧Drawn0 w w' := by
 have HR0:=zm hr0;have HC0:=zm hc0;clear hr0 hc0;have HR1:=zm hr1;have HC1:=zm hc1;clear hr1 hc1;have H:=h
 unfold r06_Same.f at H
 clear h
 by_cases c3 : (l0.length : Int)=(l1.length : Int)
 ·
  rw [if_pos c3] at H
  obtain ⟨ah,ai⟩:=yE c3
  have aj : (l0.length == l1.length)=true:=by first|simpa using c3|(simp at c3 ⊢; omega)
  clear c3
  have H' := zm H
  clear H
  go_enter Try.func61,Try.ntmps61
  go_wp2
  repeat (go_quiet (fail);try go_wp2)
  go_loopg [5] k (fun kq v5 w' => ∃ (aa : Int),v5=.int .i64 aa∧Aside0 (r06_Same.l0 kq l0 l1 aa=some r)∧Aside0 (kq≤k)∧Drawn0 w w')
  case atStart=>exact ⟨(0),yq,H',⟨Nat.le_refl _⟩,yd⟩
  case round =>
   clear H'
   try clear c1
   try clear ah
   try clear ai
   try clear aj
   obtain ⟨aa,rfl,HA,HK1,⟨m1,rfl⟩⟩:=hrel
   obtain ⟨k1,rfl⟩:=ysu gk (fun h=>by subst h;exact absurd HA.out (by simp [r06_Same.l0]))
   have H:=HA.out;clear HA
   simp only [r06_Same.l0] at H
   by_cases c4 : aa < (l0.length : Int)
   ·
    rw [if_pos c4] at H
    have am:=yD c4
    clear c4
    obtain ⟨c5,H⟩:=yif H
    have ax : decide (0≤aa)=true:=decide_eq_true c5
    clear c5
    obtain ⟨c6,H⟩:=yif H
    have ay : decide (aa < (l1.length : Int))=true:=decide_eq_true c6
    clear c6
    by_cases c7 : (rd l0 aa)=(rd l1 aa)
    ·
     rw [if_pos c7] at H
     obtain ⟨ao,ap⟩:=yE c7
     clear c7
     have H' := zm H
     clear H
     obtain ⟨ak,af,ac,aq,au⟩:=yai HR0 aa
     cases af
     obtain ⟨al,ag,ae,av,aw⟩:=yai HR1 aa
     cases ag
     go_wp2
     repeat (go_quiet (fail);try go_wp2)
     go_roundg k1
     case measure=>exact yom1 HK1
     case rel=>exact ⟨(wrap64 (aa+1)),yq,H',⟨yom1 HK1⟩,yd⟩
    rw [if_neg c7] at H
    obtain ⟨ao,ap⟩:=yF c7
    obtain rfl:=Option.some.inj H
    obtain ⟨ak,af,ac,aq,au⟩:=yai HR0 aa
    cases af
    obtain ⟨al,ag,ae,av,aw⟩:=yai HR1 aa
    cases ag
    go_wp2
    repeat (go_quiet (fail);try go_wp2)
    go_ret
    exact ⟨yq,yd⟩
   rw [if_neg c4] at H
   have am:=yG c4
   clear c4
   obtain rfl:=Option.some.inj H
   go_wp2
   repeat (go_quiet (fail);try go_wp2)
   go_ret
   exact ⟨yq,yd⟩
 rw [if_neg c3] at H
 obtain ⟨ah,ai⟩:=yF c3
 have aj : (l0.length == l1.length)=false:=by first|simpa using c3|(simp at c3 ⊢; omega)
 obtain rfl:=Option.some.inj H
 go_enter Try.func61,Try.ntmps61
 go_wp2
 repeat (go_quiet (fail);try go_wp2)
 go_ret
 exact ⟨yq,yd⟩
def r12_Same.l0 : Nat→List (List Int)→List (List Int)→Int→Option (Bool)
 | 0,_,_,_=>none
 | k+1,x0,x1,x5=>if x5 < (x0.length : Int) then (if 0≤x5 then (if x5 < (x1.length : Int) then ((r06_Same.f k (rd_L1 x0 x5) (rd_L1 x1 x5)).bind fun ax=>(if ax=true then (r12_Same.l0 k x0 x1 (wrap64 (x5+1))) else (some false))) else (none)) else (none)) else (some true)
def r12_Same.f (k : Nat) (l0 : List (List Int)) (l1 : List (List Int)) : Option (Bool):=if (l0.length : Int)=(l1.length : Int) then (r12_Same.l0 k l0 l1 0) else (some false)
theorem r12_Same.mono_l : ∀ k,(∀ y0 y1 y2,LeO (r12_Same.l0 k y0 y1 y2) (r12_Same.l0 (k+1) y0 y1 y2))
 | 0=>fun _ _ _ r h=>by simp [r12_Same.l0] at h
 | k+1=>by
  have ih0:=r12_Same.mono_l k
  ·
   intro y0 y1 y2
   unfold r12_Same.l0
   repeat' with_reducible first|apply ih0|apply r06_Same.mono|apply yLr|apply yLn|apply yLi|apply yLb|intro _
theorem r12_Same.mono : ∀ a0 a1 k,LeO (r12_Same.f k a0 a1) (r12_Same.f (k+1) a0 a1):=by
 intro a0 a1 k
 have ih0:=r12_Same.mono_l k
 unfold r12_Same.f
 repeat' with_reducible first|apply ih0|apply r06_Same.mono|apply yLr|apply yLn|apply yLi|apply yLb|intro _
set_option maxHeartbeats 8000000 in
set_option maxRecDepth 100000 in
theorem r12_Same.calls (k : Nat) (A0 : Option Addr) (c0 : Nat) (l0 : List (List Int)) (A1 : Option Addr) (c1 : Nat) (l1 : List (List Int)) (r : Bool) (w : World) (hr0 : Kd.C (Kd.slice 3 (Kd.int .i64)) w A0 l0.length l0) (hc0 : l0.length≤c0) (hr1 : Kd.C (Kd.slice 3 (Kd.int .i64)) w A1 l1.length l1) (hc1 : l1.length≤c1) (h : r12_Same.f k l0 l1=some r) :
  Calls Try.prog 24 #[.slice A0 l0.length c0, .slice A1 l1.length c1] w fun e w' => e=.returned (.bool r)∧Drawn0 w w' := by
 have HR0:=zm hr0;have HC0:=zm hc0;clear hr0 hc0;have HR1:=zm hr1;have HC1:=zm hc1;clear hr1 hc1;have H:=h
 unfold r12_Same.f at H
 clear h
 by_cases c3 : (l0.length : Int)=(l1.length : Int)
 ·
  rw [if_pos c3] at H
  obtain ⟨aG,aH⟩:=yE c3
  have aI : (l0.length == l1.length)=true:=by first|simpa using c3|(simp at c3 ⊢; omega)
  clear c3
  have H' := zm H
  clear H
  go_enter Try.func24,Try.ntmps24
  go_wp2
  repeat (go_quiet (fail);try go_wp2)
  go_loopg [5] k (fun kq v5 w' => ∃ (aa : Int),v5=.int .i64 aa∧Aside0 (r12_Same.l0 kq l0 l1 aa=some r)∧Aside0 (kq≤k)∧Drawn0 w w')
  case atStart=>exact ⟨(0),yq,H',⟨Nat.le_refl _⟩,yd⟩
  case round =>
   clear H'
   try clear c1
   try clear aG
   try clear aH
   try clear aI
   obtain ⟨aa,rfl,HA,HK1,⟨m1,rfl⟩⟩:=hrel
   obtain ⟨k1,rfl⟩:=ysu gk (fun h=>by subst h;exact absurd HA.out (by simp [r12_Same.l0]))
   have H:=HA.out;clear HA
   simp only [r12_Same.l0] at H
   by_cases c4 : aa < (l0.length : Int)
   ·
    rw [if_pos c4] at H
    have aM:=yD c4
    clear c4
    obtain ⟨c5,H⟩:=yif H
    have aN : decide (0≤aa)=true:=decide_eq_true c5
    clear c5
    obtain ⟨c6,H⟩:=yif H
    have aQ : decide (aa < (l1.length : Int))=true:=decide_eq_true c6
    clear c6
    obtain ⟨ax,A7,H⟩:=ybi H
    by_cases c8 : ax=true
    ·
     subst c8
     rw [if_pos rfl] at H
     have H' := zm H
     clear H
     have ao : 0≤(aa : Int):=yt
     have ap : aa < (l0.length : Int):=yt
     obtain ⟨aJ,ay,az,aA,av,aj,ak⟩:=at_L1 HR0.out aa ao ap
     cases aA
     have ac:=zm ak;have ae:=zm aj;clear ak aj
     replace ao:=eq_true ao
     replace ap:=eq_true ap
     have aq : 0≤(aa : Int):=yt
     have au : aa < (l1.length : Int):=yt
     obtain ⟨aK,aC,aD,aE,aw,al,am⟩:=at_L1 HR1.out aa aq au
     cases aE
     have af:=zm am;have ag:=zm al;clear am al
     replace aq:=eq_true aq
     replace au:=eq_true au
     go_wp2_with (first|(go_at_call 61;(with_reducible refine (r06_Same.calls k1 _ _ (rd_L1 l0 aa) _ _ (rd_L1 l1 aa) true _ ?ah ae.out ?ai ag.out A7.out).mono ?_);(case ah=>exact yce ac.out);(case ai=>exact yce af.out);rintro e w' ⟨rfl,⟨nd,rfl⟩⟩;(try exact yww)))
     repeat (go_quiet (first|(go_at_call 61;(with_reducible refine (r06_Same.calls k1 _ _ (rd_L1 l0 aa) _ _ (rd_L1 l1 aa) true _ ?ah ae.out ?ai ag.out A7.out).mono ?_);(case ah=>exact yce ac.out);(case ai=>exact yce af.out);rintro e w' ⟨rfl,⟨nd,rfl⟩⟩;(try exact yww)));try go_wp2_with (first|(go_at_call 61;(with_reducible refine (r06_Same.calls k1 _ _ (rd_L1 l0 aa) _ _ (rd_L1 l1 aa) true _ ?ah ae.out ?ai ag.out A7.out).mono ?_);(case ah=>exact yce ac.out);(case ai=>exact yce af.out);rintro e w' ⟨rfl,⟨nd,rfl⟩⟩;(try exact yww))))
     go_roundg k1
     case measure=>exact yom1 HK1
     case rel=>exact ⟨(wrap64 (aa+1)),yq,H',⟨yom1 HK1⟩,yd⟩
    replace c8:=Bool.eq_false_iff.mpr c8
    subst c8
    rw [ynf] at H
    obtain rfl:=Option.some.inj H
    have ao : 0≤(aa : Int):=yt
    have ap : aa < (l0.length : Int):=yt
    obtain ⟨aJ,ay,az,aA,av,aj,ak⟩:=at_L1 HR0.out aa ao ap
    cases aA
    have ac:=zm ak;have ae:=zm aj;clear ak aj
    replace ao:=eq_true ao
    replace ap:=eq_true ap
    have aq : 0≤(aa : Int):=yt
    have au : aa < (l1.length : Int):=yt
    obtain ⟨aK,aC,aD,aE,aw,al,am⟩:=at_L1 HR1.out aa aq au
    cases aE
    have af:=zm am;have ag:=zm al;clear am al
    replace aq:=eq_true aq
    replace au:=eq_true au
    go_wp2_with (first|(go_at_call 61;(with_reducible refine (r06_Same.calls k1 _ _ (rd_L1 l0 aa) _ _ (rd_L1 l1 aa) false _ ?ah ae.out ?ai ag.out A7.out).mono ?_);(case ah=>exact yce ac.out);(case ai=>exact yce af.out);rintro e w' ⟨rfl,⟨nd,rfl⟩⟩;(try exact yww)))
    repeat (go_quiet (first|(go_at_call 61;(with_reducible refine (r06_Same.calls k1 _ _ (rd_L1 l0 aa) _ _ (rd_L1 l1 aa) false _ ?ah ae.out ?ai ag.out A7.out).mono ?_);(case ah=>exact yce ac.out);(case ai=>exact yce af.out);rintro e w' ⟨rfl,⟨nd,rfl⟩⟩;(try exact yww)));try go_wp2_with (first|(go_at_call 61;(with_reducible refine (r06_Same.calls k1 _ _ (rd_L1 l0 aa) _ _ (rd_L1 l1 aa) false _ ?ah ae.out ?ai ag.out A7.out).mono ?_);(case ah=>exact yce ac.out);(case ai=>exact yce af.out);rintro e w' ⟨rfl,⟨nd,rfl⟩⟩;(try exact yww))))
    go_ret
    exact ⟨yq,yd⟩
   rw [if_neg c4] at H
   have aM:=yG c4
   clear c4
   obtain rfl:=Option.some.inj H
   go_wp2
   repeat (go_quiet (fail);try go_wp2)
   go_ret
   exact ⟨yq,yd⟩
 rw [if_neg c3] at H
 obtain ⟨aG,aH⟩:=yF c3
 have aI : (l0.length == l1.length)=false:=by first|simpa using c3|(simp at c3 ⊢; omega)
 obtain rfl:=Option.some.inj H
 go_enter Try.func24,Try.ntmps24
 go_wp2
 repeat (go_quiet (fail);try go_wp2)
 go_ret
 exact ⟨yq,yd⟩
mutual
def r13_Same.j0 : Nat→Bool→Bool→List (List Int)→List (List (List Int))→Bool→List (List Int)→List (List (List Int))→Option (Bool)
 | 0,_,_,_,_,_,_,_=>none
 | k+1,x27,aM,aN,ax,aQ,aT,ay=>if x27=true then (some false) else (r13_Same.l0 k 0 aM aN ax aQ aT ay)
def r13_Same.l0 : Nat→Int→Bool→List (List Int)→List (List (List Int))→Bool→List (List Int)→List (List (List Int))→Option (Bool)
 | 0,_,_,_,_,_,_,_=>none
 | k+1,x5,aM,aN,ax,aQ,aT,ay=>if x5 < (ax.length : Int) then (if 0≤x5 then (if x5 < (ay.length : Int) then ((r12_Same.f k (rd_L2 ax x5) (rd_L2 ay x5)).bind fun bo=>(if bo=true then (r13_Same.l0 k (wrap64 (x5+1)) aM aN ax aQ aT ay) else (some false))) else (none)) else (none)) else (some true)
end
def r13_Same.f (k : Nat) (am : Bool) (ak : List (List Int)) (ai : List (List (List Int))) (ao : Bool) (al : List (List Int)) (aj : List (List (List Int))) : Option (Bool):=if (am != ao)=true then (r13_Same.j0 k true am ak ai ao al aj) else ((r12_Same.f k ak al).bind fun bp=>(if bp=true then (r13_Same.j0 k ((ai.length : Int) != (aj.length : Int)) am ak ai ao al aj) else (r13_Same.j0 k true am ak ai ao al aj)))
theorem r13_Same.mono_l : ∀ k,(∀ y0 y1 y2 y3 y4 y5 y6,LeO (r13_Same.j0 k y0 y1 y2 y3 y4 y5 y6) (r13_Same.j0 (k+1) y0 y1 y2 y3 y4 y5 y6))∧(∀ y0 y1 y2 y3 y4 y5 y6,LeO (r13_Same.l0 k y0 y1 y2 y3 y4 y5 y6) (r13_Same.l0 (k+1) y0 y1 y2 y3 y4 y5 y6))
 | 0=>⟨fun _ _ _ _ _ _ _ r h=>by simp [r13_Same.j0] at h,fun _ _ _ _ _ _ _ r h=>by simp [r13_Same.l0] at h⟩
 | k+1=>by
  obtain ⟨ih0,ih1⟩:=r13_Same.mono_l k
  refine ⟨?_, ?_⟩
  ·
   intro y0 y1 y2 y3 y4 y5 y6
   unfold r13_Same.j0
   repeat' with_reducible first|apply ih0|apply ih1|apply r12_Same.mono|apply yLr|apply yLn|apply yLi|apply yLb|intro _
  intro y0 y1 y2 y3 y4 y5 y6
  unfold r13_Same.l0
  repeat' with_reducible first|apply ih0|apply ih1|apply r12_Same.mono|apply yLr|apply yLn|apply yLi|apply yLb|intro _
theorem r13_Same.mono : ∀ a0 a1 a2 a3 a4 a5 k,LeO (r13_Same.f k a0 a1 a2 a3 a4 a5) (r13_Same.f (k+1) a0 a1 a2 a3 a4 a5):=by
 intro a0 a1 a2 a3 a4 a5 k
 obtain ⟨ih0,ih1⟩:=r13_Same.mono_l k
 unfold r13_Same.f
 repeat' with_reducible first|apply ih0|apply ih1|apply r12_Same.mono|apply yLr|apply yLn|apply yLi|apply yLb|intro _
set_option maxHeartbeats 8000000 in
set_option maxRecDepth 100000 in
theorem r13_Same.calls (k : Nat) (am : Bool) (aU : Option Addr) (aV : Nat) (ak : List (List Int)) (aW : Option Addr) (aX : Nat) (ai : List (List (List Int))) (ao : Bool) (aY : Option Addr) (aZ : Nat) (al : List (List Int)) (a7 : Option Addr) (a8 : Nat) (aj : List (List (List Int))) (r : Bool) (w : World) (hr0_1 : Kd.C (Kd.slice 3 (Kd.int .i64)) w aU ak.length ak) (hc0_1 : ak.length≤aV) (hr0_2 : Kd.C (Kd.slice 49 (Kd.slice 3 (Kd.int .i64))) w aW ai.length ai) (hc0_2 : ai.length≤aX) (hr1_1 : Kd.C (Kd.slice 3 (Kd.int .i64)) w aY al.length al) (hc1_1 : al.length≤aZ) (hr1_2 : Kd.C (Kd.slice 49 (Kd.slice 3 (Kd.int .i64))) w a7 aj.length aj) (hc1_2 : aj.length≤a8) (h : r13_Same.f k am ak ai ao al aj=some r) :
  Calls Try.prog 22 #[.agg #[.bool am, .slice aU ak.length aV, .slice aW ai.length aX], .agg #[.bool ao, .slice aY al.length aZ, .slice a7 aj.length a8]] w fun e w' => e=.returned (.bool r)∧Below w.heap.size w w' := by
 have hu33:=Try.underlying33;have aH:=zm hr0_1;have aI:=zm hc0_1;clear hr0_1 hc0_1;have bi:=zm hr0_2;have bD:=zm hc0_2;clear hr0_2 hc0_2;have aJ:=zm hr1_1;have aK:=zm hc1_1;clear hr1_1 hc1_1;have bj:=zm hr1_2;have bE:=zm hc1_2;clear hr1_2 hc1_2;have HB:=zm (Below.refl w.heap.size w);have H:=h
 unfold r13_Same.f at H
 clear h;have HC3:=zm H;clear H
 go_enter Try.func22,Try.ntmps22
 go_upto_region 1 with (first|((with_reducible refine gate_dst (N:=2) rfl ?_);(try (refine gate_guard (by rfl) ?_;dsimp only));refine ybx 2 #[.bool am, .slice aU ak.length aV, .slice aW ai.length aX] 33 ?_;intro bd hg w4 hbox hb;have aa:=zm (hbox);have bk:=ygw hg;have bl:=ygw hg;replace HB:=ybs hb;clear hb hbox hg)|((with_reducible refine gate_dst (N:=3) rfl ?_);(try (refine gate_guard (by rfl) ?_;dsimp only));refine ybx 3 #[.bool ao, .slice aY al.length aZ, .slice a7 aj.length a8] 33 ?_;intro bf hg w5 hbox hb;have ap:=zm (hbox);have bm:=ygw hg;have bn:=ygw hg;replace HB:=ybs hb;have ag:=ynl aa hg;have ah:=yng aa hg;replace aa:=ybb aa hb;clear hb hbox hg))
 repeat (go_quiet (first|((with_reducible refine gate_dst (N:=2) rfl ?_);(try (refine gate_guard (by rfl) ?_;dsimp only));refine ybx 2 #[.bool am, .slice aU ak.length aV, .slice aW ai.length aX] 33 ?_;intro bd hg w4 hbox hb;have aa:=zm (hbox);have bk:=ygw hg;have bl:=ygw hg;replace HB:=ybs hb;clear hb hbox hg)|((with_reducible refine gate_dst (N:=3) rfl ?_);(try (refine gate_guard (by rfl) ?_;dsimp only));refine ybx 3 #[.bool ao, .slice aY al.length aZ, .slice a7 aj.length a8] 33 ?_;intro bf hg w5 hbox hb;have ap:=zm (hbox);have bm:=ygw hg;have bn:=ygw hg;replace HB:=ybs hb;have ag:=ynl aa hg;have ah:=yng aa hg;replace aa:=ybb aa hb;clear hb hbox hg));go_upto_region 1 with (first|((with_reducible refine gate_dst (N:=2) rfl ?_);(try (refine gate_guard (by rfl) ?_;dsimp only));refine ybx 2 #[.bool am, .slice aU ak.length aV, .slice aW ai.length aX] 33 ?_;intro bd hg w4 hbox hb;have aa:=zm (hbox);have bk:=ygw hg;have bl:=ygw hg;replace HB:=ybs hb;clear hb hbox hg)|((with_reducible refine gate_dst (N:=3) rfl ?_);(try (refine gate_guard (by rfl) ?_;dsimp only));refine ybx 3 #[.bool ao, .slice aY al.length aZ, .slice a7 aj.length a8] 33 ?_;intro bf hg w5 hbox hb;have ap:=zm (hbox);have bm:=ygw hg;have bn:=ygw hg;replace HB:=ybs hb;have ag:=ynl aa hg;have ah:=yng aa hg;replace aa:=ybb aa hb;clear hb hbox hg)))
 (try simp only [Act.put,List.setIfInBounds_toArray,List.set_cons_zero,List.set_cons_succ])
 go_cut [27] (fun v27 wc => ∃ (kq : Nat) (bg : Bool),v27=.bool bg∧Aside0 (r13_Same.j0 kq bg am ak ai ao al aj=some r)∧Aside0 (kq≤k)∧Aside0 (wc.heap[bd]? = some (.cells #[.bool am,(.slice aU ak.length aV),(.slice aW ai.length aX)] 33 (0,0)))∧Aside0 (wc.heap[bf]? = some (.cells #[.bool ao,(.slice aY al.length aZ),(.slice a7 aj.length a8)] 33 (0,0)))∧Aside0 (Below w.heap.size w wc))
 case first =>
  have H:=HC3.out;clear HC3
  by_cases c6 : (am != ao)=true
  ·
   rw [if_pos c6] at H
   have bh : (am != ao)=true:=c6
   (try (have bB : decide (am=ao)=false:=by simpa using c6))
   (try (have bC : (am == ao)=false:=by simpa using c6))
   (try (have bH : ¬ (am=ao):=by simpa using c6))
   clear c6
   (first|rw [bh]|(simp only [i64_w,i32_w];rw [bh])|skip)
   have H' := zm H
   clear H
   have:=ag.out
   have:=ah.out
   obtain ⟨_,_,_,_,_,_⟩:=yc3 aa
   obtain ⟨_,_,_,_,_,_⟩:=yc3 ap
   go_wp2
   repeat (go_quiet (fail);try go_wp2)
   go_meet
   case rel=>exact ⟨_,(true),yq,H',⟨yo⟩,⟨yk aa⟩,⟨yk ap⟩,⟨yhb⟩⟩
  rw [if_neg c6] at H
  have bh : (am != ao)=false:=by simpa using c6
  (try (have bB : decide (am=ao)=true:=by simpa using c6))
  (try (have bC : (am == ao)=true:=by simpa using c6))
  clear c6
  (first|rw [bh]|(simp only [i64_w,i32_w];rw [bh])|skip)
  obtain ⟨bp,A10,H⟩:=ybi H
  by_cases c11 : bp=true
  ·
   subst c11
   rw [if_pos rfl] at H
   have H' := zm H
   clear H
   have:=ag.out
   have:=ah.out
   obtain ⟨_,_,_,_,_,_⟩:=yc3 aa
   obtain ⟨_,_,_,_,_,_⟩:=yc3 ap
   go_wp2_with (first|(go_at_call 24;(with_reducible refine (r12_Same.calls k _ _ ak _ _ al true _ ?ac aI.out ?ae aK.out A10.out).mono ?_);(case ac=>exact ycb aH);(case ae=>exact ycb aJ);rintro e w' ⟨rfl,⟨nd,rfl⟩⟩;(try exact yww)))
   repeat (go_quiet (first|(go_at_call 24;(with_reducible refine (r12_Same.calls k _ _ ak _ _ al true _ ?ac aI.out ?ae aK.out A10.out).mono ?_);(case ac=>exact ycb aH);(case ae=>exact ycb aJ);rintro e w' ⟨rfl,⟨nd,rfl⟩⟩;(try exact yww)));try go_wp2_with (first|(go_at_call 24;(with_reducible refine (r12_Same.calls k _ _ ak _ _ al true _ ?ac aI.out ?ae aK.out A10.out).mono ?_);(case ac=>exact ycb aH);(case ae=>exact ycb aJ);rintro e w' ⟨rfl,⟨nd,rfl⟩⟩;(try exact yww))))
   go_meet
   case rel=>exact ⟨_,(((ai.length : Int) != (aj.length : Int))),yq,H',⟨yo⟩,⟨yk aa⟩,⟨yk ap⟩,⟨yhb⟩⟩
  replace c11:=Bool.eq_false_iff.mpr c11
  subst c11
  rw [ynf] at H
  have H' := zm H
  clear H
  have:=ag.out
  have:=ah.out
  obtain ⟨_,_,_,_,_,_⟩:=yc3 aa
  obtain ⟨_,_,_,_,_,_⟩:=yc3 ap
  go_wp2_with (first|(go_at_call 24;(with_reducible refine (r12_Same.calls k _ _ ak _ _ al false _ ?ac aI.out ?ae aK.out A10.out).mono ?_);(case ac=>exact ycb aH);(case ae=>exact ycb aJ);rintro e w' ⟨rfl,⟨nd,rfl⟩⟩;(try exact yww)))
  repeat (go_quiet (first|(go_at_call 24;(with_reducible refine (r12_Same.calls k _ _ ak _ _ al false _ ?ac aI.out ?ae aK.out A10.out).mono ?_);(case ac=>exact ycb aH);(case ae=>exact ycb aJ);rintro e w' ⟨rfl,⟨nd,rfl⟩⟩;(try exact yww)));try go_wp2_with (first|(go_at_call 24;(with_reducible refine (r12_Same.calls k _ _ ak _ _ al false _ ?ac aI.out ?ae aK.out A10.out).mono ?_);(case ac=>exact ycb aH);(case ae=>exact ycb aJ);rintro e w' ⟨rfl,⟨nd,rfl⟩⟩;(try exact yww))))
  go_meet
  case rel=>exact ⟨_,(true),yq,H',⟨yo⟩,⟨yk aa⟩,⟨yk ap⟩,⟨yhb⟩⟩
 case rest =>
  clear HC3
  obtain ⟨kq,bg,rfl,HA,HJ2,aa,ap,HB⟩:=hcut
  obtain ⟨kj2,rfl⟩:=ysu kq (fun h=>by subst h;exact absurd HA.out (by simp [r13_Same.j0]))
  have H:=HA.out;clear HA
  simp only [r13_Same.j0] at H
  by_cases c18 : bg=true
  ·
   subst c18
   rw [if_pos rfl] at H
   obtain rfl:=Option.some.inj H
   go_wp2
   repeat (go_quiet (fail);try go_wp2)
   go_ret
   exact ⟨ye,yhb⟩
  replace c18:=Bool.eq_false_iff.mpr c18
  subst c18
  rw [ynf] at H
  have H' := zm H
  clear H
  go_wp2
  repeat (go_quiet (fail);try go_wp2)
  go_loopg [5] kj2 (fun kq v5 w' => ∃ (af : Int),v5=.int .i64 af∧Aside0 (r13_Same.l0 kq af am ak ai ao al aj=some r)∧Aside0 (kq≤kj2)∧Aside0 (w'.heap[bd]? = some (.cells #[.bool am,(.slice aU ak.length aV),(.slice aW ai.length aX)] 33 (0,0)))∧Aside0 (w'.heap[bf]? = some (.cells #[.bool ao,(.slice aY al.length aZ),(.slice a7 aj.length a8)] 33 (0,0)))∧Aside0 (Below w.heap.size w w'))
  case atStart=>exact ⟨(0),yq,H',⟨Nat.le_refl _⟩,⟨yk aa⟩,⟨yk ap⟩,⟨yhb⟩⟩
  case round =>
   clear H'
   obtain ⟨af,rfl,HA,HK2,aa,ap,HB⟩:=hrel
   obtain ⟨k2,rfl⟩:=ysu gk (fun h=>by subst h;exact absurd HA.out (by simp [r13_Same.l0]))
   have H:=HA.out;clear HA
   simp only [r13_Same.l0] at H
   by_cases c19 : af < (ai.length : Int)
   ·
    rw [if_pos c19] at H
    have bx:=yD c19
    clear c19
    obtain ⟨c20,H⟩:=yif H
    have bF : decide (0≤af)=true:=decide_eq_true c20
    clear c20
    obtain ⟨c21,H⟩:=yif H
    have bG : decide (af < (aj.length : Int))=true:=decide_eq_true c21
    clear c21
    obtain ⟨bo,A22,H⟩:=ybi H
    by_cases c23 : bo=true
    ·
     subst c23
     rw [if_pos rfl] at H
     have H' := zm H
     clear H
     have:=ag.out
     have:=ah.out
     obtain ⟨_,_,_,_,_,_⟩:=yc3 aa
     have a9 : 0≤(af : Int):=yt
     have ba : af < (ai.length : Int):=yt
     obtain ⟨bz,bq,br,bs,az,aA,aC⟩:=at_L2 bi.out af a9 ba
     cases bs
     replace az:=yhx HB az
     have aq:=zm aC;have au:=zm aA;clear aC aA
     replace a9:=eq_true a9
     replace ba:=eq_true ba
     obtain ⟨_,_,_,_,_,_⟩:=yc3 ap
     have bb : 0≤(af : Int):=yt
     have bc : af < (aj.length : Int):=yt
     obtain ⟨bA,bu,bv,bw,aD,aE,aG⟩:=at_L2 bj.out af bb bc
     cases bw
     replace aD:=yhx HB aD
     have av:=zm aG;have aw:=zm aE;clear aG aE
     replace bb:=eq_true bb
     replace bc:=eq_true bc
     go_wp2_with (first|(go_at_call 24;(with_reducible refine (r12_Same.calls k2 _ _ (rd_L2 ai af) _ _ (rd_L2 aj af) true _ ?ac au.out ?ae aw.out A22.out).mono ?_);(case ac=>exact ycb aq);(case ae=>exact ycb av);rintro e w' ⟨rfl,⟨nd,rfl⟩⟩;(try exact yww)))
     repeat (go_quiet (first|(go_at_call 24;(with_reducible refine (r12_Same.calls k2 _ _ (rd_L2 ai af) _ _ (rd_L2 aj af) true _ ?ac au.out ?ae aw.out A22.out).mono ?_);(case ac=>exact ycb aq);(case ae=>exact ycb av);rintro e w' ⟨rfl,⟨nd,rfl⟩⟩;(try exact yww)));try go_wp2_with (first|(go_at_call 24;(with_reducible refine (r12_Same.calls k2 _ _ (rd_L2 ai af) _ _ (rd_L2 aj af) true _ ?ac au.out ?ae aw.out A22.out).mono ?_);(case ac=>exact ycb aq);(case ae=>exact ycb av);rintro e w' ⟨rfl,⟨nd,rfl⟩⟩;(try exact yww))))
     go_roundg k2
     case measure=>exact yom2 HJ2 HK2
     case rel=>exact ⟨(wrap64 (af+1)),yq,H',⟨yom2 HJ2 HK2⟩,⟨yk aa⟩,⟨yk ap⟩,⟨yhb⟩⟩
    replace c23:=Bool.eq_false_iff.mpr c23
    subst c23
    rw [ynf] at H
    obtain rfl:=Option.some.inj H
    have:=ag.out
    have:=ah.out
    obtain ⟨_,_,_,_,_,_⟩:=yc3 aa
    have a9 : 0≤(af : Int):=yt
    have ba : af < (ai.length : Int):=yt
    obtain ⟨bz,bq,br,bs,az,aA,aC⟩:=at_L2 bi.out af a9 ba
    cases bs
    replace az:=yhx HB az
    have aq:=zm aC;have au:=zm aA;clear aC aA
    replace a9:=eq_true a9
    replace ba:=eq_true ba
    obtain ⟨_,_,_,_,_,_⟩:=yc3 ap
    have bb : 0≤(af : Int):=yt
    have bc : af < (aj.length : Int):=yt
    obtain ⟨bA,bu,bv,bw,aD,aE,aG⟩:=at_L2 bj.out af bb bc
    cases bw
    replace aD:=yhx HB aD
    have av:=zm aG;have aw:=zm aE;clear aG aE
    replace bb:=eq_true bb
    replace bc:=eq_true bc
    go_wp2_with (first|(go_at_call 24;(with_reducible refine (r12_Same.calls k2 _ _ (rd_L2 ai af) _ _ (rd_L2 aj af) false _ ?ac au.out ?ae aw.out A22.out).mono ?_);(case ac=>exact ycb aq);(case ae=>exact ycb av);rintro e w' ⟨rfl,⟨nd,rfl⟩⟩;(try exact yww)))
    repeat (go_quiet (first|(go_at_call 24;(with_reducible refine (r12_Same.calls k2 _ _ (rd_L2 ai af) _ _ (rd_L2 aj af) false _ ?ac au.out ?ae aw.out A22.out).mono ?_);(case ac=>exact ycb aq);(case ae=>exact ycb av);rintro e w' ⟨rfl,⟨nd,rfl⟩⟩;(try exact yww)));try go_wp2_with (first|(go_at_call 24;(with_reducible refine (r12_Same.calls k2 _ _ (rd_L2 ai af) _ _ (rd_L2 aj af) false _ ?ac au.out ?ae aw.out A22.out).mono ?_);(case ac=>exact ycb aq);(case ae=>exact ycb av);rintro e w' ⟨rfl,⟨nd,rfl⟩⟩;(try exact yww))))
    go_ret
    exact ⟨ye,yhb⟩
   rw [if_neg c19] at H
   have bx:=yG c19
   clear c19
   obtain rfl:=Option.some.inj H
   have:=ag.out
   have:=ah.out
   obtain ⟨_,_,_,_,_,_⟩:=yc3 aa
   go_wp2
   repeat (go_quiet (fail);try go_wp2)
   go_ret
   exact ⟨ye,yhb⟩
def w13_knows.f (k : Nat)  : Option (Bool):=(some (([(([0,0,0,0,0] : List Int))] : List (List Int)) : List (List Int))).bind fun af=>((some (([(([(([0] : List Int)),(([0] : List Int)),(([0,0] : List Int)),(([0,0,0,0] : List Int)),(([0,0,0,0,0,0,0,0] : List Int))] : List (List Int)))] : List (List (List Int))) : List (List (List Int)))).bind fun ac=>((cpack_Write.f k 11 1 true af ac ([] : List (List Int))).bind fun au=>((cpack_Read.f k 11 1 au.1 ([] : List (List Int))).bind fun ak=>((cpack_Read.f k 11 1 (List.replicate 11 0) (([(([9,2,3,4,5] : List Int))] : List (List Int)))).bind fun ah=>(if (au.1.length : Int)=11 then (if au.2=0 then ((w13_As.f ak.1 ak.2.1 ak.2.2.1).bind fun ai=>((w13_As.f true af ac).bind fun aj=>((r13_Same.f k ai.1 ai.2.1 ai.2.2 aj.1 aj.2.1 aj.2.2).bind fun a8=>(if a8=true then (if ak.2.2.2=0 then (if ah.1=true then (none) else ((r12_Same.f k ah.2.1 (([(([6,0,0,1,2] : List Int))] : List (List Int)))).bind fun aU=>(if aU=true then (if ah.2.2.2=0 then ((cpack_Right.f k 11 1 true af ac).bind fun aQ=>(some aQ)) else (none)) else (none)))) else (none)) else (none))))) else (none)) else (none))))))
theorem w13_knows.mono : ∀ k,LeO (w13_knows.f k ) (w13_knows.f (k+1) ):=by
 intro  k
 unfold w13_knows.f
 repeat' with_reducible first|apply cpack_Read.mono|apply cpack_Right.mono|apply cpack_Write.mono|apply r12_Same.mono|apply r13_Same.mono|apply yLr|apply yLn|apply yLi|apply yLb|intro _
def w13_knows.T5 : Bool × List (List Nat × List Nat):=(true, [([], []),([0], [0]),([1], [1]),([2], [2]),([3], [3]),([4,3], [3,4]),([3,5], [3,5]),([6,3], [6]),([7], [7]),([8,7,7], [7,8]),([7], [7]),([10,9,7], [7,10]),([9,11,11,7], [7,9,11]),([7,12], [7,12]),([13,12], [13]),([14], [14]),([15,14], [14,15]),([14,16], [14,16]),([17,14], [17]),([18], [18]),([19,18], [18,19]),([20,18], [18,20]),([18,21], [18,21]),([22,18], [22]),([23], [23]),([24,23], [23,24]),([23], [23]),([26,23], [23,26]),([25,27,23,23], [23,25,27]),([23,28], [23,28]),([29,28], [29]),([30], [30]),([31,30], [30,31]),([30,32], [30,32]),([33,30], [33]),([34], [34]),([35,34,34], [34,35]),([34,36], [34,36]),([37,36,0,1,2,3,4,5,6,7,8,9,10,11,12,13,14,15,16,17,18,19,20,21,22,23,24,25,26,27,28,29,30,31,32,33,34,35,36,37], [37])])
def w13_knows.B5 : List Nat := [0,1,3,7,15,31,63,127,255,511,255,2047,4095,8191,16383,32767,65535,131071,262143,524287,1048575,2097151,4194303,8388607,16777215,33554431,16777215,83886079,268435455,536870911,1073741823,2147483647,4294967295,8589934591,17179869183,34359738367,68719476735,137438953471,274877906943]
theorem w13_knows.tab5 : rtab .any (opsOf Try.f11 5)=w13_knows.T5:=by kernel_rfl
theorem w13_knows.bits5 : waitsOk w13_knows.T5.2 w13_knows.B5=true:=by kernel_rfl
set_option maxHeartbeats 8000000 in
set_option maxRecDepth 100000 in
theorem w13_knows.calls (k : Nat)  (r : Bool) (w : World) (h : w13_knows.f k  = some r) :
  Calls Try.prog 11 #[] w fun e w' => e=.returned (.bool r)∧Below w.heap.size w w' := by
 have hu25:=Try.underlying25;have HB:=zm (Below.refl w.heap.size w);have H:=h
 unfold w13_knows.f at H
 clear h
 obtain ⟨bN,ce⟩ : ∃ y_ : List Int,y_=(([0,0,0,0,0] : List Int)):=⟨_,rfl⟩
 replace H : ((some (([bN] : List (List Int)) : List (List Int))).bind fun af=>((some (([(([(([0] : List Int)),(([0] : List Int)),(([0,0] : List Int)),(([0,0,0,0] : List Int)),(([0,0,0,0,0,0,0,0] : List Int))] : List (List Int)))] : List (List (List Int))) : List (List (List Int)))).bind fun ac=>((cpack_Write.f k 11 1 true af ac ([] : List (List Int))).bind fun au=>((cpack_Read.f k 11 1 au.1 ([] : List (List Int))).bind fun ak=>((cpack_Read.f k 11 1 (List.replicate 11 0) (([(([9,2,3,4,5] : List Int))] : List (List Int)))).bind fun ah=>(if (au.1.length : Int)=11 then (if au.2=0 then ((w13_As.f ak.1 ak.2.1 ak.2.2.1).bind fun ai=>((w13_As.f true af ac).bind fun aj=>((r13_Same.f k ai.1 ai.2.1 ai.2.2 aj.1 aj.2.1 aj.2.2).bind fun a8=>(if a8=true then (if ak.2.2.2=0 then (if ah.1=true then (none) else ((r12_Same.f k ah.2.1 (([(([6,0,0,1,2] : List Int))] : List (List Int)))).bind fun aU=>(if aU=true then (if ah.2.2.2=0 then ((cpack_Right.f k 11 1 true af ac).bind fun aQ=>(some aQ)) else (none)) else (none)))) else (none)) else (none))))) else (none)) else (none)))))))=some r:=yrw ce H
 have cf:=zm ce;clear ce
 obtain ⟨af,cg⟩ : ∃ y_ : List (List Int),y_=(([bN] : List (List Int))):=⟨_,rfl⟩
 replace H : ((some (([(([(([0] : List Int)),(([0] : List Int)),(([0,0] : List Int)),(([0,0,0,0] : List Int)),(([0,0,0,0,0,0,0,0] : List Int))] : List (List Int)))] : List (List (List Int))) : List (List (List Int)))).bind fun ac=>((cpack_Write.f k 11 1 true af ac ([] : List (List Int))).bind fun au=>((cpack_Read.f k 11 1 au.1 ([] : List (List Int))).bind fun ak=>((cpack_Read.f k 11 1 (List.replicate 11 0) (([(([9,2,3,4,5] : List Int))] : List (List Int)))).bind fun ah=>(if (au.1.length : Int)=11 then (if au.2=0 then ((w13_As.f ak.1 ak.2.1 ak.2.2.1).bind fun ai=>((w13_As.f true af ac).bind fun aj=>((r13_Same.f k ai.1 ai.2.1 ai.2.2 aj.1 aj.2.1 aj.2.2).bind fun a8=>(if a8=true then (if ak.2.2.2=0 then (if ah.1=true then (none) else ((r12_Same.f k ah.2.1 (([(([6,0,0,1,2] : List Int))] : List (List Int)))).bind fun aU=>(if aU=true then (if ah.2.2.2=0 then ((cpack_Right.f k 11 1 true af ac).bind fun aQ=>(some aQ)) else (none)) else (none)))) else (none)) else (none))))) else (none)) else (none))))))=some r:=yrw cg H
 have ch:=zm cg;clear cg
 obtain ⟨bz,ci⟩ : ∃ y_ : List Int,y_=(([0] : List Int)):=⟨_,rfl⟩
 replace H : ((some (([(([bz,(([0] : List Int)),(([0,0] : List Int)),(([0,0,0,0] : List Int)),(([0,0,0,0,0,0,0,0] : List Int))] : List (List Int)))] : List (List (List Int))) : List (List (List Int)))).bind fun ac=>((cpack_Write.f k 11 1 true af ac ([] : List (List Int))).bind fun au=>((cpack_Read.f k 11 1 au.1 ([] : List (List Int))).bind fun ak=>((cpack_Read.f k 11 1 (List.replicate 11 0) (([(([9,2,3,4,5] : List Int))] : List (List Int)))).bind fun ah=>(if (au.1.length : Int)=11 then (if au.2=0 then ((w13_As.f ak.1 ak.2.1 ak.2.2.1).bind fun ai=>((w13_As.f true af ac).bind fun aj=>((r13_Same.f k ai.1 ai.2.1 ai.2.2 aj.1 aj.2.1 aj.2.2).bind fun a8=>(if a8=true then (if ak.2.2.2=0 then (if ah.1=true then (none) else ((r12_Same.f k ah.2.1 (([(([6,0,0,1,2] : List Int))] : List (List Int)))).bind fun aU=>(if aU=true then (if ah.2.2.2=0 then ((cpack_Right.f k 11 1 true af ac).bind fun aQ=>(some aQ)) else (none)) else (none)))) else (none)) else (none))))) else (none)) else (none))))))=some r:=yrw ci H
 have cj:=zm ci;clear ci
 obtain ⟨bD,ck⟩ : ∃ y_ : List Int,y_=(([0] : List Int)):=⟨_,rfl⟩
 replace H : ((some (([(([bz,bD,(([0,0] : List Int)),(([0,0,0,0] : List Int)),(([0,0,0,0,0,0,0,0] : List Int))] : List (List Int)))] : List (List (List Int))) : List (List (List Int)))).bind fun ac=>((cpack_Write.f k 11 1 true af ac ([] : List (List Int))).bind fun au=>((cpack_Read.f k 11 1 au.1 ([] : List (List Int))).bind fun ak=>((cpack_Read.f k 11 1 (List.replicate 11 0) (([(([9,2,3,4,5] : List Int))] : List (List Int)))).bind fun ah=>(if (au.1.length : Int)=11 then (if au.2=0 then ((w13_As.f ak.1 ak.2.1 ak.2.2.1).bind fun ai=>((w13_As.f true af ac).bind fun aj=>((r13_Same.f k ai.1 ai.2.1 ai.2.2 aj.1 aj.2.1 aj.2.2).bind fun a8=>(if a8=true then (if ak.2.2.2=0 then (if ah.1=true then (none) else ((r12_Same.f k ah.2.1 (([(([6,0,0,1,2] : List Int))] : List (List Int)))).bind fun aU=>(if aU=true then (if ah.2.2.2=0 then ((cpack_Right.f k 11 1 true af ac).bind fun aQ=>(some aQ)) else (none)) else (none)))) else (none)) else (none))))) else (none)) else (none))))))=some r:=yrw ck H
 have cl:=zm ck;clear ck
 obtain ⟨bH,cm⟩ : ∃ y_ : List Int,y_=(([0,0] : List Int)):=⟨_,rfl⟩
 replace H : ((some (([(([bz,bD,bH,(([0,0,0,0] : List Int)),(([0,0,0,0,0,0,0,0] : List Int))] : List (List Int)))] : List (List (List Int))) : List (List (List Int)))).bind fun ac=>((cpack_Write.f k 11 1 true af ac ([] : List (List Int))).bind fun au=>((cpack_Read.f k 11 1 au.1 ([] : List (List Int))).bind fun ak=>((cpack_Read.f k 11 1 (List.replicate 11 0) (([(([9,2,3,4,5] : List Int))] : List (List Int)))).bind fun ah=>(if (au.1.length : Int)=11 then (if au.2=0 then ((w13_As.f ak.1 ak.2.1 ak.2.2.1).bind fun ai=>((w13_As.f true af ac).bind fun aj=>((r13_Same.f k ai.1 ai.2.1 ai.2.2 aj.1 aj.2.1 aj.2.2).bind fun a8=>(if a8=true then (if ak.2.2.2=0 then (if ah.1=true then (none) else ((r12_Same.f k ah.2.1 (([(([6,0,0,1,2] : List Int))] : List (List Int)))).bind fun aU=>(if aU=true then (if ah.2.2.2=0 then ((cpack_Right.f k 11 1 true af ac).bind fun aQ=>(some aQ)) else (none)) else (none)))) else (none)) else (none))))) else (none)) else (none))))))=some r:=yrw cm H
 have cn:=zm cm;clear cm
 obtain ⟨bK,co⟩ : ∃ y_ : List Int,y_=(([0,0,0,0] : List Int)):=⟨_,rfl⟩
 replace H : ((some (([(([bz,bD,bH,bK,(([0,0,0,0,0,0,0,0] : List Int))] : List (List Int)))] : List (List (List Int))) : List (List (List Int)))).bind fun ac=>((cpack_Write.f k 11 1 true af ac ([] : List (List Int))).bind fun au=>((cpack_Read.f k 11 1 au.1 ([] : List (List Int))).bind fun ak=>((cpack_Read.f k 11 1 (List.replicate 11 0) (([(([9,2,3,4,5] : List Int))] : List (List Int)))).bind fun ah=>(if (au.1.length : Int)=11 then (if au.2=0 then ((w13_As.f ak.1 ak.2.1 ak.2.2.1).bind fun ai=>((w13_As.f true af ac).bind fun aj=>((r13_Same.f k ai.1 ai.2.1 ai.2.2 aj.1 aj.2.1 aj.2.2).bind fun a8=>(if a8=true then (if ak.2.2.2=0 then (if ah.1=true then (none) else ((r12_Same.f k ah.2.1 (([(([6,0,0,1,2] : List Int))] : List (List Int)))).bind fun aU=>(if aU=true then (if ah.2.2.2=0 then ((cpack_Right.f k 11 1 true af ac).bind fun aQ=>(some aQ)) else (none)) else (none)))) else (none)) else (none))))) else (none)) else (none))))))=some r:=yrw co H
 have cp:=zm co;clear co
 obtain ⟨bO,cq⟩ : ∃ y_ : List Int,y_=(([0,0,0,0,0,0,0,0] : List Int)):=⟨_,rfl⟩
 replace H : ((some (([(([bz,bD,bH,bK,bO] : List (List Int)))] : List (List (List Int))) : List (List (List Int)))).bind fun ac=>((cpack_Write.f k 11 1 true af ac ([] : List (List Int))).bind fun au=>((cpack_Read.f k 11 1 au.1 ([] : List (List Int))).bind fun ak=>((cpack_Read.f k 11 1 (List.replicate 11 0) (([(([9,2,3,4,5] : List Int))] : List (List Int)))).bind fun ah=>(if (au.1.length : Int)=11 then (if au.2=0 then ((w13_As.f ak.1 ak.2.1 ak.2.2.1).bind fun ai=>((w13_As.f true af ac).bind fun aj=>((r13_Same.f k ai.1 ai.2.1 ai.2.2 aj.1 aj.2.1 aj.2.2).bind fun a8=>(if a8=true then (if ak.2.2.2=0 then (if ah.1=true then (none) else ((r12_Same.f k ah.2.1 (([(([6,0,0,1,2] : List Int))] : List (List Int)))).bind fun aU=>(if aU=true then (if ah.2.2.2=0 then ((cpack_Right.f k 11 1 true af ac).bind fun aQ=>(some aQ)) else (none)) else (none)))) else (none)) else (none))))) else (none)) else (none))))))=some r:=yrw cq H
 have cr:=zm cq;clear cq
 obtain ⟨bP,ct⟩ : ∃ y_ : List (List Int),y_=(([bz,bD,bH,bK,bO] : List (List Int))):=⟨_,rfl⟩
 replace H : ((some (([bP] : List (List (List Int))) : List (List (List Int)))).bind fun ac=>((cpack_Write.f k 11 1 true af ac ([] : List (List Int))).bind fun au=>((cpack_Read.f k 11 1 au.1 ([] : List (List Int))).bind fun ak=>((cpack_Read.f k 11 1 (List.replicate 11 0) (([(([9,2,3,4,5] : List Int))] : List (List Int)))).bind fun ah=>(if (au.1.length : Int)=11 then (if au.2=0 then ((w13_As.f ak.1 ak.2.1 ak.2.2.1).bind fun ai=>((w13_As.f true af ac).bind fun aj=>((r13_Same.f k ai.1 ai.2.1 ai.2.2 aj.1 aj.2.1 aj.2.2).bind fun a8=>(if a8=true then (if ak.2.2.2=0 then (if ah.1=true then (none) else ((r12_Same.f k ah.2.1 (([(([6,0,0,1,2] : List Int))] : List (List Int)))).bind fun aU=>(if aU=true then (if ah.2.2.2=0 then ((cpack_Right.f k 11 1 true af ac).bind fun aQ=>(some aQ)) else (none)) else (none)))) else (none)) else (none))))) else (none)) else (none))))))=some r:=yrw ct H
 have cu:=zm ct;clear ct
 obtain ⟨ac,cv⟩ : ∃ y_ : List (List (List Int)),y_=(([bP] : List (List (List Int)))):=⟨_,rfl⟩
 replace H : ((cpack_Write.f k 11 1 true af ac ([] : List (List Int))).bind fun au=>((cpack_Read.f k 11 1 au.1 ([] : List (List Int))).bind fun ak=>((cpack_Read.f k 11 1 (List.replicate 11 0) (([(([9,2,3,4,5] : List Int))] : List (List Int)))).bind fun ah=>(if (au.1.length : Int)=11 then (if au.2=0 then ((w13_As.f ak.1 ak.2.1 ak.2.2.1).bind fun ai=>((w13_As.f true af ac).bind fun aj=>((r13_Same.f k ai.1 ai.2.1 ai.2.2 aj.1 aj.2.1 aj.2.2).bind fun a8=>(if a8=true then (if ak.2.2.2=0 then (if ah.1=true then (none) else ((r12_Same.f k ah.2.1 (([(([6,0,0,1,2] : List Int))] : List (List Int)))).bind fun aU=>(if aU=true then (if ah.2.2.2=0 then ((cpack_Right.f k 11 1 true af ac).bind fun aQ=>(some aQ)) else (none)) else (none)))) else (none)) else (none))))) else (none)) else (none)))))=some r:=yrw cv H
 have cw:=zm cv;clear cv
 obtain ⟨⟨aD,cx⟩,A1,H⟩:=ybi H
 try dsimp only at H
 obtain ⟨⟨bI,aE,aG,cy⟩,A2,H⟩:=ybi H
 try dsimp only at H
 obtain ⟨aT,cz⟩ : ∃ y_ : List Int,y_=(List.replicate 11 0):=⟨_,rfl⟩
 replace H : ((cpack_Read.f k 11 1 aT (([(([9,2,3,4,5] : List Int))] : List (List Int)))).bind fun ah=>(if (aD.length : Int)=11 then (if cx=0 then ((w13_As.f bI aE aG).bind fun ai=>((w13_As.f true af ac).bind fun aj=>((r13_Same.f k ai.1 ai.2.1 ai.2.2 aj.1 aj.2.1 aj.2.2).bind fun a8=>(if a8=true then (if cy=0 then (if ah.1=true then (none) else ((r12_Same.f k ah.2.1 (([(([6,0,0,1,2] : List Int))] : List (List Int)))).bind fun aU=>(if aU=true then (if ah.2.2.2=0 then ((cpack_Right.f k 11 1 true af ac).bind fun aQ=>(some aQ)) else (none)) else (none)))) else (none)) else (none))))) else (none)) else (none)))=some r:=yrw cz H
 have cA:=zm cz;clear cz
 obtain ⟨bQ,cB⟩ : ∃ y_ : List Int,y_=(([9,2,3,4,5] : List Int)):=⟨_,rfl⟩
 replace H : ((cpack_Read.f k 11 1 aT (([bQ] : List (List Int)))).bind fun ah=>(if (aD.length : Int)=11 then (if cx=0 then ((w13_As.f bI aE aG).bind fun ai=>((w13_As.f true af ac).bind fun aj=>((r13_Same.f k ai.1 ai.2.1 ai.2.2 aj.1 aj.2.1 aj.2.2).bind fun a8=>(if a8=true then (if cy=0 then (if ah.1=true then (none) else ((r12_Same.f k ah.2.1 (([(([6,0,0,1,2] : List Int))] : List (List Int)))).bind fun aU=>(if aU=true then (if ah.2.2.2=0 then ((cpack_Right.f k 11 1 true af ac).bind fun aQ=>(some aQ)) else (none)) else (none)))) else (none)) else (none))))) else (none)) else (none)))=some r:=yrw cB H
 have cC:=zm cB;clear cB
 obtain ⟨a7,cD⟩ : ∃ y_ : List (List Int),y_=(([bQ] : List (List Int))):=⟨_,rfl⟩
 replace H : ((cpack_Read.f k 11 1 aT a7).bind fun ah=>(if (aD.length : Int)=11 then (if cx=0 then ((w13_As.f bI aE aG).bind fun ai=>((w13_As.f true af ac).bind fun aj=>((r13_Same.f k ai.1 ai.2.1 ai.2.2 aj.1 aj.2.1 aj.2.2).bind fun a8=>(if a8=true then (if cy=0 then (if ah.1=true then (none) else ((r12_Same.f k ah.2.1 (([(([6,0,0,1,2] : List Int))] : List (List Int)))).bind fun aU=>(if aU=true then (if ah.2.2.2=0 then ((cpack_Right.f k 11 1 true af ac).bind fun aQ=>(some aQ)) else (none)) else (none)))) else (none)) else (none))))) else (none)) else (none)))=some r:=yrw cD H
 have cE:=zm cD;clear cD
 obtain ⟨⟨el,aV,a9,cM⟩,A3,H⟩:=ybi H
 try dsimp only at H
 by_cases c4 : (aD.length : Int)=11
 ·
  rw [if_pos c4] at H
  obtain ⟨dB,dC⟩:=yE c4
  clear c4
  by_cases c5 : cx=0
  ·
   rw [if_pos c5] at H
   obtain ⟨dD,dE⟩:=yE c5
   clear c5
   obtain ⟨⟨cO,cP,cQ⟩,A6,H⟩:=ybi H
   try dsimp only at H
   obtain ⟨⟨cR,cS,cT⟩,A7,H⟩:=ybi H
   try dsimp only at H
   obtain ⟨a8,A8,H⟩:=ybi H
   obtain ⟨c9,H⟩:=yif H
   subst c9
   by_cases c10 : cy=0
   ·
    rw [if_pos c10] at H
    obtain ⟨cU,cV⟩:=yE c10
    clear c10
    obtain ⟨c11,H⟩:=yie H
    replace c11:=Bool.eq_false_iff.mpr c11
    subst c11
    obtain ⟨bR,cF⟩ : ∃ y_ : List Int,y_=(([6,0,0,1,2] : List Int)):=⟨_,rfl⟩
    replace H : ((r12_Same.f k aV (([bR] : List (List Int)))).bind fun aU=>(if aU=true then (if cM=0 then ((cpack_Right.f k 11 1 true af ac).bind fun aQ=>(some aQ)) else (none)) else (none)))=some r:=yrw cF H
    have cG:=zm cF;clear cF
    obtain ⟨cN,cH⟩ : ∃ y_ : List (List Int),y_=(([bR] : List (List Int))):=⟨_,rfl⟩
    replace H : ((r12_Same.f k aV cN).bind fun aU=>(if aU=true then (if cM=0 then ((cpack_Right.f k 11 1 true af ac).bind fun aQ=>(some aQ)) else (none)) else (none)))=some r:=yrw cH H
    have cI:=zm cH;clear cH
    obtain ⟨aU,A12,H⟩:=ybi H
    obtain ⟨c13,H⟩:=yif H
    subst c13
    by_cases c14 : cM=0
    ·
     rw [if_pos c14] at H
     obtain ⟨cW,cX⟩:=yE c14
     clear c14
     obtain ⟨aQ,A15,H⟩:=ybi H
     obtain rfl:=Option.some.inj H
     go_enter Try.func11,Try.ntmps11
     try go_wp2_with (first|((with_reducible refine gate_dst (N:=8) rfl ?_);(try (refine gate_guard (by rfl) ?_;dsimp only));refine Kd.R_lit (Kd.int .i64) _ 3 ?hg (N:=8) ?hd (xs:=([0,0,0,0,0] : List Int)) (inner := [.int .i64 0, .int .i64 0, .int .i64 0, .int .i64 0, .int .i64 0]) (ok:=fun _=>True) (okp:=fun _=>True) ?hr ?hp (fun _ hk=>hk) trivial (Below.refl _ _) (Nat.le_refl _) (by simp) ?_;(case hd=>rfl);(case hg=>rfl);(case hr=>first|(go_simp;done)|(go_simp;rfl));(case hp=>exact (Reps.one (show Kd.M (Kd.int .i64) _ _ _ 0 [.int .i64 0] from rfl) (Reps.one (show Kd.M (Kd.int .i64) _ _ _ 0 [.int .i64 0] from rfl) (Reps.one (show Kd.M (Kd.int .i64) _ _ _ 0 [.int .i64 0] from rfl) (Reps.one (show Kd.M (Kd.int .i64) _ _ _ 0 [.int .i64 0] from rfl) (Reps.one (show Kd.M (Kd.int .i64) _ _ _ 0 [.int .i64 0] from rfl) (Reps.none _ _)))))));intro em w16 b4 hb hg_ hnew_;clear hg_ hnew_;(first|rw [← cf.out] at b4|(simp only [Int.reduceToNat] at b4;rw [← cf.out] at b4)|rw [show (List.replicate (Int.toNat 11) (0 : Int))=bN from cf.out.symm] at b4);have bV:=zm (Kd.R_lower b4 (zE yhb));replace HB:=ybs hb;clear hb b4;obtain ⟨cY,cZ,dF⟩:=Kd.R_slice bV.out;subst dF)|((with_reducible refine gate_dst (N:=9) rfl ?_);(try (refine gate_guard (by rfl) ?_;dsimp only));refine Kd.N_lit (Kd.slice 3 (Kd.int .i64)) _ 49 ?hg (N' := 9) ?hd (xs:=([bN] : List (List Int))) (inner := [.slice cY bN.length cZ]) (ok:=(fun _=>True)) (okp:=(fun _=>True)) ?hr ?hp (fun _ hk=>hk) ((show ∀ k_,w16.heap.size≤k_→(fun _=>True) k_ from fun k_ hk=>trivial) _ (Nat.le_refl _)) (Below.refl _ _) (Nat.le_refl _) (by simp) ?_;(case hd=>rfl);(case hg=>rfl);(case hr=>first|(go_simp;done)|(go_simp;rfl));(case hp=>exact (Reps.one (show Kd.FK (Kd.slice 3 (Kd.int .i64)) _ _ bN [.slice cY bN.length cZ] from (Kd.FK_slice_mk (Kd.R_reads' (zG (ok' := (fun _=>True)) (bV.out) (fun k_ hk=>trivial))).2.1 (Kd.R_F (zG (ok' := (fun _=>True)) (bV.out) (fun k_ hk=>trivial))))) (Reps.none _ _)));intro bp w19 b5 hb hg_ hnew_;clear hg_ hnew_;(first|rw [← ch.out] at b5|(simp only [Int.reduceToNat] at b5;rw [← ch.out] at b5)|rw [show (List.replicate (Int.toNat 11) (0 : Int))=af from ch.out.symm] at b5);have aa:=zm (Kd.N_lower b5 (zE yhb));replace HB:=ybs hb;clear bV;clear hb b5)|((with_reducible refine gate_dst (N:=10) rfl ?_);(try (refine gate_guard (by rfl) ?_;dsimp only));refine Kd.R_lit (Kd.int .i64) _ 3 ?hg (N:=10) ?hd (xs:=([0] : List Int)) (inner := [.int .i64 0]) (ok:=fun _=>True) (okp:=fun _=>True) ?hr ?hp (fun _ hk=>hk) trivial (Below.refl _ _) (Nat.le_refl _) (by simp) ?_;(case hd=>rfl);(case hg=>rfl);(case hr=>first|(go_simp;done)|(go_simp;rfl));(case hp=>exact (Reps.one (show Kd.M (Kd.int .i64) _ _ _ 0 [.int .i64 0] from rfl) (Reps.none _ _)));intro en w21 bS hb hg_ hnew_;clear hg_ hnew_;(first|rw [← cj.out] at bS|(simp only [Int.reduceToNat] at bS;rw [← cj.out] at bS)|rw [show (List.replicate (Int.toNat 11) (0 : Int))=bz from cj.out.symm] at bS);replace aa:=zm (Kd.N_elder' (yr aa) (Kd.R_base bS) hb);have bc:=zm (Kd.R_lower bS (zE yhb));replace HB:=ybs hb;clear hb bS)|((with_reducible refine gate_dst (N:=11) rfl ?_);(try (refine gate_guard (by rfl) ?_;dsimp only));refine Kd.R_lit (Kd.int .i64) _ 3 ?hg (N:=11) ?hd (xs:=([0] : List Int)) (inner := [.int .i64 0]) (ok:=fun _=>True) (okp:=fun _=>True) ?hr ?hp (fun _ hk=>hk) trivial (Below.refl _ _) (Nat.le_refl _) (by simp) ?_;(case hd=>rfl);(case hg=>rfl);(case hr=>first|(go_simp;done)|(go_simp;rfl));(case hp=>exact (Reps.one (show Kd.M (Kd.int .i64) _ _ _ 0 [.int .i64 0] from rfl) (Reps.none _ _)));intro eo w23 bL hb hg_ hnew_;clear hg_ hnew_;(first|rw [← cl.out] at bL|(simp only [Int.reduceToNat] at bL;rw [← cl.out] at bL)|rw [show (List.replicate (Int.toNat 11) (0 : Int))=bD from cl.out.symm] at bL);replace aa:=zm (Kd.N_elder' (yr aa) (Kd.R_base bL) hb);have bm:=zm (Kd.R_lower (Kd.R_new' bL (Kd.R_lt (yr bc))) (zE yhb));replace bc:=zm (Kd.R_elder' (yr bc) (Kd.R_base bL) hb);replace HB:=ybs hb;clear hb bL)|((with_reducible refine gate_dst (N:=12) rfl ?_);(try (refine gate_guard (by rfl) ?_;dsimp only));refine Kd.R_lit (Kd.int .i64) _ 3 ?hg (N:=12) ?hd (xs:=([0,0] : List Int)) (inner := [.int .i64 0, .int .i64 0]) (ok:=fun _=>True) (okp:=fun _=>True) ?hr ?hp (fun _ hk=>hk) trivial (Below.refl _ _) (Nat.le_refl _) (by simp) ?_;(case hd=>rfl);(case hg=>rfl);(case hr=>first|(go_simp;done)|(go_simp;rfl));(case hp=>exact (Reps.one (show Kd.M (Kd.int .i64) _ _ _ 0 [.int .i64 0] from rfl) (Reps.one (show Kd.M (Kd.int .i64) _ _ _ 0 [.int .i64 0] from rfl) (Reps.none _ _))));intro ep w25 bJ hb hg_ hnew_;clear hg_ hnew_;(first|rw [← cn.out] at bJ|(simp only [Int.reduceToNat] at bJ;rw [← cn.out] at bJ)|rw [show (List.replicate (Int.toNat 11) (0 : Int))=bH from cn.out.symm] at bJ);replace aa:=zm (Kd.N_elder' (yr aa) (Kd.R_base bJ) hb);have bx:=zm (Kd.R_lower (Kd.R_new' (Kd.R_new' bJ (Kd.R_lt (yr bc))) (Kd.R_lt (yr bm))) (zE yhb));replace bc:=zm (Kd.R_elder' (yr bc) (Kd.R_base bJ) hb);replace bm:=zm (Kd.R_elder' (yr bm) (Kd.R_base bJ) hb);replace HB:=ybs hb;clear hb bJ)|((with_reducible refine gate_dst (N:=13) rfl ?_);(try (refine gate_guard (by rfl) ?_;dsimp only));refine Kd.R_lit (Kd.int .i64) _ 3 ?hg (N:=13) ?hd (xs:=([0,0,0,0] : List Int)) (inner := [.int .i64 0, .int .i64 0, .int .i64 0, .int .i64 0]) (ok:=fun _=>True) (okp:=fun _=>True) ?hr ?hp (fun _ hk=>hk) trivial (Below.refl _ _) (Nat.le_refl _) (by simp) ?_;(case hd=>rfl);(case hg=>rfl);(case hr=>first|(go_simp;done)|(go_simp;rfl));(case hp=>exact (Reps.one (show Kd.M (Kd.int .i64) _ _ _ 0 [.int .i64 0] from rfl) (Reps.one (show Kd.M (Kd.int .i64) _ _ _ 0 [.int .i64 0] from rfl) (Reps.one (show Kd.M (Kd.int .i64) _ _ _ 0 [.int .i64 0] from rfl) (Reps.one (show Kd.M (Kd.int .i64) _ _ _ 0 [.int .i64 0] from rfl) (Reps.none _ _))))));intro eq w27 bE hb hg_ hnew_;clear hg_ hnew_;(first|rw [← cp.out] at bE|(simp only [Int.reduceToNat] at bE;rw [← cp.out] at bE)|rw [show (List.replicate (Int.toNat 11) (0 : Int))=bK from cp.out.symm] at bE);replace aa:=zm (Kd.N_elder' (yr aa) (Kd.R_base bE) hb);have bA:=zm (Kd.R_lower (Kd.R_new' (Kd.R_new' (Kd.R_new' bE (Kd.R_lt (yr bc))) (Kd.R_lt (yr bm))) (Kd.R_lt (yr bx))) (zE yhb));replace bc:=zm (Kd.R_elder' (yr bc) (Kd.R_base bE) hb);replace bm:=zm (Kd.R_elder' (yr bm) (Kd.R_base bE) hb);replace bx:=zm (Kd.R_elder' (yr bx) (Kd.R_base bE) hb);replace HB:=ybs hb;clear hb bE)|((with_reducible refine gate_dst (N:=14) rfl ?_);(try (refine gate_guard (by rfl) ?_;dsimp only));refine Kd.R_lit (Kd.int .i64) _ 3 ?hg (N:=14) ?hd (xs:=([0,0,0,0,0,0,0,0] : List Int)) (inner := [.int .i64 0, .int .i64 0, .int .i64 0, .int .i64 0, .int .i64 0, .int .i64 0, .int .i64 0, .int .i64 0]) (ok:=fun _=>True) (okp:=fun _=>True) ?hr ?hp (fun _ hk=>hk) trivial (Below.refl _ _) (Nat.le_refl _) (by simp) ?_;(case hd=>rfl);(case hg=>rfl);(case hr=>first|(go_simp;done)|(go_simp;rfl));(case hp=>exact (Reps.one (show Kd.M (Kd.int .i64) _ _ _ 0 [.int .i64 0] from rfl) (Reps.one (show Kd.M (Kd.int .i64) _ _ _ 0 [.int .i64 0] from rfl) (Reps.one (show Kd.M (Kd.int .i64) _ _ _ 0 [.int .i64 0] from rfl) (Reps.one (show Kd.M (Kd.int .i64) _ _ _ 0 [.int .i64 0] from rfl) (Reps.one (show Kd.M (Kd.int .i64) _ _ _ 0 [.int .i64 0] from rfl) (Reps.one (show Kd.M (Kd.int .i64) _ _ _ 0 [.int .i64 0] from rfl) (Reps.one (show Kd.M (Kd.int .i64) _ _ _ 0 [.int .i64 0] from rfl) (Reps.one (show Kd.M (Kd.int .i64) _ _ _ 0 [.int .i64 0] from rfl) (Reps.none _ _))))))))));intro er w29 bB hb hg_ hnew_;clear hg_ hnew_;(first|rw [← cr.out] at bB|(simp only [Int.reduceToNat] at bB;rw [← cr.out] at bB)|rw [show (List.replicate (Int.toNat 11) (0 : Int))=bO from cr.out.symm] at bB);replace aa:=zm (Kd.N_elder' (yr aa) (Kd.R_base bB) hb);have bW:=zm (Kd.R_lower (Kd.R_new' (Kd.R_new' (Kd.R_new' (Kd.R_new' bB (Kd.R_lt (yr bc))) (Kd.R_lt (yr bm))) (Kd.R_lt (yr bx))) (Kd.R_lt (yr bA))) (zE yhb));replace bc:=zm (Kd.R_elder' (yr bc) (Kd.R_base bB) hb);replace bm:=zm (Kd.R_elder' (yr bm) (Kd.R_base bB) hb);replace bx:=zm (Kd.R_elder' (yr bx) (Kd.R_base bB) hb);replace bA:=zm (Kd.R_elder' (yr bA) (Kd.R_base bB) hb);replace HB:=ybs hb;clear hb bB;obtain ⟨da,db,dG⟩:=Kd.R_slice bc.out;subst dG;obtain ⟨dc,dd,dH⟩:=Kd.R_slice bm.out;subst dH;obtain ⟨de,df,dI⟩:=Kd.R_slice bx.out;subst dI;obtain ⟨dg,dh,dJ⟩:=Kd.R_slice bA.out;subst dJ;obtain ⟨di,dj,dK⟩:=Kd.R_slice bW.out;subst dK)|((with_reducible refine gate_dst (N:=15) rfl ?_);(try (refine gate_guard (by rfl) ?_;dsimp only));refine Kd.N_lit (Kd.slice 3 (Kd.int .i64)) _ 49 ?hg (N' := 15) ?hd (xs:=([bz,bD,bH,bK,bO] : List (List Int))) (inner := [.slice da bz.length db, .slice dc bD.length dd, .slice de bH.length df, .slice dg bK.length dh, .slice di bO.length dj]) (ok:=(fun k_=>some k_≠(bp : Value).ownBlock)) (okp:=(fun k_=>some k_≠(bp : Value).ownBlock)) ?hr ?hp (fun _ hk=>hk) ((show ∀ k_,w29.heap.size≤k_→(fun k_=>some k_≠(bp : Value).ownBlock) k_ from fun k_ hk=>Kd.fresh' (Kd.N_lt (yr aa)) k_ hk) _ (Nat.le_refl _)) (Below.refl _ _) (Nat.le_refl _) (by simp) ?_;(case hd=>rfl);(case hg=>rfl);(case hr=>first|(go_simp;done)|(go_simp;rfl));(case hp=>exact (Reps.one (show Kd.FK (Kd.slice 3 (Kd.int .i64)) _ _ bz [.slice da bz.length db] from (Kd.FK_slice_mk (Kd.R_reads' (zG (ok' := (fun k_=>some k_≠(bp : Value).ownBlock)) (Kd.R_apart' (bc.out) (Kd.N_typed aa.out) (by decide)) (fun k_ hk=>hk.2))).2.1 (Kd.R_F (zG (ok' := (fun k_=>some k_≠(bp : Value).ownBlock)) (Kd.R_apart' (bc.out) (Kd.N_typed aa.out) (by decide)) (fun k_ hk=>hk.2))))) (Reps.one (show Kd.FK (Kd.slice 3 (Kd.int .i64)) _ _ bD [.slice dc bD.length dd] from (Kd.FK_slice_mk (Kd.R_reads' (zG (ok' := (fun k_=>some k_≠(bp : Value).ownBlock)) (Kd.R_apart' (bm.out) (Kd.N_typed aa.out) (by decide)) (fun k_ hk=>hk.2))).2.1 (Kd.R_F (zG (ok' := (fun k_=>some k_≠(bp : Value).ownBlock)) (Kd.R_apart' (bm.out) (Kd.N_typed aa.out) (by decide)) (fun k_ hk=>hk.2))))) (Reps.one (show Kd.FK (Kd.slice 3 (Kd.int .i64)) _ _ bH [.slice de bH.length df] from (Kd.FK_slice_mk (Kd.R_reads' (zG (ok' := (fun k_=>some k_≠(bp : Value).ownBlock)) (Kd.R_apart' (bx.out) (Kd.N_typed aa.out) (by decide)) (fun k_ hk=>hk.2))).2.1 (Kd.R_F (zG (ok' := (fun k_=>some k_≠(bp : Value).ownBlock)) (Kd.R_apart' (bx.out) (Kd.N_typed aa.out) (by decide)) (fun k_ hk=>hk.2))))) (Reps.one (show Kd.FK (Kd.slice 3 (Kd.int .i64)) _ _ bK [.slice dg bK.length dh] from (Kd.FK_slice_mk (Kd.R_reads' (zG (ok' := (fun k_=>some k_≠(bp : Value).ownBlock)) (Kd.R_apart' (bA.out) (Kd.N_typed aa.out) (by decide)) (fun k_ hk=>hk.2))).2.1 (Kd.R_F (zG (ok' := (fun k_=>some k_≠(bp : Value).ownBlock)) (Kd.R_apart' (bA.out) (Kd.N_typed aa.out) (by decide)) (fun k_ hk=>hk.2))))) (Reps.one (show Kd.FK (Kd.slice 3 (Kd.int .i64)) _ _ bO [.slice di bO.length dj] from (Kd.FK_slice_mk (Kd.R_reads' (zG (ok' := (fun k_=>some k_≠(bp : Value).ownBlock)) (Kd.R_apart' (bW.out) (Kd.N_typed aa.out) (by decide)) (fun k_ hk=>hk.2))).2.1 (Kd.R_F (zG (ok' := (fun k_=>some k_≠(bp : Value).ownBlock)) (Kd.R_apart' (bW.out) (Kd.N_typed aa.out) (by decide)) (fun k_ hk=>hk.2))))) (Reps.none _ _)))))));intro es w36 bT hb hg_ hnew_;clear hg_ hnew_;(first|rw [← cu.out] at bT|(simp only [Int.reduceToNat] at bT;rw [← cu.out] at bT)|rw [show (List.replicate (Int.toNat 11) (0 : Int))=bP from cu.out.symm] at bT);replace aa:=zm (Kd.N_elder' (yr aa) (Kd.N_base bT) hb);have bX:=zm (Kd.N_lower bT (zE yhb));replace HB:=ybs hb;clear bc;clear bm;clear bx;clear bA;clear bW;clear hb bT;obtain ⟨dk,dl,dL⟩:=Kd.N_slice bX.out;subst dL)|((with_reducible refine gate_dst (N:=16) rfl ?_);(try (refine gate_guard (by rfl) ?_;dsimp only));refine Kd.N_lit (Kd.slice 49 (Kd.slice 3 (Kd.int .i64))) _ 22 ?hg (N' := 16) ?hd (xs:=([bP] : List (List (List Int)))) (inner := [.slice dk bP.length dl]) (ok:=(fun k_=>some k_≠(bp : Value).ownBlock)) (okp:=(fun k_=>some k_≠(bp : Value).ownBlock)) ?hr ?hp (fun _ hk=>hk) ((show ∀ k_,w36.heap.size≤k_→(fun k_=>some k_≠(bp : Value).ownBlock) k_ from fun k_ hk=>Kd.fresh' (Kd.N_lt (yr aa)) k_ hk) _ (Nat.le_refl _)) (Below.refl _ _) (Nat.le_refl _) (by simp) ?_;(case hd=>rfl);(case hg=>rfl);(case hr=>first|(go_simp;done)|(go_simp;rfl));(case hp=>exact (Reps.one (show Kd.FK (Kd.slice 49 (Kd.slice 3 (Kd.int .i64))) _ _ bP [.slice dk bP.length dl] from (Kd.FK_slice_mk (Kd.N_reads' (Kd.N_mono (ok' := (fun k_=>some k_≠(bp : Value).ownBlock)) (bX.out) (fun k_ hk=>hk))).2.1 (Kd.N_F (Kd.N_mono (ok' := (fun k_=>some k_≠(bp : Value).ownBlock)) (bX.out) (fun k_ hk=>hk))))) (Reps.none _ _)));intro et w39 bU hb hg_ hnew_;clear hg_ hnew_;(first|rw [← cw.out] at bU|(simp only [Int.reduceToNat] at bU;rw [← cw.out] at bU)|rw [show (List.replicate (Int.toNat 11) (0 : Int))=ac from cw.out.symm] at bU);replace aa:=zm (Kd.N_elder' (yr aa) (Kd.N_base bU) hb);have ae:=zm (Kd.N_lower bU (zE yhb));replace HB:=ybs hb;clear bX;clear hb bU;obtain ⟨aJ,aH,dM⟩:=Kd.N_slice ae.out;subst dM;obtain ⟨aK,aI,dN⟩:=Kd.N_slice aa.out;subst dN)|((with_reducible refine gate_dst (N:=1) rfl ?_);(try (refine gate_guard (by rfl) ?_;dsimp only));refine ybx 1 #[.bool false, .slice none 0 0, .slice none 0 0] 25 ?_;intro av hg w43 hbox hb;replace aa:=zm (Kd.N_below (Kd.N_elderB (yr aa) av (Nat.le_of_eq hg.symm)) hb);replace ae:=zm (Kd.N_below (Kd.N_elderB (yr ae) av (Nat.le_of_eq hg.symm)) hb);have ag:=zm (hbox);have ef:=ygw hg;have eg:=ygw hg;replace HB:=ybs hb;clear hb hbox hg;obtain ⟨_,_,_,_,_,_⟩:=yc3 ag)|((with_reducible refine gate_callee (f:=12) rfl ?_);refine ygl 20 Try.func12 #[.int .i64 11, .int .i64 1, .agg #[.bool true, .slice aK af.length aI, .slice aJ ac.length aH], .slice none 0 0] ?_;(refine (cpack_Write.calls k 11 1 true _ _ af _ _ ac _ _ ([] : List (List Int)) aD cx _ ?bg ?bh ?bq ?br ?cJ ?cK A1.out).mono ?_);(case bg=>refine (Kd.N_reads' (e:=49) (base:=w.heap.size) (ok:=fun k_=>(some k_≠(.slice aJ ac.length aH : Value).ownBlock∧k_≠av)) (n:=af.length) (c:=aI) ?_).2.2;refine' Kd.N_mono ?own_ ?hk_;(case own_=>exact (yN0 aa));(case hk_=>exact fun k_ hk_=>⟨hk_.1.2,hk_.2⟩));(case bh=>exact (Kd.N_reads' aa.out).2.1);(case bq=>refine (Kd.N_reads' (e:=22) (base:=w.heap.size) (ok:=fun k_=>(some k_≠(.slice aK af.length aI : Value).ownBlock∧k_≠av)) (n:=ac.length) (c:=aH) ?_).2.2;exact (yN0 ae));(case br=>exact (Kd.N_reads' ae.out).2.1);(case cJ=>exact Kd.C_nil _ _);(case cK=>exact Nat.le_refl _);rintro e w45 ⟨eu,rfl,ho0,hb⟩;refine ⟨_,rfl, ?_⟩;replace aa:=zm (Kd.N_elder' (yN0 aa) (Kd.R_base ho0) hb);replace ae:=zm (Kd.N_elder' (yN0 ae) (Kd.R_base ho0) hb);have al:=zm (Kd.R_lower ho0 (zE yhb));replace ag:=zm (zF (g:=av) (o:=.cells #[.bool true, .slice aK af.length aI, .slice aJ ac.length aH] 25 (0,0)) (ykp ag) hb);replace HB:=ybs hb;(try clear hb);(try clear ho0);obtain ⟨aM,aN,dO⟩:=Kd.R_slice al.out;subst dO)|((with_reducible refine gate_callee (f:=20) rfl ?_);refine ygl 25 Try.func20 #[.int .i64 11, .int .i64 1, .slice aM aD.length aN, .slice none 0 0] ?_;(refine (cpack_Read.calls k 11 1 _ _ aD _ _ ([] : List (List Int)) bI aE aG cy _ ?bg ?bh ?bq ?br A2.out).mono ?_);(case bg=>exact yce (Kd.R_reads' al.out).2.2);(case bh=>exact (Kd.R_reads' al.out).2.1);(case bq=>exact Kd.C_nil _ _);(case br=>exact Nat.le_refl _);rintro e w47 ⟨dP,dQ,rfl,ho0,ho1,hb⟩;refine ⟨_,rfl, ?_⟩;have ao:=zm (Kd.N_lower (Kd.N_mono (ok' := fun k_=>some k_≠(dQ : Value).ownBlock∧some k_≠(.slice aK af.length aI : Value).ownBlock∧some k_≠(.slice aJ ac.length aH : Value).ownBlock∧some k_≠(.slice aM aD.length aN : Value).ownBlock∧k_≠av) (Kd.S_N (Kd.S_bound (Kd.S_apart' ho0 (Kd.R_typed ho1) (by decide)))) (fun k_ hk_=>⟨hk_.1.2,(Kd.fresh' (Kd.N_lt (yr aa)) k_ hk_.2.1),(Kd.fresh' (Kd.N_lt (yr ae)) k_ hk_.2.1),(Kd.fresh' (Kd.R_lt (yr al)) k_ hk_.2.1),(Kd.freshB (yk ag) k_ hk_.2.1)⟩)) (zE yhb));have ap:=zm (Kd.N_lower (Kd.N_mono (ok' := fun k_=>some k_≠(dP : Value).ownBlock∧some k_≠(.slice aK af.length aI : Value).ownBlock∧some k_≠(.slice aJ ac.length aH : Value).ownBlock∧some k_≠(.slice aM aD.length aN : Value).ownBlock∧k_≠av) (Kd.R_N (Kd.R_bound ho1)) (fun k_ hk_=>⟨hk_.1,(Kd.fresh' (Kd.N_lt (yr aa)) k_ hk_.2.1),(Kd.fresh' (Kd.N_lt (yr ae)) k_ hk_.2.1),(Kd.fresh' (Kd.R_lt (yr al)) k_ hk_.2.1),(Kd.freshB (yk ag) k_ hk_.2.1)⟩)) (zE yhb));replace aa:=zm (Kd.N_mono (Kd.N_told (Kd.N_told (Kd.N_old (yr aa) hb) (Kd.S_base ho0)) (Kd.R_base ho1)) (fun _ h_=>h_.1));replace ae:=zm (Kd.N_mono (Kd.N_told (Kd.N_told (Kd.N_old (yr ae) hb) (Kd.S_base ho0)) (Kd.R_base ho1)) (fun _ h_=>h_.1));replace al:=yRb al hb;replace ag:=ybb ag hb;replace HB:=ybs hb;(try clear hb);(try clear ho0);(try clear ho1))|((with_reducible refine gate_dst (N:=4) rfl ?_);(try (refine gate_guard (by rfl) ?_;dsimp only));refine ybx 4 #[.bool false, .slice none 0 0, .slice none 0 0] 25 ?_;intro aw hg w48 hbox hb;replace aa:=zm (Kd.N_below (Kd.N_elderB (yr aa) aw (Nat.le_of_eq hg.symm)) hb);replace ae:=zm (Kd.N_below (Kd.N_elderB (yr ae) aw (Nat.le_of_eq hg.symm)) hb);replace al:=yRb al hb;replace ao:=zm (Kd.N_below (Kd.N_elderB (yr ao) aw (Nat.le_of_eq hg.symm)) hb);replace ap:=zm (Kd.N_below (Kd.N_elderB (yr ap) aw (Nat.le_of_eq hg.symm)) hb);have am:=zm (hbox);have eh:=ygw hg;have ei:=ygw hg;replace HB:=ybs hb;have b6:=ynl ag hg;have b7:=yng ag hg;replace ag:=ybb ag hb;clear hb hbox hg;have:=b7.out;have:=b6.out;obtain ⟨_,_,_,_,_,_⟩:=yc3 am;obtain ⟨aW,aX,dR⟩:=Kd.N_slice ao.out;subst dR;obtain ⟨aY,aZ,dS⟩:=Kd.N_slice ap.out;subst dS)|((with_reducible refine gate_dst (N:=29) rfl ?_);(try (refine gate_guard (by rfl) ?_;dsimp only));refine Kd.R_make (Kd.int .u8) _ 5 rfl (N:=29) rfl 28 _ _ rfl 11 rfl rfl Try.underlying28 (.int .u8 0) 1 info5 rfl (by decide) (by omega) 0 (ok:=fun _=>True) (okp:=fun _=>True) rfl (fun _ hk=>hk) trivial (by omega) (by omega) (Below.refl _ _) (Nat.le_refl _) ?_;intro cL w53 bC hb hg_ hnew_;clear hg_ hnew_;(first|rw [← cA.out] at bC|(simp only [Int.reduceToNat] at bC;rw [← cA.out] at bC)|rw [show (List.replicate (Int.toNat 11) (0 : Int))=aT from cA.out.symm] at bC);replace aa:=zm (Kd.N_elder' (yN0 aa) (Kd.R_base bC) hb);replace ae:=zm (Kd.N_elder' (yN0 ae) (Kd.R_base bC) hb);replace ao:=zm (Kd.N_elder' (yN0 ao) (Kd.R_base bC) hb);replace ap:=zm (Kd.N_elder' (yN0 ap) (Kd.R_base bC) hb);have aq:=zm (Kd.R_lower (Kd.R_new' bC (Kd.R_lt (yR1 al am))) (zE yhb));replace al:=zm (Kd.R_elder' (yR1 al am) (Kd.R_base bC) hb);replace ag:=ybb ag hb;replace am:=zm (zF (g:=aw) (o:=.cells #[.bool bI, .slice aW aE.length aX, .slice aY aG.length aZ] 25 (0,0)) (ykp am) hb);replace HB:=ybs hb;clear hb bC)|((with_reducible refine gate_dst (N:=30) rfl ?_);(try (refine gate_guard (by rfl) ?_;dsimp only));refine Kd.R_lit (Kd.int .i64) _ 3 ?hg (N:=30) ?hd (xs:=([9,2,3,4,5] : List Int)) (inner := [.int .i64 9, .int .i64 2, .int .i64 3, .int .i64 4, .int .i64 5]) (ok:=fun _=>True) (okp:=fun _=>True) ?hr ?hp (fun _ hk=>hk) trivial (Below.refl _ _) (Nat.le_refl _) (by simp) ?_;(case hd=>rfl);(case hg=>rfl);(case hr=>first|(go_simp;done)|(go_simp;rfl));(case hp=>exact (Reps.one (show Kd.M (Kd.int .i64) _ _ _ 9 [.int .i64 9] from rfl) (Reps.one (show Kd.M (Kd.int .i64) _ _ _ 2 [.int .i64 2] from rfl) (Reps.one (show Kd.M (Kd.int .i64) _ _ _ 3 [.int .i64 3] from rfl) (Reps.one (show Kd.M (Kd.int .i64) _ _ _ 4 [.int .i64 4] from rfl) (Reps.one (show Kd.M (Kd.int .i64) _ _ _ 5 [.int .i64 5] from rfl) (Reps.none _ _)))))));intro ev w55 bF hb hg_ hnew_;clear hg_ hnew_;(first|rw [← cC.out] at bF|(simp only [Int.reduceToNat] at bF;rw [← cC.out] at bF)|rw [show (List.replicate (Int.toNat 11) (0 : Int))=bQ from cC.out.symm] at bF);replace aa:=zm (Kd.N_elder' (yr aa) (Kd.R_base bF) hb);replace ae:=zm (Kd.N_elder' (yr ae) (Kd.R_base bF) hb);replace al:=yRb al hb;replace ao:=zm (Kd.N_elder' (yr ao) (Kd.R_base bF) hb);replace ap:=zm (Kd.N_elder' (yr ap) (Kd.R_base bF) hb);replace aq:=yRb aq hb;have bY:=zm (Kd.R_lower bF (zE yhb));replace ag:=ybb ag hb;replace am:=ybb am hb;replace HB:=ybs hb;clear hb bF;obtain ⟨dm,dp,dT⟩:=Kd.R_slice bY.out;subst dT)|((with_reducible refine gate_dst (N:=31) rfl ?_);(try (refine gate_guard (by rfl) ?_;dsimp only));refine Kd.N_lit (Kd.slice 3 (Kd.int .i64)) _ 49 ?hg (N' := 31) ?hd (xs:=([bQ] : List (List Int))) (inner := [.slice dm bQ.length dp]) (ok:=(fun k_=>some k_≠(.slice aK af.length aI : Value).ownBlock∧some k_≠(.slice aJ ac.length aH : Value).ownBlock∧some k_≠(.slice aM aD.length aN : Value).ownBlock∧some k_≠(.slice aW aE.length aX : Value).ownBlock∧some k_≠(.slice aY aG.length aZ : Value).ownBlock∧some k_≠(cL : Value).ownBlock∧k_≠av∧k_≠aw)) (okp:=(fun k_=>some k_≠(.slice aK af.length aI : Value).ownBlock∧some k_≠(.slice aJ ac.length aH : Value).ownBlock∧some k_≠(.slice aM aD.length aN : Value).ownBlock∧some k_≠(.slice aW aE.length aX : Value).ownBlock∧some k_≠(.slice aY aG.length aZ : Value).ownBlock∧some k_≠(cL : Value).ownBlock∧k_≠av∧k_≠aw)) ?hr ?hp (fun _ hk=>hk) ((show ∀ k_,w55.heap.size≤k_→(fun k_=>some k_≠(.slice aK af.length aI : Value).ownBlock∧some k_≠(.slice aJ ac.length aH : Value).ownBlock∧some k_≠(.slice aM aD.length aN : Value).ownBlock∧some k_≠(.slice aW aE.length aX : Value).ownBlock∧some k_≠(.slice aY aG.length aZ : Value).ownBlock∧some k_≠(cL : Value).ownBlock∧k_≠av∧k_≠aw) k_ from fun k_ hk=>⟨Kd.fresh' (Kd.N_lt (yr aa)) k_ hk,Kd.fresh' (Kd.N_lt (yr ae)) k_ hk,Kd.fresh' (Kd.R_lt (yr al)) k_ hk,Kd.fresh' (Kd.N_lt (yr ao)) k_ hk,Kd.fresh' (Kd.N_lt (yr ap)) k_ hk,Kd.fresh' (Kd.R_lt (yr aq)) k_ hk,Kd.freshB (yk ag) k_ hk,Kd.freshB (yk am) k_ hk⟩) _ (Nat.le_refl _)) (Below.refl _ _) (Nat.le_refl _) (by simp) ?_;(case hd=>rfl);(case hg=>rfl);(case hr=>first|(go_simp;done)|(go_simp;rfl));(case hp=>exact (Reps.one (show Kd.FK (Kd.slice 3 (Kd.int .i64)) _ _ bQ [.slice dm bQ.length dp] from (Kd.FK_slice_mk (Kd.R_reads' (zG (ok' := (fun k_=>some k_≠(.slice aK af.length aI : Value).ownBlock∧some k_≠(.slice aJ ac.length aH : Value).ownBlock∧some k_≠(.slice aM aD.length aN : Value).ownBlock∧some k_≠(.slice aW aE.length aX : Value).ownBlock∧some k_≠(.slice aY aG.length aZ : Value).ownBlock∧some k_≠(cL : Value).ownBlock∧k_≠av∧k_≠aw)) (Kd.R_types (Kd.R_types (Kd.R_apart' (Kd.R_apart' (Kd.R_apart' (Kd.R_apart' (Kd.R_apart' (Kd.R_apart' (bY.out) (Kd.N_typed aa.out) (by decide)) (Kd.N_typed ae.out) (by decide)) (Kd.R_typed al.out) (by decide)) (Kd.N_typed ao.out) (by decide)) (Kd.N_typed ap.out) (by decide)) (Kd.R_typed aq.out) (by decide)) ag.out (by decide)) am.out (by decide)) (fun k_ hk=>⟨hk.1.1.1.1.1.1.1.2,⟨hk.1.1.1.1.1.1.2,⟨hk.1.1.1.1.1.2,⟨hk.1.1.1.1.2,⟨hk.1.1.1.2,⟨hk.1.1.2,⟨hk.1.2,hk.2⟩⟩⟩⟩⟩⟩⟩))).2.1 (Kd.R_F (zG (ok' := (fun k_=>some k_≠(.slice aK af.length aI : Value).ownBlock∧some k_≠(.slice aJ ac.length aH : Value).ownBlock∧some k_≠(.slice aM aD.length aN : Value).ownBlock∧some k_≠(.slice aW aE.length aX : Value).ownBlock∧some k_≠(.slice aY aG.length aZ : Value).ownBlock∧some k_≠(cL : Value).ownBlock∧k_≠av∧k_≠aw)) (Kd.R_types (Kd.R_types (Kd.R_apart' (Kd.R_apart' (Kd.R_apart' (Kd.R_apart' (Kd.R_apart' (Kd.R_apart' (bY.out) (Kd.N_typed aa.out) (by decide)) (Kd.N_typed ae.out) (by decide)) (Kd.R_typed al.out) (by decide)) (Kd.N_typed ao.out) (by decide)) (Kd.N_typed ap.out) (by decide)) (Kd.R_typed aq.out) (by decide)) ag.out (by decide)) am.out (by decide)) (fun k_ hk=>⟨hk.1.1.1.1.1.1.1.2,⟨hk.1.1.1.1.1.1.2,⟨hk.1.1.1.1.1.2,⟨hk.1.1.1.1.2,⟨hk.1.1.1.2,⟨hk.1.1.2,⟨hk.1.2,hk.2⟩⟩⟩⟩⟩⟩⟩))))) (Reps.none _ _)));intro ew w58 bG hb hg_ hnew_;clear hg_ hnew_;(first|rw [← cE.out] at bG|(simp only [Int.reduceToNat] at bG;rw [← cE.out] at bG)|rw [show (List.replicate (Int.toNat 11) (0 : Int))=a7 from cE.out.symm] at bG);replace aa:=zm (Kd.N_elder' (yr aa) (Kd.N_base bG) hb);replace ae:=zm (Kd.N_elder' (yr ae) (Kd.N_base bG) hb);replace al:=yRb al hb;replace ao:=zm (Kd.N_elder' (yr ao) (Kd.N_base bG) hb);replace ap:=zm (Kd.N_elder' (yr ap) (Kd.N_base bG) hb);replace aq:=yRb aq hb;have ay:=zm (Kd.N_lower bG (zE yhb));replace ag:=ybb ag hb;replace am:=ybb am hb;replace HB:=ybs hb;clear bY;clear hb bG;obtain ⟨ba,bb,dU⟩:=Kd.R_slice aq.out;subst dU;obtain ⟨bi,bj,dV⟩:=Kd.N_slice ay.out;subst dV)|((with_reducible refine gate_callee (f:=20) rfl ?_);refine ygl 32 Try.func20 #[.int .i64 11, .int .i64 1, .slice ba aT.length bb, .slice bi a7.length bj] ?_;(with_reducible refine (cpack_Read.calls k 11 1 _ _ aT _ _ a7 false aV a9 cM _ ?bg ?bh ?bq ?br A3.out).mono ?_);(case bg=>exact yce (Kd.R_reads' aq.out).2.2);(case bh=>exact (Kd.R_reads' aq.out).2.1);(case bq=>exact yce (Kd.N_reads' ay.out).2.2);(case br=>exact (Kd.N_reads' ay.out).2.1);rintro e w62 ⟨dW,dX,rfl,ho0,ho1,hb⟩;refine ⟨_,rfl, ?_⟩;have az:=zm (Kd.N_lower (Kd.N_mono (ok' := fun k_=>some k_≠(dX : Value).ownBlock∧some k_≠(.slice aK af.length aI : Value).ownBlock∧some k_≠(.slice aJ ac.length aH : Value).ownBlock∧some k_≠(.slice aM aD.length aN : Value).ownBlock∧some k_≠(.slice aW aE.length aX : Value).ownBlock∧some k_≠(.slice aY aG.length aZ : Value).ownBlock∧some k_≠(.slice ba aT.length bb : Value).ownBlock∧some k_≠(.slice bi a7.length bj : Value).ownBlock∧k_≠av∧k_≠aw) (Kd.S_N (Kd.S_bound (Kd.S_apart' ho0 (Kd.R_typed ho1) (by decide)))) (fun k_ hk_=>⟨hk_.1.2,(Kd.fresh' (Kd.N_lt (yr aa)) k_ hk_.2.1),(Kd.fresh' (Kd.N_lt (yr ae)) k_ hk_.2.1),(Kd.fresh' (Kd.R_lt (yr al)) k_ hk_.2.1),(Kd.fresh' (Kd.N_lt (yr ao)) k_ hk_.2.1),(Kd.fresh' (Kd.N_lt (yr ap)) k_ hk_.2.1),(Kd.fresh' (Kd.R_lt (yr aq)) k_ hk_.2.1),(Kd.fresh' (Kd.N_lt (yr ay)) k_ hk_.2.1),(Kd.freshB (yk ag) k_ hk_.2.1),(Kd.freshB (yk am) k_ hk_.2.1)⟩)) (zE yhb));have aA:=zm (Kd.N_lower (Kd.N_mono (ok' := fun k_=>some k_≠(dW : Value).ownBlock∧some k_≠(.slice aK af.length aI : Value).ownBlock∧some k_≠(.slice aJ ac.length aH : Value).ownBlock∧some k_≠(.slice aM aD.length aN : Value).ownBlock∧some k_≠(.slice aW aE.length aX : Value).ownBlock∧some k_≠(.slice aY aG.length aZ : Value).ownBlock∧some k_≠(.slice ba aT.length bb : Value).ownBlock∧some k_≠(.slice bi a7.length bj : Value).ownBlock∧k_≠av∧k_≠aw) (Kd.R_N (Kd.R_bound ho1)) (fun k_ hk_=>⟨hk_.1,(Kd.fresh' (Kd.N_lt (yr aa)) k_ hk_.2.1),(Kd.fresh' (Kd.N_lt (yr ae)) k_ hk_.2.1),(Kd.fresh' (Kd.R_lt (yr al)) k_ hk_.2.1),(Kd.fresh' (Kd.N_lt (yr ao)) k_ hk_.2.1),(Kd.fresh' (Kd.N_lt (yr ap)) k_ hk_.2.1),(Kd.fresh' (Kd.R_lt (yr aq)) k_ hk_.2.1),(Kd.fresh' (Kd.N_lt (yr ay)) k_ hk_.2.1),(Kd.freshB (yk ag) k_ hk_.2.1),(Kd.freshB (yk am) k_ hk_.2.1)⟩)) (zE yhb));replace aa:=zm (Kd.N_mono (Kd.N_told (Kd.N_told (Kd.N_old (yr aa) hb) (Kd.S_base ho0)) (Kd.R_base ho1)) (fun _ h_=>h_.1));replace ae:=zm (Kd.N_mono (Kd.N_told (Kd.N_told (Kd.N_old (yr ae) hb) (Kd.S_base ho0)) (Kd.R_base ho1)) (fun _ h_=>h_.1));replace al:=yRb al hb;replace ao:=zm (Kd.N_mono (Kd.N_told (Kd.N_told (Kd.N_old (yr ao) hb) (Kd.S_base ho0)) (Kd.R_base ho1)) (fun _ h_=>h_.1));replace ap:=zm (Kd.N_mono (Kd.N_told (Kd.N_told (Kd.N_old (yr ap) hb) (Kd.S_base ho0)) (Kd.R_base ho1)) (fun _ h_=>h_.1));replace aq:=yRb aq hb;replace ay:=zm (Kd.N_mono (Kd.N_told (Kd.N_told (Kd.N_old (yr ay) hb) (Kd.S_base ho0)) (Kd.R_base ho1)) (fun _ h_=>h_.1));replace ag:=ybb ag hb;replace am:=ybb am hb;replace HB:=ybs hb;(try clear hb);(try clear ho0);(try clear ho1))|((with_reducible refine gate_dst (N:=6) rfl ?_);(try (refine gate_guard (by rfl) ?_;dsimp only));refine ybx 6 #[.bool false, .slice none 0 0, .slice none 0 0] 25 ?_;intro ax hg w63 hbox hb;replace aa:=zm (Kd.N_below (Kd.N_elderB (yr aa) ax (Nat.le_of_eq hg.symm)) hb);replace ae:=zm (Kd.N_below (Kd.N_elderB (yr ae) ax (Nat.le_of_eq hg.symm)) hb);replace al:=yRb al hb;replace ao:=zm (Kd.N_below (Kd.N_elderB (yr ao) ax (Nat.le_of_eq hg.symm)) hb);replace ap:=zm (Kd.N_below (Kd.N_elderB (yr ap) ax (Nat.le_of_eq hg.symm)) hb);replace aq:=yRb aq hb;replace ay:=zm (Kd.N_below (Kd.N_elderB (yr ay) ax (Nat.le_of_eq hg.symm)) hb);replace az:=zm (Kd.N_below (Kd.N_elderB (yr az) ax (Nat.le_of_eq hg.symm)) hb);replace aA:=zm (Kd.N_below (Kd.N_elderB (yr aA) ax (Nat.le_of_eq hg.symm)) hb);have aC:=zm (hbox);have ej:=ygw hg;have ek:=ygw hg;replace HB:=ybs hb;have b8:=ynl ag hg;have b9:=yng ag hg;replace ag:=ybb ag hb;have ca:=ynl am hg;have cb:=yng am hg;replace am:=ybb am hb;clear hb hbox hg;have:=b9.out;have:=b8.out;have:=cb.out;have:=ca.out;obtain ⟨_,_,_,_,_,_⟩:=yc3 aC;obtain ⟨bd,bf,dY⟩:=Kd.N_slice az.out;subst dY;obtain ⟨bk,bl,dZ⟩:=Kd.N_slice aA.out;subst dZ))
     obtain ⟨w69,hw_⟩ : ∃ x,x=(((w63.setCell ⟨ax,0,none⟩ (.bool false)).setCell ⟨ax,1,none⟩ (.slice bd aV.length bf)).setCell ⟨ax,2,none⟩ (.slice bk a9.length bl)):=⟨_,rfl⟩
     rw [← hw_]
     replace aa : Aside0 (Kd.N (Kd.slice 3 (Kd.int .i64)) 49 w69 w.heap.size (fun k_=>some k_≠(.slice aJ ac.length aH : Value).ownBlock∧some k_≠(.slice aM aD.length aN : Value).ownBlock∧some k_≠(.slice aW aE.length aX : Value).ownBlock∧some k_≠(.slice aY aG.length aZ : Value).ownBlock∧some k_≠(.slice ba aT.length bb : Value).ownBlock∧some k_≠(.slice bi a7.length bj : Value).ownBlock∧some k_≠(.slice bd aV.length bf : Value).ownBlock∧some k_≠(.slice bk a9.length bl : Value).ownBlock∧k_≠av∧k_≠aw∧k_≠ax) (.slice aK af.length aI) af):=⟨by rw [hw_];exact (yN0 aa)⟩
     replace ae : Aside0 (Kd.N (Kd.slice 49 (Kd.slice 3 (Kd.int .i64))) 22 w69 w.heap.size (fun k_=>some k_≠(.slice aK af.length aI : Value).ownBlock∧some k_≠(.slice aM aD.length aN : Value).ownBlock∧some k_≠(.slice aW aE.length aX : Value).ownBlock∧some k_≠(.slice aY aG.length aZ : Value).ownBlock∧some k_≠(.slice ba aT.length bb : Value).ownBlock∧some k_≠(.slice bi a7.length bj : Value).ownBlock∧some k_≠(.slice bd aV.length bf : Value).ownBlock∧some k_≠(.slice bk a9.length bl : Value).ownBlock∧k_≠av∧k_≠aw∧k_≠ax) (.slice aJ ac.length aH) ac):=⟨by rw [hw_];exact (yN0 ae)⟩
     replace al : Aside0 (Kd.R (Kd.int .u8) 5 w69 w.heap.size (fun k_=>some k_≠(.slice ba aT.length bb : Value).ownBlock) (.slice aM aD.length aN) aD):=⟨by rw [hw_];exact (yR1 al aC)⟩
     replace ao : Aside0 (Kd.N (Kd.slice 3 (Kd.int .i64)) 49 w69 w.heap.size (fun k_=>some k_≠(.slice aK af.length aI : Value).ownBlock∧some k_≠(.slice aJ ac.length aH : Value).ownBlock∧some k_≠(.slice aM aD.length aN : Value).ownBlock∧some k_≠(.slice aY aG.length aZ : Value).ownBlock∧some k_≠(.slice ba aT.length bb : Value).ownBlock∧some k_≠(.slice bi a7.length bj : Value).ownBlock∧some k_≠(.slice bd aV.length bf : Value).ownBlock∧some k_≠(.slice bk a9.length bl : Value).ownBlock∧k_≠av∧k_≠aw∧k_≠ax) (.slice aW aE.length aX) aE):=⟨by rw [hw_];exact (yN0 ao)⟩
     replace ap : Aside0 (Kd.N (Kd.slice 49 (Kd.slice 3 (Kd.int .i64))) 22 w69 w.heap.size (fun k_=>some k_≠(.slice aK af.length aI : Value).ownBlock∧some k_≠(.slice aJ ac.length aH : Value).ownBlock∧some k_≠(.slice aM aD.length aN : Value).ownBlock∧some k_≠(.slice aW aE.length aX : Value).ownBlock∧some k_≠(.slice ba aT.length bb : Value).ownBlock∧some k_≠(.slice bi a7.length bj : Value).ownBlock∧some k_≠(.slice bd aV.length bf : Value).ownBlock∧some k_≠(.slice bk a9.length bl : Value).ownBlock∧k_≠av∧k_≠aw∧k_≠ax) (.slice aY aG.length aZ) aG):=⟨by rw [hw_];exact (yN0 ap)⟩
     replace aq : Aside0 (Kd.R (Kd.int .u8) 5 w69 w.heap.size (fun k_=>some k_≠(.slice aM aD.length aN : Value).ownBlock) (.slice ba aT.length bb) aT):=⟨by rw [hw_];exact (yR1 aq aC)⟩
     replace ay : Aside0 (Kd.N (Kd.slice 3 (Kd.int .i64)) 49 w69 w.heap.size (fun k_=>some k_≠(.slice aK af.length aI : Value).ownBlock∧some k_≠(.slice aJ ac.length aH : Value).ownBlock∧some k_≠(.slice aM aD.length aN : Value).ownBlock∧some k_≠(.slice aW aE.length aX : Value).ownBlock∧some k_≠(.slice aY aG.length aZ : Value).ownBlock∧some k_≠(.slice ba aT.length bb : Value).ownBlock∧some k_≠(.slice bd aV.length bf : Value).ownBlock∧some k_≠(.slice bk a9.length bl : Value).ownBlock∧k_≠av∧k_≠aw∧k_≠ax) (.slice bi a7.length bj) a7):=⟨by rw [hw_];exact (yN0 ay)⟩
     replace az : Aside0 (Kd.N (Kd.slice 3 (Kd.int .i64)) 49 w69 w.heap.size (fun k_=>some k_≠(.slice aK af.length aI : Value).ownBlock∧some k_≠(.slice aJ ac.length aH : Value).ownBlock∧some k_≠(.slice aM aD.length aN : Value).ownBlock∧some k_≠(.slice aW aE.length aX : Value).ownBlock∧some k_≠(.slice aY aG.length aZ : Value).ownBlock∧some k_≠(.slice ba aT.length bb : Value).ownBlock∧some k_≠(.slice bi a7.length bj : Value).ownBlock∧some k_≠(.slice bk a9.length bl : Value).ownBlock∧k_≠av∧k_≠aw∧k_≠ax) (.slice bd aV.length bf) aV):=⟨by rw [hw_];exact (yN0 az)⟩
     replace aA : Aside0 (Kd.N (Kd.slice 49 (Kd.slice 3 (Kd.int .i64))) 22 w69 w.heap.size (fun k_=>some k_≠(.slice aK af.length aI : Value).ownBlock∧some k_≠(.slice aJ ac.length aH : Value).ownBlock∧some k_≠(.slice aM aD.length aN : Value).ownBlock∧some k_≠(.slice aW aE.length aX : Value).ownBlock∧some k_≠(.slice aY aG.length aZ : Value).ownBlock∧some k_≠(.slice ba aT.length bb : Value).ownBlock∧some k_≠(.slice bi a7.length bj : Value).ownBlock∧some k_≠(.slice bd aV.length bf : Value).ownBlock∧k_≠av∧k_≠aw∧k_≠ax) (.slice bk a9.length bl) a9):=⟨by rw [hw_];exact (yN0 aA)⟩
     replace ag : Aside0 (w69.heap[av]? = some (.cells #[.bool true, .slice aK af.length aI, .slice aJ ac.length aH] 25 (0,0))):=⟨by rw [hw_];exact (yk ag)⟩
     replace am : Aside0 (w69.heap[aw]? = some (.cells #[.bool bI, .slice aW aE.length aX, .slice aY aG.length aZ] 25 (0,0))):=⟨by rw [hw_];exact (yk am)⟩
     replace aC : Aside0 (w69.heap[ax]? = some (.cells #[.bool false, .slice bd aV.length bf, .slice bk a9.length bl] 25 (0,0))):=⟨by rw [hw_];exact (ykp aC)⟩
     replace HB : Aside0 (Below w.heap.size w w69):=⟨by rw [hw_];exact (yhb)⟩
     clear hw_
     replace aa:=zm (Kd.N_drew aa.out)
     replace ae:=zm (Kd.N_drew ae.out)
     replace al:=zm (zq al.out)
     replace ao:=zm (Kd.N_drew ao.out)
     replace ap:=zm (Kd.N_drew ap.out)
     replace aq:=zm (zq aq.out)
     replace ay:=zm (Kd.N_drew ay.out)
     replace az:=zm (Kd.N_drew az.out)
     replace aA:=zm (Kd.N_drew aA.out)
     replace ag:=zm (zj ag.out)
     replace am:=zm (zj am.out)
     replace aC:=zm (zj aC.out)
     replace HB:=zm (zf HB.out)
     refine yst (fun w' => w'.cell? ⟨aw,0,none⟩=some (.bool bI)∧w'.cell? ⟨aw,1,none⟩=some (.slice aW aE.length aX)∧w'.cell? ⟨aw,2,none⟩=some (.slice aY aG.length aZ)∧w'.cell? ⟨av,0,none⟩=some (.bool true)∧w'.cell? ⟨av,1,none⟩=some (.slice aK af.length aI)∧w'.cell? ⟨av,2,none⟩=some (.slice aJ ac.length aH)∧w'.cell? ⟨ax,0,none⟩=some (.bool false)∧w'.cell? ⟨ax,1,none⟩=some (.slice bd aV.length bf)∧w'.cell? ⟨ax,2,none⟩=some (.slice bk a9.length bl)) [] 39 w13_knows.tab5 w13_knows.bits5 (fun hHeld HT_ HW_ => ?_)
     generalize w69.drew=w70 at aa ae al ao ap aq ay az aA ag am aC HB hHeld ⊢
     refine yp 0 35 HT_ ?_
     refine yp 1 36 HT_ ?_
     refine yp 2 37 HT_ ?_
     refine yp 3 38 HT_ ?_
     refine yp 4 39 HT_ ?_
     refine yp 5 40 HT_ ?_
     refine yp 6 41 HT_ ?_
     refine yp 7 42 HT_ ?_
     refine yl 8 43 HT_ HW_ hHeld ?_
     refine yl 10 45 HT_ HW_ hHeld ?_
     refine yw 9 44 HT_ (fun K hK => ?_)
     refine ygs Try.func14 #[.agg #[.bool bI, .slice aW aE.length aX, .slice aY aG.length aZ]] ?_
     with_reducible refine (w13_As.calls bI (fun k_=>(some k_≠(.slice aK af.length aI : Value).ownBlock∧(some k_≠(.slice aJ ac.length aH : Value).ownBlock∧(some k_≠(.slice aM aD.length aN : Value).ownBlock∧(some k_≠(.slice aY aG.length aZ : Value).ownBlock∧(some k_≠(.slice ba aT.length bb : Value).ownBlock∧(some k_≠(.slice bi a7.length bj : Value).ownBlock∧(some k_≠(.slice bd aV.length bf : Value).ownBlock∧(some k_≠(.slice bk a9.length bl : Value).ownBlock∧(k_≠av∧(k_≠aw∧k_≠ax))))))))))) _ _ aE (fun k_=>(some k_≠(.slice aK af.length aI : Value).ownBlock∧(some k_≠(.slice aJ ac.length aH : Value).ownBlock∧(some k_≠(.slice aM aD.length aN : Value).ownBlock∧(some k_≠(.slice aW aE.length aX : Value).ownBlock∧(some k_≠(.slice ba aT.length bb : Value).ownBlock∧(some k_≠(.slice bi a7.length bj : Value).ownBlock∧(some k_≠(.slice bd aV.length bf : Value).ownBlock∧(some k_≠(.slice bk a9.length bl : Value).ownBlock∧(k_≠av∧(k_≠aw∧k_≠ax))))))))))) _ _ aG cO cP cQ _ ?bg ?bh A6.out).mono ?_
     (case bg=>exact Kd.N_V (ao.out))
     (case bh=>exact Kd.N_V (ap.out))
     rintro e w71 ⟨ey,ez,rfl,ho0,ho1,hb⟩
     refine ⟨_,rfl, ?_⟩
     replace ao:=yNb ao hb
     replace ap:=yNb ap hb
     have bn:=yho (fun k_=>some k_≠(.slice aK af.length aI : Value).ownBlock∧some k_≠(.slice aJ ac.length aH : Value).ownBlock∧some k_≠(.slice aM aD.length aN : Value).ownBlock∧some k_≠(.slice ba aT.length bb : Value).ownBlock∧some k_≠(.slice bi a7.length bj : Value).ownBlock∧some k_≠(.slice bd aV.length bf : Value).ownBlock∧some k_≠(.slice bk a9.length bl : Value).ownBlock∧k_≠av∧k_≠aw∧k_≠ax) ho0 (fun k_ hk_=>⟨yoN aa hk_,yoN ae hk_,yoR al hk_,yoR aq hk_,yoN ay hk_,yoN az hk_,yoN aA hk_,yoB ag hk_,yoB am hk_,yoB aC hk_⟩)
     have bo:=yho (fun k_=>some k_≠(.slice aK af.length aI : Value).ownBlock∧some k_≠(.slice aJ ac.length aH : Value).ownBlock∧some k_≠(.slice aM aD.length aN : Value).ownBlock∧some k_≠(.slice ba aT.length bb : Value).ownBlock∧some k_≠(.slice bi a7.length bj : Value).ownBlock∧some k_≠(.slice bd aV.length bf : Value).ownBlock∧some k_≠(.slice bk a9.length bl : Value).ownBlock∧k_≠av∧k_≠aw∧k_≠ax) ho1 (fun k_ hk_=>⟨yoN aa hk_,yoN ae hk_,yoR al hk_,yoR aq hk_,yoN ay hk_,yoN az hk_,yoN aA hk_,yoB ag hk_,yoB am hk_,yoB aC hk_⟩)
     replace aa:=yNb aa hb
     replace ae:=yNb ae hb
     replace al:=yRb al hb
     replace aq:=yRb aq hb
     replace ay:=yNb ay hb
     replace az:=yNb az hb
     replace aA:=yNb aA hb
     replace ag:=ybb ag hb
     replace am:=ybb am hb
     replace aC:=ybb aC hb
     replace HB:=ybs hb
     (try clear hb)
     (try clear ho0)
     (try clear ho1)
     refine hK.out _ _ yH (fun hHeld => ?_)
     clear hK K
     refine ym (some 44) ?_
     refine yw 11 46 HT_ (fun K hK => ?_)
     refine ygs Try.func14 #[.agg #[.bool true, .slice aK af.length aI, .slice aJ ac.length aH]] ?_
     with_reducible refine (w13_As.calls true (fun k_=>(some k_≠(.slice aJ ac.length aH : Value).ownBlock∧(some k_≠(.slice aM aD.length aN : Value).ownBlock∧(some k_≠(.slice aW aE.length aX : Value).ownBlock∧(some k_≠(.slice aY aG.length aZ : Value).ownBlock∧(some k_≠(.slice ba aT.length bb : Value).ownBlock∧(some k_≠(.slice bi a7.length bj : Value).ownBlock∧(some k_≠(.slice bd aV.length bf : Value).ownBlock∧(some k_≠(.slice bk a9.length bl : Value).ownBlock∧(k_≠av∧(k_≠aw∧k_≠ax))))))))))) _ _ af (fun k_=>(some k_≠(.slice aK af.length aI : Value).ownBlock∧(some k_≠(.slice aM aD.length aN : Value).ownBlock∧(some k_≠(.slice aW aE.length aX : Value).ownBlock∧(some k_≠(.slice aY aG.length aZ : Value).ownBlock∧(some k_≠(.slice ba aT.length bb : Value).ownBlock∧(some k_≠(.slice bi a7.length bj : Value).ownBlock∧(some k_≠(.slice bd aV.length bf : Value).ownBlock∧(some k_≠(.slice bk a9.length bl : Value).ownBlock∧(k_≠av∧(k_≠aw∧k_≠ax))))))))))) _ _ ac cR cS cT _ ?bg ?bh A7.out).mono ?_
     (case bg=>exact Kd.N_V (aa.out))
     (case bh=>exact Kd.N_V (ae.out))
     rintro e w72 ⟨eA,eB,rfl,ho0,ho1,hb⟩
     refine ⟨_,rfl, ?_⟩
     replace aa:=yNb aa hb
     replace ae:=yNb ae hb
     replace bn:=yVb bn hb
     replace bo:=yVb bo hb
     have bs:=yho (fun k_=>some k_≠(.slice aM aD.length aN : Value).ownBlock∧some k_≠(.slice aW aE.length aX : Value).ownBlock∧some k_≠(.slice aY aG.length aZ : Value).ownBlock∧some k_≠(.slice ba aT.length bb : Value).ownBlock∧some k_≠(.slice bi a7.length bj : Value).ownBlock∧some k_≠(.slice bd aV.length bf : Value).ownBlock∧some k_≠(.slice bk a9.length bl : Value).ownBlock∧k_≠av∧k_≠aw∧k_≠ax) ho0 (fun k_ hk_=>⟨yoR al hk_,yoN ao hk_,yoN ap hk_,yoR aq hk_,yoN ay hk_,yoN az hk_,yoN aA hk_,yoB ag hk_,yoB am hk_,yoB aC hk_⟩)
     have bu:=yho (fun k_=>some k_≠(.slice aM aD.length aN : Value).ownBlock∧some k_≠(.slice aW aE.length aX : Value).ownBlock∧some k_≠(.slice aY aG.length aZ : Value).ownBlock∧some k_≠(.slice ba aT.length bb : Value).ownBlock∧some k_≠(.slice bi a7.length bj : Value).ownBlock∧some k_≠(.slice bd aV.length bf : Value).ownBlock∧some k_≠(.slice bk a9.length bl : Value).ownBlock∧k_≠av∧k_≠aw∧k_≠ax) ho1 (fun k_ hk_=>⟨yoR al hk_,yoN ao hk_,yoN ap hk_,yoR aq hk_,yoN ay hk_,yoN az hk_,yoN aA hk_,yoB ag hk_,yoB am hk_,yoB aC hk_⟩)
     replace al:=yRb al hb
     replace ao:=yNb ao hb
     replace ap:=yNb ap hb
     replace aq:=yRb aq hb
     replace ay:=yNb ay hb
     replace az:=yNb az hb
     replace aA:=yNb aA hb
     replace ag:=ybb ag hb
     replace am:=ybb am hb
     replace aC:=ybb aC hb
     replace HB:=ybs hb
     (try clear hb)
     (try clear ho0)
     (try clear ho1)
     obtain ⟨d5,d6,dq⟩:=Kd.V_slice bn.out
     (first|subst dq|(injection dq with f1_ f2_ f3_;have f4_:=f1_.symm;have f5_:=f3_.symm;clear f1_ f2_ f3_;subst f4_;subst f5_))
     obtain ⟨d7,d8,dr⟩:=Kd.V_slice bo.out
     (first|subst dr|(injection dr with f1_ f2_ f3_;have f4_:=f1_.symm;have f5_:=f3_.symm;clear f1_ f2_ f3_;subst f4_;subst f5_))
     obtain ⟨d9,ea,dt⟩:=Kd.V_slice bs.out
     (first|subst dt|(injection dt with f1_ f2_ f3_;have f4_:=f1_.symm;have f5_:=f3_.symm;clear f1_ f2_ f3_;subst f4_;subst f5_))
     obtain ⟨eb,ec,du⟩:=Kd.V_slice bu.out
     (first|subst du|(injection du with f1_ f2_ f3_;have f4_:=f1_.symm;have f5_:=f3_.symm;clear f1_ f2_ f3_;subst f4_;subst f5_))
     refine hK.out _ _ yH (fun hHeld => ?_)
     clear hK K
     refine ym (some 46) ?_
     refine yw 12 47 HT_ (fun K hK => ?_)
     refine ygs Try.func22 #[.agg #[.bool cO, .slice d5 cP.length d6, .slice d7 cQ.length d8], .agg #[.bool cR, .slice d9 cS.length ea, .slice eb cT.length ec]] ?_
     with_reducible refine (r13_Same.calls k cO _ _ cP _ _ cQ cR _ _ cS _ _ cT true _ ?bg ?bh ?bq ?br ?cJ ?cK ?dv ?dw A8.out).mono ?_
     (case bg=>exact yce (Kd.V_reads' bn.out).2.2)
     (case bh=>exact (Kd.V_reads' bn.out).2.1)
     (case bq=>exact yce (Kd.V_reads' bo.out).2.2)
     (case br=>exact (Kd.V_reads' bo.out).2.1)
     (case cJ=>exact yce (Kd.V_reads' bs.out).2.2)
     (case cK=>exact (Kd.V_reads' bs.out).2.1)
     (case dv=>exact yce (Kd.V_reads' bu.out).2.2)
     (case dw=>exact (Kd.V_reads' bu.out).2.1)
     rintro e w77 ⟨rfl,hb⟩
     refine ⟨_,rfl, ?_⟩
     replace aa:=yNb aa hb
     replace ae:=yNb ae hb
     replace al:=yRb al hb
     replace ao:=yNb ao hb
     replace ap:=yNb ap hb
     replace aq:=yRb aq hb
     replace ay:=yNb ay hb
     replace az:=yNb az hb
     replace aA:=yNb aA hb
     replace bn:=yVb bn hb
     replace bo:=yVb bo hb
     replace bs:=yVb bs hb
     replace bu:=yVb bu hb
     replace ag:=ybb ag hb
     replace am:=ybb am hb
     replace aC:=ybb aC hb
     replace HB:=ybs hb
     (try clear hb)
     refine hK.out _ _ yH (fun hHeld => ?_)
     clear hK K
     refine ym (some 47) ?_
     refine yp 13 48 HT_ ?_
     refine yp 14 49 HT_ ?_
     refine yp 15 50 HT_ ?_
     refine yp 16 51 HT_ ?_
     refine yp 17 52 HT_ ?_
     refine yp 18 53 HT_ ?_
     refine yp 19 54 HT_ ?_
     refine yl 20 55 HT_ HW_ hHeld ?_
     refine yp 21 56 HT_ ?_
     refine yp 22 57 HT_ ?_
     refine yp 23 58 HT_ ?_
     refine yp 24 59 HT_ ?_
     refine yl 25 60 HT_ HW_ hHeld ?_
     refine yw 26 61 HT_ (fun K hK => ?_)
     refine Kd.R_lit_step (Kd.int .i64) _ 3 ?hg (N:=61) ?hd (xs:=([6,0,0,1,2] : List Int)) (inner := [.int .i64 6, .int .i64 0, .int .i64 0, .int .i64 1, .int .i64 2]) (ok:=fun _=>True) (okp:=fun _=>True) ?hr ?hp (fun _ hk=>hk) trivial (Below.refl _ _) (Nat.le_refl _) (by simp) ?_;(case hd=>rfl);(case hg=>rfl);(case hr=>first|(go_simp;done)|(go_simp;rfl));(case hp=>exact (Reps.one (show Kd.M (Kd.int .i64) _ _ _ 6 [.int .i64 6] from rfl) (Reps.one (show Kd.M (Kd.int .i64) _ _ _ 0 [.int .i64 0] from rfl) (Reps.one (show Kd.M (Kd.int .i64) _ _ _ 0 [.int .i64 0] from rfl) (Reps.one (show Kd.M (Kd.int .i64) _ _ _ 1 [.int .i64 1] from rfl) (Reps.one (show Kd.M (Kd.int .i64) _ _ _ 2 [.int .i64 2] from rfl) (Reps.none _ _)))))))
     intro eC w78 bv hb hg_ hnew_
     clear hg_ hnew_
     (first|rw [← cG.out] at bv|(simp only [Int.reduceToNat] at bv;rw [← cG.out] at bv)|rw [show (List.replicate (Int.toNat 11) (0 : Int))=bR from cG.out.symm] at bv)
     replace aa:=zm (Kd.N_elder' (yr aa) (Kd.R_base bv) hb)
     replace ae:=zm (Kd.N_elder' (yr ae) (Kd.R_base bv) hb)
     replace al:=yRb al hb
     replace ao:=zm (Kd.N_elder' (yr ao) (Kd.R_base bv) hb)
     replace ap:=zm (Kd.N_elder' (yr ap) (Kd.R_base bv) hb)
     replace aq:=yRb aq hb
     replace ay:=zm (Kd.N_elder' (yr ay) (Kd.R_base bv) hb)
     replace az:=zm (Kd.N_elder' (yr az) (Kd.R_base bv) hb)
     replace aA:=zm (Kd.N_elder' (yr aA) (Kd.R_base bv) hb)
     replace bn:=zm (Kd.V_elder' (yr bn) (Kd.R_base bv) hb)
     replace bo:=zm (Kd.V_elder' (yr bo) (Kd.R_base bv) hb)
     replace bs:=zm (Kd.V_elder' (yr bs) (Kd.R_base bv) hb)
     replace bu:=zm (Kd.V_elder' (yr bu) (Kd.R_base bv) hb)
     have bZ:=zm (Kd.R_lower bv (zE yhb))
     replace ag:=ybb ag hb
     replace am:=ybb am hb
     replace aC:=ybb aC hb
     replace HB:=ybs hb
     clear hb bv
     obtain ⟨dx,dy,dz⟩:=Kd.R_slice bZ.out
     (first|subst dz|(injection dz with f1_ f2_ f3_;have f4_:=f1_.symm;have f5_:=f3_.symm;clear f1_ f2_ f3_;subst f4_;subst f5_))
     refine hK.out _ _ yH (fun hHeld => ?_)
     clear hK K
     refine ym (some 61) ?_
     refine yw 27 62 HT_ (fun K hK => ?_)
     refine Kd.N_lit_step (Kd.slice 3 (Kd.int .i64)) _ 49 ?hg (N' := 62) ?hd (xs:=([bR] : List (List Int))) (inner := [.slice dx bR.length dy]) (ok:=(fun k_=>some k_≠(.slice aK af.length aI : Value).ownBlock∧some k_≠(.slice aJ ac.length aH : Value).ownBlock∧some k_≠(.slice aM aD.length aN : Value).ownBlock∧some k_≠(.slice aW aE.length aX : Value).ownBlock∧some k_≠(.slice aY aG.length aZ : Value).ownBlock∧some k_≠(.slice ba aT.length bb : Value).ownBlock∧some k_≠(.slice bi a7.length bj : Value).ownBlock∧some k_≠(.slice bd aV.length bf : Value).ownBlock∧some k_≠(.slice bk a9.length bl : Value).ownBlock∧k_≠av∧k_≠aw∧k_≠ax)) (okp:=(fun k_=>some k_≠(.slice aK af.length aI : Value).ownBlock∧some k_≠(.slice aJ ac.length aH : Value).ownBlock∧some k_≠(.slice aM aD.length aN : Value).ownBlock∧some k_≠(.slice aW aE.length aX : Value).ownBlock∧some k_≠(.slice aY aG.length aZ : Value).ownBlock∧some k_≠(.slice ba aT.length bb : Value).ownBlock∧some k_≠(.slice bi a7.length bj : Value).ownBlock∧some k_≠(.slice bd aV.length bf : Value).ownBlock∧some k_≠(.slice bk a9.length bl : Value).ownBlock∧k_≠av∧k_≠aw∧k_≠ax)) ?hr ?hp (fun _ hk=>hk) ((show ∀ k_,w78.heap.size≤k_→(fun k_=>some k_≠(.slice aK af.length aI : Value).ownBlock∧some k_≠(.slice aJ ac.length aH : Value).ownBlock∧some k_≠(.slice aM aD.length aN : Value).ownBlock∧some k_≠(.slice aW aE.length aX : Value).ownBlock∧some k_≠(.slice aY aG.length aZ : Value).ownBlock∧some k_≠(.slice ba aT.length bb : Value).ownBlock∧some k_≠(.slice bi a7.length bj : Value).ownBlock∧some k_≠(.slice bd aV.length bf : Value).ownBlock∧some k_≠(.slice bk a9.length bl : Value).ownBlock∧k_≠av∧k_≠aw∧k_≠ax) k_ from fun k_ hk=>⟨Kd.fresh' (Kd.N_lt (yr aa)) k_ hk,Kd.fresh' (Kd.N_lt (yr ae)) k_ hk,Kd.fresh' (Kd.R_lt (yr al)) k_ hk,Kd.fresh' (Kd.N_lt (yr ao)) k_ hk,Kd.fresh' (Kd.N_lt (yr ap)) k_ hk,Kd.fresh' (Kd.R_lt (yr aq)) k_ hk,Kd.fresh' (Kd.N_lt (yr ay)) k_ hk,Kd.fresh' (Kd.N_lt (yr az)) k_ hk,Kd.fresh' (Kd.N_lt (yr aA)) k_ hk,Kd.freshB (yk ag) k_ hk,Kd.freshB (yk am) k_ hk,Kd.freshB (yk aC) k_ hk⟩) _ (Nat.le_refl _)) (Below.refl _ _) (Nat.le_refl _) (by simp) ?_;(case hd=>rfl);(case hg=>rfl);(case hr=>first|(go_simp;done)|(go_simp;rfl));(case hp=>exact (Reps.one (show Kd.FK (Kd.slice 3 (Kd.int .i64)) _ _ bR [.slice dx bR.length dy] from (Kd.FK_slice_mk (Kd.R_reads' (zG (ok' := (fun k_=>some k_≠(.slice aK af.length aI : Value).ownBlock∧some k_≠(.slice aJ ac.length aH : Value).ownBlock∧some k_≠(.slice aM aD.length aN : Value).ownBlock∧some k_≠(.slice aW aE.length aX : Value).ownBlock∧some k_≠(.slice aY aG.length aZ : Value).ownBlock∧some k_≠(.slice ba aT.length bb : Value).ownBlock∧some k_≠(.slice bi a7.length bj : Value).ownBlock∧some k_≠(.slice bd aV.length bf : Value).ownBlock∧some k_≠(.slice bk a9.length bl : Value).ownBlock∧k_≠av∧k_≠aw∧k_≠ax)) (Kd.R_types (Kd.R_types (Kd.R_types (Kd.R_apart' (Kd.R_apart' (Kd.R_apart' (Kd.R_apart' (Kd.R_apart' (Kd.R_apart' (Kd.R_apart' (Kd.R_apart' (Kd.R_apart' (bZ.out) (Kd.N_typed aa.out) (by decide)) (Kd.N_typed ae.out) (by decide)) (Kd.R_typed al.out) (by decide)) (Kd.N_typed ao.out) (by decide)) (Kd.N_typed ap.out) (by decide)) (Kd.R_typed aq.out) (by decide)) (Kd.N_typed ay.out) (by decide)) (Kd.N_typed az.out) (by decide)) (Kd.N_typed aA.out) (by decide)) ag.out (by decide)) am.out (by decide)) aC.out (by decide)) (fun k_ hk=>⟨hk.1.1.1.1.1.1.1.1.1.1.1.2,⟨hk.1.1.1.1.1.1.1.1.1.1.2,⟨hk.1.1.1.1.1.1.1.1.1.2,⟨hk.1.1.1.1.1.1.1.1.2,⟨hk.1.1.1.1.1.1.1.2,⟨hk.1.1.1.1.1.1.2,⟨hk.1.1.1.1.1.2,⟨hk.1.1.1.1.2,⟨hk.1.1.1.2,⟨hk.1.1.2,⟨hk.1.2,hk.2⟩⟩⟩⟩⟩⟩⟩⟩⟩⟩⟩))).2.1 (Kd.R_F (zG (ok' := (fun k_=>some k_≠(.slice aK af.length aI : Value).ownBlock∧some k_≠(.slice aJ ac.length aH : Value).ownBlock∧some k_≠(.slice aM aD.length aN : Value).ownBlock∧some k_≠(.slice aW aE.length aX : Value).ownBlock∧some k_≠(.slice aY aG.length aZ : Value).ownBlock∧some k_≠(.slice ba aT.length bb : Value).ownBlock∧some k_≠(.slice bi a7.length bj : Value).ownBlock∧some k_≠(.slice bd aV.length bf : Value).ownBlock∧some k_≠(.slice bk a9.length bl : Value).ownBlock∧k_≠av∧k_≠aw∧k_≠ax)) (Kd.R_types (Kd.R_types (Kd.R_types (Kd.R_apart' (Kd.R_apart' (Kd.R_apart' (Kd.R_apart' (Kd.R_apart' (Kd.R_apart' (Kd.R_apart' (Kd.R_apart' (Kd.R_apart' (bZ.out) (Kd.N_typed aa.out) (by decide)) (Kd.N_typed ae.out) (by decide)) (Kd.R_typed al.out) (by decide)) (Kd.N_typed ao.out) (by decide)) (Kd.N_typed ap.out) (by decide)) (Kd.R_typed aq.out) (by decide)) (Kd.N_typed ay.out) (by decide)) (Kd.N_typed az.out) (by decide)) (Kd.N_typed aA.out) (by decide)) ag.out (by decide)) am.out (by decide)) aC.out (by decide)) (fun k_ hk=>⟨hk.1.1.1.1.1.1.1.1.1.1.1.2,⟨hk.1.1.1.1.1.1.1.1.1.1.2,⟨hk.1.1.1.1.1.1.1.1.1.2,⟨hk.1.1.1.1.1.1.1.1.2,⟨hk.1.1.1.1.1.1.1.2,⟨hk.1.1.1.1.1.1.2,⟨hk.1.1.1.1.1.2,⟨hk.1.1.1.1.2,⟨hk.1.1.1.2,⟨hk.1.1.2,⟨hk.1.2,hk.2⟩⟩⟩⟩⟩⟩⟩⟩⟩⟩⟩))))) (Reps.none _ _)))
     intro eD w81 bw hb hg_ hnew_
     clear hg_ hnew_
     (first|rw [← cI.out] at bw|(simp only [Int.reduceToNat] at bw;rw [← cI.out] at bw)|rw [show (List.replicate (Int.toNat 11) (0 : Int))=cN from cI.out.symm] at bw)
     replace aa:=zm (Kd.N_elder' (yr aa) (Kd.N_base bw) hb)
     replace ae:=zm (Kd.N_elder' (yr ae) (Kd.N_base bw) hb)
     replace al:=yRb al hb
     replace ao:=zm (Kd.N_elder' (yr ao) (Kd.N_base bw) hb)
     replace ap:=zm (Kd.N_elder' (yr ap) (Kd.N_base bw) hb)
     replace aq:=yRb aq hb
     replace ay:=zm (Kd.N_elder' (yr ay) (Kd.N_base bw) hb)
     replace az:=zm (Kd.N_elder' (yr az) (Kd.N_base bw) hb)
     replace aA:=zm (Kd.N_elder' (yr aA) (Kd.N_base bw) hb)
     replace bn:=zm (Kd.V_elder' (yr bn) (Kd.N_base bw) hb)
     replace bo:=zm (Kd.V_elder' (yr bo) (Kd.N_base bw) hb)
     replace bs:=zm (Kd.V_elder' (yr bs) (Kd.N_base bw) hb)
     replace bu:=zm (Kd.V_elder' (yr bu) (Kd.N_base bw) hb)
     have bM:=zm (Kd.N_lower bw (zE yhb))
     replace ag:=ybb ag hb
     replace am:=ybb am hb
     replace aC:=ybb aC hb
     replace HB:=ybs hb
     clear bZ hb bw
     obtain ⟨ed,ee,dA⟩:=Kd.N_slice bM.out
     (first|subst dA|(injection dA with f1_ f2_ f3_;have f4_:=f1_.symm;have f5_:=f3_.symm;clear f1_ f2_ f3_;subst f4_;subst f5_))
     refine hK.out _ _ yH (fun hHeld => ?_)
     clear hK K
     refine ym (some 62) ?_
     refine yw 28 63 HT_ (fun K hK => ?_)
     refine ygs Try.func24 #[.slice bd aV.length bf, .slice ed cN.length ee] ?_
     with_reducible refine (r12_Same.calls k _ _ aV _ _ cN true _ ?bg ?bh ?bq ?br A12.out).mono ?_
     (case bg=>exact yce (Kd.N_reads' az.out).2.2)
     (case bh=>exact (Kd.N_reads' az.out).2.1)
     (case bq=>exact yce (Kd.N_reads' bM.out).2.2)
     (case br=>exact (Kd.N_reads' bM.out).2.1)
     rintro e w' ⟨rfl,⟨nd,rfl⟩⟩
     refine ⟨_,rfl, ?_⟩
     refine hK.out _ _ yH (fun hHeld => ?_)
     clear hK K
     refine ym (some 63) ?_
     refine yp 29 64 HT_ ?_
     refine yp 30 65 HT_ ?_
     refine yp 31 66 HT_ ?_
     refine yp 32 67 HT_ ?_
     refine yp 33 68 HT_ ?_
     refine yp 34 69 HT_ ?_
     refine yl 35 70 HT_ HW_ hHeld ?_
     refine yw 36 71 HT_ (fun K hK => ?_)
     refine ygs Try.func15 #[.int .i64 11, .int .i64 1, .agg #[.bool true, .slice aK af.length aI, .slice aJ ac.length aH]] ?_
     with_reducible refine (cpack_Right.calls k 11 1 true _ _ af _ _ ac aQ _ ?bg ?bh ?bq ?br A15.out).mono ?_
     (case bg=>exact yce (Kd.N_reads' aa.out).2.2)
     (case bh=>exact (Kd.N_reads' aa.out).2.1)
     (case bq=>exact yce (Kd.N_reads' ae.out).2.2)
     (case br=>exact (Kd.N_reads' ae.out).2.1)
     rintro e w84 ⟨rfl,hb⟩
     refine ⟨_,rfl, ?_⟩
     replace aa:=yNb aa hb
     replace ae:=yNb ae hb
     replace al:=yRb al hb
     replace ao:=yNb ao hb
     replace ap:=yNb ap hb
     replace aq:=yRb aq hb
     replace ay:=yNb ay hb
     replace az:=yNb az hb
     replace aA:=yNb aA hb
     replace bn:=yVb bn hb
     replace bo:=yVb bo hb
     replace bs:=yVb bs hb
     replace bu:=yVb bu hb
     replace bM:=yNb bM hb
     replace ag:=ybb ag hb
     replace am:=ybb am hb
     replace aC:=ybb aC hb
     replace HB:=ybs hb
     (try clear hb)
     refine hK.out _ _ yH (fun hHeld => ?_)
     clear hK K
     refine ym (some 71) ?_
     refine yp 37 72 HT_ ?_
     refine yp 38 0 HT_ ?_
     refine done_ (done_of HT_.out (by kernel_rfl)) ?_
     try go_wp2
     go_ret
     exact ⟨ye,yhb⟩
    rw [if_neg c14] at H
    obtain ⟨cW,cX⟩:=yF c14
    exact absurd H (by simp)
   rw [if_neg c10] at H
   obtain ⟨cU,cV⟩:=yF c10
   exact absurd H (by simp)
  rw [if_neg c5] at H
  obtain ⟨dD,dE⟩:=yF c5
  exact absurd H (by simp)
 rw [if_neg c4] at H
 obtain ⟨dB,dC⟩:=yF c4
 exact absurd H (by simp)
def r05_New.f  : Option (Int × List Int):=some (4294967295,(([0,0,0,0] : List Int)))
set_option maxHeartbeats 8000000 in
set_option maxRecDepth 100000 in
theorem r05_New.calls  (r1 : Int) (r2 : List Int) (w : World) (h : r05_New.f  = some (r1,r2)) :
  Calls Try.prog 36 #[] w fun e w' => ∃ v1_ : Value,e=.returned (.agg #[.int .u64 r1,v1_])∧Kd.R (Kd.int .i64) 3 w' w.heap.size (fun _=>True) v1_ r2∧Below w.heap.size w w' := by
 have hu69:=Try.underlying69;have HB:=zm (Below.refl w.heap.size w);have H:=h
 unfold r05_New.f at H
 clear h
 obtain ⟨ag,ac⟩ : ∃ y_ : List Int,y_=(([0,0,0,0] : List Int)):=⟨_,rfl⟩
 replace H : (some (4294967295,ag))=some (r1,r2):=yrw ac H
 have ae:=zm ac;clear ac
 simp only [Option.some.injEq,Prod.mk.injEq] at H
 obtain ⟨rfl,rfl⟩:=H
 go_enter Try.func36,Try.ntmps36
 go_wp2_with (first|((with_reducible refine gate_dst (N:=0) rfl ?_);refine ybx 0 #[.int .u64 0, .slice none 0 0] 69 ?_;intro ah hg w1 hbox hb;have aa:=zm (hbox);have ai:=ygw hg;have aj:=ygw hg;replace HB:=ybs hb;clear hb hbox hg)|((with_reducible refine gate_dst (N:=1) rfl ?_);refine Kd.R_lit (Kd.int .i64) _ 3 ?hg (N:=1) ?hd (xs:=([0,0,0,0] : List Int)) (inner := [.int .i64 0, .int .i64 0, .int .i64 0, .int .i64 0]) (ok:=fun _=>True) (okp:=fun _=>True) ?hr ?hp (fun _ hk=>hk) trivial (Below.refl _ _) (Nat.le_refl _) (by simp) ?_;(case hd=>rfl);(case hg=>rfl);(case hr=>first|(go_simp;done)|(go_simp;rfl));(case hp=>exact (Reps.one (show Kd.M (Kd.int .i64) _ _ _ 0 [.int .i64 0] from rfl) (Reps.one (show Kd.M (Kd.int .i64) _ _ _ 0 [.int .i64 0] from rfl) (Reps.one (show Kd.M (Kd.int .i64) _ _ _ 0 [.int .i64 0] from rfl) (Reps.one (show Kd.M (Kd.int .i64) _ _ _ 0 [.int .i64 0] from rfl) (Reps.none _ _))))));intro ak w2 ho3 hb hg_ hnew_;clear hg_ hnew_;(first|rw [← ae.out] at ho3|(simp only [Int.reduceToNat] at ho3;rw [← ae.out] at ho3));have af:=zm (Kd.R_lower ho3 (zE yhb));replace aa:=ybb aa hb;replace HB:=ybs hb;clear hb ho3;obtain ⟨Ao4,co4,eo4⟩:=Kd.R_slice af.out;subst eo4;obtain ⟨_,_,_,_⟩:=yc2 aa))
 refine bodyPost_ret (results_cell_row rfl _ _ ah 69 #[.int .u64 4294967295, .slice Ao4 ag.length co4] (0,0) _ rfl (ykp aa) Try.underlying69 rfl (by kernel_rfl)) rfl ?_
 exact ⟨_,ye,yR1 af aa,yhb⟩
def r05_Fair.f (a0 : Int) (a1 : Int) (a2 : Int) : Option (Bool):=if a0 ≥ 0 then (if a1 > a0 then (if a2 ≥ a1 then (some (decide (a2≤65536))) else (some false)) else (some false)) else (some false)
set_option maxHeartbeats 8000000 in
set_option maxRecDepth 100000 in
theorem r05_Fair.calls (a0 : Int) (a1 : Int) (a2 : Int) (r : Bool) (w : World) (h : r05_Fair.f a0 a1 a2=some r) :
  Calls Try.prog 77 #[.int .i64 a0, .int .i64 a1, .int .i64 a2] w fun e w' => e=.returned (.bool r)∧Drawn0 w w' := by
 have H:=h
 unfold r05_Fair.f at H
 clear h
 by_cases c4 : a0 ≥ 0
 ·
  rw [if_pos c4] at H
  have aa:=yDl c4
  clear c4
  by_cases c5 : a1 > a0
  ·
   rw [if_pos c5] at H
   have ac:=yDs c5
   clear c5
   by_cases c6 : a2 ≥ a1
   ·
    rw [if_pos c6] at H
    have ae:=yDl c6
    clear c6
    obtain rfl:=Option.some.inj H
    go_enter Try.func77,Try.ntmps77
    go_wp2
    go_ret
    exact ⟨yq,yd⟩
   rw [if_neg c6] at H
   have ae:=yGl c6
   clear c6
   obtain rfl:=Option.some.inj H
   go_enter Try.func77,Try.ntmps77
   go_wp2
   go_ret
   exact ⟨yq,yd⟩
  rw [if_neg c5] at H
  have ac:=yGs c5
  clear c5
  obtain rfl:=Option.some.inj H
  go_enter Try.func77,Try.ntmps77
  go_wp2
  go_ret
  exact ⟨yq,yd⟩
 rw [if_neg c4] at H
 have aa:=yGl c4
 clear c4
 obtain rfl:=Option.some.inj H
 go_enter Try.func77,Try.ntmps77
 go_wp2
 go_ret
 exact ⟨yq,yd⟩
def r05_add.l0 : Nat→Int→List Int→Int→Option (List Int)
 | 0,_,_,_=>none
 | k+1,x1,x5,x6=>if x6 ≥ 0 then (if 0≤x6 then (if x6 < (x5.length : Int) then (r05_add.l0 k (IntKind.u64.wrap (Int.tdiv (IntKind.u64.wrap (x1+(IntKind.u64.wrap (rd x5 x6)))) 256)) (x5.set (x6 : Int).toNat (wrap64 (Int.tmod (IntKind.u64.wrap (x1+(IntKind.u64.wrap (rd x5 x6)))) 256))) (wrap64 (x6 - 1))) else (none)) else (none)) else (some x5)
def r05_add.f (k : Nat) (l0 : List Int) (a1 : Int) : Option (List Int):=(some (([] : List Int) : List Int)).bind fun ah=>(if ah.length+l0.length < 17592186044416 then ((some (ah ++ l0 : List Int)).bind fun ae=>(r05_add.l0 k a1 ae (wrap64 ((ae.length : Int) - 1)))) else (none))
theorem r05_add.mono_l : ∀ k,(∀ y0 y1 y2,LeO (r05_add.l0 k y0 y1 y2) (r05_add.l0 (k+1) y0 y1 y2))
 | 0=>fun _ _ _ r h=>by simp [r05_add.l0] at h
 | k+1=>by
  have ih0:=r05_add.mono_l k
  ·
   intro y0 y1 y2
   unfold r05_add.l0
   repeat' with_reducible first|apply ih0|apply yLr|apply yLn|apply yLi|apply yLb|intro _
theorem r05_add.mono : ∀ a0 a1 k,LeO (r05_add.f k a0 a1) (r05_add.f (k+1) a0 a1):=by
 intro a0 a1 k
 have ih0:=r05_add.mono_l k
 unfold r05_add.f
 repeat' with_reducible first|apply ih0|apply yLr|apply yLn|apply yLi|apply yLb|intro _
set_option maxHeartbeats 8000000 in
set_option maxRecDepth 100000 in
theorem r05_add.calls (k : Nat) (A0 : Option Addr) (c0 : Nat) (l0 : List Int) (a1 : Int) (r : List Int) (w : World) (hr0 : Kd.C (Kd.int .i64) w A0 l0.length l0) (hc0 : l0.length≤c0) (h : r05_add.f k l0 a1=some r) :
  Calls Try.prog 79 #[.slice A0 l0.length c0, .int .u64 a1] w fun e w' => ∃ v0_ : Value,e=.returned (v0_)∧Kd.R (Kd.int .i64) 3 w' w.heap.size (fun _=>True) v0_ r∧Below w.heap.size w w' := by
 have HR0:=zm hr0;have HC0:=zm hc0;clear hr0 hc0;have HB:=zm (Below.refl w.heap.size w);have H:=h
 unfold r05_add.f at H
 clear h
 obtain ⟨ah,aj⟩ : ∃ y_ : List Int,y_=(([] : List Int)):=⟨_,rfl⟩
 replace H : (if ah.length+l0.length < 17592186044416 then ((some (ah ++ l0 : List Int)).bind fun ae=>(r05_add.l0 k a1 ae (wrap64 ((ae.length : Int) - 1)))) else (none))=some r:=yrw aj H
 have ao:=zm aj;clear aj
 obtain ⟨c3,H⟩:=yif H
 have LMc3:=zm c3;clear c3
 obtain ⟨ae,ak⟩ : ∃ y_ : List Int,y_=(ah ++ l0):=⟨_,rfl⟩
 replace H : (r05_add.l0 k a1 ae (wrap64 ((ae.length : Int) - 1)))=some r:=yrw ak H
 have az:=zm ak;clear ak
 have H' := zm H
 clear H
 go_enter Try.func79,Try.ntmps79
 go_wp2_with (first|((with_reducible refine gate_dst (N:=7) rfl ?_);refine Kd.R_lit (Kd.int .i64) _ 3 ?hg (N:=7) ?hd (xs:=([] : List Int)) (inner := []) (ok:=fun _=>True) (okp:=fun _=>True) ?hr ?hp (fun _ hk=>hk) trivial (Below.refl _ _) (Nat.le_refl _) (by simp) ?_;(case hd=>rfl);(case hg=>rfl);(case hr=>first|(go_simp;done)|(go_simp;rfl));(case hp=>exact (Reps.none _ _));intro aG w4 ho5 hb hg_ hnew_;clear hg_ hnew_;(first|rw [← ao.out] at ho5|(simp only [Int.reduceToNat] at ho5;rw [← ao.out] at ho5));have ap:=zm (Kd.R_lower ho5 (zE yhb));replace HB:=ybs hb;clear hb ho5)|((with_reducible refine gate_builtin (b:=.append) (xs := #[.tmp 7, .tmp 8]) rfl ?_);at_builtin;refine Kd.R_append_rows (Kd.int .i64) (w0:=w) w.heap.size rfl (.tmp 7) (.tmp 8) 49 3 (.int .i64 0) 8 rfl Try.underlying49 info3 rfl (by decide) (by omega) aG ah l0 _ _ _ (fun _=>True) (fun _=>False) rfl rfl ?aO ?aR (fun _ _ h=>h) (fun _ h=>h.elim) ?aF ?aB ?aS ?aL ?_;(case aR=>exact ycb HR0);(case aB=>exact yhb);(case aF=>exact (fun _ _=>trivial));(case aO=>exact (yr ap));(case aS=>exact (zE yhb));(case aL=>have:=LMc3.out;omega);intro aU w6 ho hb hg hat;rw [← az.out] at ho;replace HB:=zm (hb);have aq:=zm (ho);clear ap;clear ho hb hg hat;obtain ⟨Ao7,co7,eo7⟩:=Kd.R_slice aq.out;subst eo7))
 go_loopg [1,6] k (fun kq v1 v6 w' => ∃ (ag : Int) (ac : List Int) (aa : Int),v1=.int .u64 ag∧v6=.int .i64 aa∧Aside0 (r05_add.l0 kq ag ac aa=some r)∧Aside0 (kq≤k)∧Aside0 (Kd.R (Kd.int .i64) 3 w' w.heap.size (fun _=>True) (.slice Ao7 ae.length co7) ac)∧Aside0 (Below w.heap.size w w'))
 case atStart=>exact ⟨(a1),(ae),(wrap64 ((ae.length : Int) - 1)),yq,yq,H',⟨Nat.le_refl _⟩,⟨yr aq⟩,⟨yhb⟩⟩
 case round =>
  clear H'
  obtain ⟨ag,ac,aa,rfl,rfl,HA,HK1,af,HB⟩:=hrel
  have ai:=(Kd.R_reads' af.out).1
  rw [ai] at af
  (try simp only [ai])
  obtain ⟨k1,rfl⟩:=ysu gk (fun h=>by subst h;exact absurd HA.out (by simp [r05_add.l0]))
  have H:=HA.out;clear HA
  simp only [r05_add.l0] at H
  by_cases c8 : aa ≥ 0
  ·
   rw [if_pos c8] at H
   have aH:=yDl c8
   clear c8
   obtain ⟨c9,H⟩:=yif H
   have aV : decide (0≤aa)=true:=decide_eq_true c9
   clear c9
   obtain ⟨c10,H⟩:=yif H
   have aQ : decide (aa < (ac.length : Int))=true:=decide_eq_true c10
   clear c10
   obtain ⟨au,al⟩ : ∃ y_ : List Int,y_=(ac.set (aa : Int).toNat (wrap64 (Int.tmod (IntKind.u64.wrap (ag+(IntKind.u64.wrap (rd ac aa)))) 256))):=⟨_,rfl⟩
   replace H : (r05_add.l0 k1 (IntKind.u64.wrap (Int.tdiv (IntKind.u64.wrap (ag+(IntKind.u64.wrap (rd ac aa)))) 256)) au (wrap64 (aa - 1)))=some r:=yrw al H
   have aA:=zm al;clear al
   have H' := zm H
   clear H
   have av : 0≤(aa : Int):=yt
   have aw : aa < (ac.length : Int):=yt
   obtain ⟨aT,aI,am⟩:=Kd.at_int (Kd.R_reads' af.out).2.2 aa av aw
   cases aI
   replace av:=eq_true av
   replace aw:=eq_true aw
   have p11 : 0≤(aa : Int):=yt
   have q11 : (aa : Int) < ((ac.length : Int) : Int):=yt
   obtain ⟨ax,aW,aC,aD,aJ,aX,aE⟩:=Kd.R_form af.out (by omega)
   (first|cases aC|(injection aC with ea_ en_ ec_;(first|subst ea_|(injection ea_ with ea_;subst ea_));subst ec_;clear en_))
   have aK:=zm aD;have aY:=zm aE;clear aD aJ aE
   (first|simp only [add_plain] at am|skip)
   obtain ⟨aM,aN⟩:=Kd.R_celln 0 af.out (aa : Int) p11 q11
   replace p11:=eq_true p11
   replace q11:=eq_true q11
   have ay:=Kd.R_putg af.out (aa : Int) (wrap64 (Int.tmod (IntKind.u64.wrap (ag+(IntKind.u64.wrap (rd ac aa)))) 256))
   go_wp2_with (first|((with_reducible refine gate_store (t:=3) (p:=29) rfl ?_);refine store_event (t:=3) (p:=29) (v := ?vo_w13) (w1:=(wr.setCell ⟨ax,(aa : Int).toNat,none⟩ (.int .i64 (wrap64 (Int.tmod (IntKind.u64.wrap (ag+(IntKind.u64.wrap (rd ac aa)))) 256))))) ?hg ?ho ?hn ?hr ?_;(case ho=>rfl);(case hg=>rfl);(case hn=>rfl);(case hr=>first|(go_simp;done)|(go_simp;rfl));intro w13 hw;have hg : wr.grownBy w13 (some ax):=(by rw [hw];exact ay.2);have hp_ : Kd.R (Kd.int .i64) 3 w13 w.heap.size (fun _=>True) (.slice (some ⟨ax,0,none⟩) ac.length co7) au:=(by rw [hw,aA.out];exact ay.1);clear ay;replace af:=zm (hp_);replace HB:=zm ((by rw [hw];exact zk (HB.out) aK.out : Below w.heap.size w w13));clear hg hw hp_))
   (try simp only [← ai])
   go_roundg k1
   case measure=>exact yom1 HK1
   case rel=>exact ⟨(IntKind.u64.wrap (Int.tdiv (IntKind.u64.wrap (ag+(IntKind.u64.wrap (rd ac aa)))) 256)),(au),(wrap64 (aa - 1)),yq,yq,H',⟨yom1 HK1⟩,⟨by (try simp only [ai]);(with_reducible repeat (first|apply zo|apply zp|apply zq));exact af.out⟩,⟨yhb⟩⟩
  rw [if_neg c8] at H
  have aH:=yGl c8
  clear c8
  obtain rfl:=Option.some.inj H
  go_wp2
  go_ret
  exact ⟨_,ye,yr af,yhb⟩
def r05_part.f (a0 : Int) (a1 : Int) (a2 : Int) (a3 : Int) : Option (Int × Int):=if (IntKind.u64.wrap (a3))=0 then (none) else (if a2=a3 then (some (IntKind.u64.wrap (a0 - (IntKind.u64.wrap ((IntKind.u64.wrap (Int.tdiv a0 (IntKind.u64.wrap (a3)))) * (IntKind.u64.wrap (a1))))),IntKind.u64.wrap ((IntKind.u64.wrap (Int.tdiv a0 (IntKind.u64.wrap (a3)))) * (IntKind.u64.wrap (a1))))) else (some (IntKind.u64.wrap ((IntKind.u64.wrap (Int.tdiv a0 (IntKind.u64.wrap (a3)))) * (IntKind.u64.wrap (wrap64 (a2 - a1)))),IntKind.u64.wrap ((IntKind.u64.wrap (Int.tdiv a0 (IntKind.u64.wrap (a3)))) * (IntKind.u64.wrap (a1))))))
set_option maxHeartbeats 8000000 in
set_option maxRecDepth 100000 in
theorem r05_part.calls (a0 : Int) (a1 : Int) (a2 : Int) (a3 : Int) (r1 : Int) (r2 : Int) (w : World) (h : r05_part.f a0 a1 a2 a3=some (r1,r2)) :
  Calls Try.prog 78 #[.int .u64 a0, .int .i64 a1, .int .i64 a2, .int .i64 a3] w fun e w' => e=.returned (.tuple #[.int .u64 r1, .int .u64 r2])∧Drawn0 w w' := by
 have H:=h
 unfold r05_part.f at H
 clear h
 obtain ⟨c5,H⟩:=yie H
 obtain ⟨ae,af⟩:=yF c5
 by_cases c6 : a2=a3
 ·
  rw [if_pos c6] at H
  obtain ⟨aa,ac⟩:=yE c6
  clear c6
  simp only [Option.some.injEq,Prod.mk.injEq] at H
  obtain ⟨rfl,rfl⟩:=H
  go_enter Try.func78,Try.ntmps78
  go_wp2
  go_ret2
  exact ⟨yq,yd⟩
 rw [if_neg c6] at H
 obtain ⟨aa,ac⟩:=yF c6
 simp only [Option.some.injEq,Prod.mk.injEq] at H
 obtain ⟨rfl,rfl⟩:=H
 go_enter Try.func78,Try.ntmps78
 go_wp2
 go_ret2
 exact ⟨yq,yd⟩
def r05_Put.l0 : Nat→Int→List Int→Option (Int × List Int × Int)
 | 0,_,_=>none
 | k+1,aA,aC=>if aA < 16777216 then (if aC.length < 17592186044416 then (r05_Put.l0 k (IntKind.u64.wrap (aA * 256)) (aC ++ [0])) else (none)) else (some (aA,aC,0))
def r05_Put.f (k : Nat) (ap : Int) (ai : List Int) (a1 : Int) (a2 : Int) (a3 : Int) : Option (Int × List Int × Int):=(r05_Fair.f a1 a2 a3).bind fun bn=>(if bn=true then (if (ai.length : Int) ≥ 4000 then (some (ap,ai,3)) else ((r05_part.f ap a1 a2 a3).bind fun bh=>((r05_add.f k ai bh.2).bind fun aI=>(r05_Put.l0 k bh.1 aI)))) else (some (ap,ai,1)))
theorem r05_Put.mono_l : ∀ k,(∀ y0 y1,LeO (r05_Put.l0 k y0 y1) (r05_Put.l0 (k+1) y0 y1))
 | 0=>fun _ _ r h=>by simp [r05_Put.l0] at h
 | k+1=>by
  have ih0:=r05_Put.mono_l k
  ·
   intro y0 y1
   unfold r05_Put.l0
   repeat' with_reducible first|apply ih0|apply r05_add.mono|apply yLr|apply yLn|apply yLi|apply yLb|intro _
theorem r05_Put.mono : ∀ a0 a1 a2 a3 a4 k,LeO (r05_Put.f k a0 a1 a2 a3 a4) (r05_Put.f (k+1) a0 a1 a2 a3 a4):=by
 intro a0 a1 a2 a3 a4 k
 have ih0:=r05_Put.mono_l k
 unfold r05_Put.f
 repeat' with_reducible first|apply ih0|apply r05_add.mono|apply yLr|apply yLn|apply yLi|apply yLb|intro _
set_option maxHeartbeats 8000000 in
set_option maxRecDepth 100000 in
theorem r05_Put.calls (k : Nat) (ap : Int) (aD : Nat→Prop) (ay : Option Addr) (az : Nat) (ai : List Int) (a1 : Int) (a2 : Int) (a3 : Int) (r1 : Int) (r2 : List Int) (r3 : Int) (w : World) (bq : Kd.V (Kd.int .i64) 3 w w.heap.size (fun k_=>aD k_) (.slice ay ai.length az) ai) (h : r05_Put.f k ap ai a1 a2 a3=some (r1,r2,r3)) :
  Calls Try.prog 37 #[.agg #[.int .u64 ap, .slice ay ai.length az], .int .i64 a1, .int .i64 a2, .int .i64 a3] w fun e w' => ∃ v1_ : Value,e=.returned (.tuple #[.agg #[.int .u64 r1,v1_], .int .i64 r3])∧Kd.V (Kd.int .i64) 3 w' w.heap.size (fun k_=>(aD k_∨w.heap.size≤k_)) v1_ r2∧Below w.heap.size w w' := by
 have hu69:=Try.underlying69
 have ac:=zm (show Kd.V (Kd.int .i64) 3 w w.heap.size (fun k_=>(aD k_∨w.heap.size≤k_)) (.slice ay ai.length az) ai from zy bq (fun k_ hk => .inl hk))
 have HB:=zm (Below.refl w.heap.size w);have H:=h
 unfold r05_Put.f at H
 clear h
 obtain ⟨bn,A5,H⟩:=ybi H
 by_cases c6 : bn=true
 ·
  subst c6
  rw [if_pos rfl] at H
  by_cases c7 : (ai.length : Int) ≥ 4000
  ·
   rw [if_pos c7] at H
   have br:=yDl c7
   have bs : decide (4000≤ai.length)=true:=decide_eq_true (by omega)
   clear c7
   simp only [Option.some.injEq,Prod.mk.injEq] at H
   obtain ⟨rfl,rfl,rfl⟩:=H
   go_enter Try.func37,Try.ntmps37
   go_wp2_with (first|((with_reducible refine gate_dst (N:=4) rfl ?_);refine ybx 4 #[.int .u64 ap, .slice ay ai.length az] 69 ?_;intro aE hg w8 hbox hb;replace ac:=yVe ac hg hb;have aa:=zm (hbox);have bi:=ygw hg;have bj:=ygw hg;replace HB:=ybs hb;clear hb hbox hg)|((with_reducible refine gate_dst (N:=8) rfl ?_);refine ybx 8 #[.int .u64 0, .slice none 0 0] 69 ?_;intro ao hg w9 hbox hb;replace ac:=yVe ac hg hb;have ae:=zm (hbox);have bk:=ygw hg;have bl:=ygw hg;replace HB:=ybs hb;have aj:=ynl aa hg;have ak:=yng aa hg;replace aa:=ybb aa hb;clear hb hbox hg)|((with_reducible refine gate_callee (f:=77) rfl ?_);refine ygl 16 Try.func77 #[.int .i64 a1, .int .i64 a2, .int .i64 a3] ?_;(with_reducible refine (r05_Fair.calls a1 a2 a3 true _ A5.out).mono ?_);rintro e w' ⟨rfl,⟨nd,rfl⟩⟩;refine ⟨_,rfl, ?_⟩;(try (rw [drewN_self w9];generalize hq_ : World.drewN w9 _=w9;replace ac:=yVq hq_ ac;replace aa:=ykq hq_ aa;replace ae:=ykq hq_ ae;replace HB:=ysq hq_;clear hq_));have:=aj.out;have:=ak.out;obtain ⟨aK,aM,aN,aQ⟩:=yc2 aa;obtain ⟨aT,aU,aV,aW⟩:=yc2 ae))
   refine bodyPost_ret (results_ct rfl _ _ ao 69 #[.int .u64 ap, .slice ay ai.length az] (0,0) _ rfl (ykp ae) Try.underlying69 rfl (by kernel_rfl)) rfl ?_
   exact ⟨_,ye,yV0 ac,yhb⟩
  rw [if_neg c7] at H
  have br:=yGl c7
  have bs : decide (4000≤ai.length)=false:=decide_eq_false (by omega)
  clear c7
  obtain ⟨⟨bu,bo⟩,A13,H⟩:=ybi H
  try dsimp only at H
  obtain ⟨aI,A14,H⟩:=ybi H
  have H' := zm H
  clear H
  go_enter Try.func37,Try.ntmps37
  go_wp2_with (first|((with_reducible refine gate_dst (N:=4) rfl ?_);refine ybx 4 #[.int .u64 ap, .slice ay ai.length az] 69 ?_;intro aE hg w15 hbox hb;replace ac:=yVe ac hg hb;have aa:=zm (hbox);have bi:=ygw hg;have bj:=ygw hg;replace HB:=ybs hb;clear hb hbox hg)|((with_reducible refine gate_dst (N:=8) rfl ?_);refine ybx 8 #[.int .u64 0, .slice none 0 0] 69 ?_;intro ao hg w16 hbox hb;replace ac:=yVe ac hg hb;have ae:=zm (hbox);have bk:=ygw hg;have bl:=ygw hg;replace HB:=ybs hb;have aj:=ynl aa hg;have ak:=yng aa hg;replace aa:=ybb aa hb;clear hb hbox hg)|((with_reducible refine gate_callee (f:=77) rfl ?_);refine ygl 16 Try.func77 #[.int .i64 a1, .int .i64 a2, .int .i64 a3] ?_;(with_reducible refine (r05_Fair.calls a1 a2 a3 true _ A5.out).mono ?_);rintro e w' ⟨rfl,⟨nd,rfl⟩⟩;refine ⟨_,rfl, ?_⟩;(try (rw [drewN_self w16];generalize hq_ : World.drewN w16 _=w16;replace ac:=yVq hq_ ac;replace aa:=ykq hq_ aa;replace ae:=ykq hq_ ae;replace HB:=ysq hq_;clear hq_));have:=aj.out;have:=ak.out;obtain ⟨aX,aY,aZ,a7⟩:=yc2 aa)|((with_reducible refine gate_callee (f:=78) rfl ?_);refine ygl 30 Try.func78 #[.int .u64 ap, .int .i64 a1, .int .i64 a2, .int .i64 a3] ?_;(with_reducible refine (r05_part.calls ap a1 a2 a3 bu bo _ A13.out).mono ?_);rintro e w' ⟨rfl,⟨nd,rfl⟩⟩;refine ⟨_,rfl, ?_⟩;(try (rw [drewN_self w16];generalize hq_ : World.drewN w16 _=w16;replace ac:=yVq hq_ ac;replace aa:=ykq hq_ aa;replace ae:=ykq hq_ ae;replace HB:=ysq hq_;clear hq_));obtain ⟨a8,a9,ba,bb⟩:=yc2 aa)|((with_reducible refine gate_callee (f:=79) rfl ?_);refine ygl 37 Try.func79 #[.slice ay ai.length az, .int .u64 bo] ?_;(with_reducible refine (r05_add.calls k _ _ ai bo aI _ ?bv ?bw A14.out).mono ?_);(case bv=>exact yce (Kd.V_reads' ac.out).2.2);(case bw=>exact (Kd.V_reads' ac.out).2.1);rintro e w20 ⟨bL,rfl,ho0,hb⟩;refine ⟨_,rfl, ?_⟩;replace ac:=zm (Kd.V_elder' (yr ac) (Kd.R_base ho0) hb);have aG:=zm (Kd.R_lower (Kd.R_newM (M:=fun k_=>(w.heap.size≤k_)) ho0 (zE yhb) (fun k_ h_=>h_)) (zE yhb));replace aa:=ybb aa hb;replace ae:=ybb ae hb;replace HB:=ybs hb;(try clear hb);(try clear ho0);obtain ⟨bC,bD,bE⟩:=Kd.R_slice aG.out;subst bE)|((with_reducible refine gate_dst (N:=12) rfl ?_);refine ybx 12 #[.int .u64 0, .slice none 0 0] 69 ?_;intro aH hg w22 hbox hb;replace ac:=yVe ac hg hb;replace aG:=yRb aG hb;have al:=zm (hbox);have bJ:=ygw hg;have bK:=ygw hg;replace HB:=ybs hb;have aq:=ynl aa hg;have au:=yng aa hg;replace aa:=ybb aa hb;have av:=ynl ae hg;have aw:=yng ae hg;replace ae:=ybb ae hb;clear hb hbox hg;have:=au.out;have:=aq.out;have:=aw.out;have:=av.out;obtain ⟨bc,bd,bf,bg⟩:=yc2 al))
  go_loopg [] k (fun kq w' => ∃ (af : Int) (ag : List Int) (am : Value),Aside0 (r05_Put.l0 kq af ag=some (r1,r2,r3))∧Aside0 (kq≤k)∧Aside0 (Kd.V (Kd.int .i64) 3 w' w.heap.size (fun k_=>(aD k_∨w.heap.size≤k_)∧some k_≠(am : Value).ownBlock∧k_≠aE∧k_≠ao∧k_≠aH) (.slice ay ai.length az) ai)∧Aside0 (Kd.R (Kd.int .i64) 3 w' w.heap.size (fun k_=>(w.heap.size≤k_)) am ag)∧Aside0 (w'.heap[aE]? = some (.cells #[.int .u64 ap,(.slice ay ai.length az)] 69 (0,0)))∧Aside0 (w'.heap[ao]? = some (.cells #[.int .u64 0,(.slice none 0 0)] 69 (0,0)))∧Aside0 (w'.heap[aH]? = some (.cells #[.int .u64 af,am] 69 (0,0)))∧Aside0 (Below w.heap.size w w'))
  case atStart=>exact ⟨(bu),(aI),(.slice bC aI.length bD),H',⟨Nat.le_refl _⟩,⟨yV0 ac⟩,⟨yR1 aG al⟩,⟨yk aa⟩,⟨yk ae⟩,⟨ykp al⟩,⟨yhb⟩⟩
  case round =>
   clear H'
   try clear br
   try clear bs
   try clear aK
   try clear aM
   try clear aT
   try clear aU
   try clear aX
   try clear aY
   try clear a8
   try clear a9
   try clear bc
   try clear bd
   try clear aN
   try clear aQ
   try clear aV
   try clear aW
   try clear aZ
   try clear a7
   try clear ba
   try clear bb
   try clear bf
   try clear bg
   obtain ⟨af,ag,am,HA,HK1,ax,ah,aa,ae,al,HB⟩:=hrel
   obtain ⟨k1,rfl⟩:=ysu gk (fun h=>by subst h;exact absurd HA.out (by simp [r05_Put.l0]))
   have H:=HA.out;clear HA
   simp only [r05_Put.l0] at H
   by_cases c26 : af < 16777216
   ·
    rw [if_pos c26] at H
    have bx:=yD c26
    clear c26
    obtain ⟨c27,H⟩:=yif H
    have LMc27:=zm c27;clear c27
    obtain ⟨bp,aJ⟩ : ∃ y_ : List Int,y_=(ag ++ [0]):=⟨_,rfl⟩
    replace H : (r05_Put.l0 k1 (IntKind.u64.wrap (af * 256)) bp)=some (r1,r2,r3):=yrw aJ H
    have bz:=zm aJ;clear aJ
    have H' := zm H
    clear H
    have:=au.out
    have:=aq.out
    have:=aw.out
    have:=av.out
    obtain ⟨_,_,_,_⟩:=yc2 al
    go_wp2_with (first|((with_reducible refine gate_builtin (b:=.append) (xs := #[.tmp 47, .tmp 48]) rfl ?_);at_builtin;refine Kd.R_append (Kd.int .i64) (w0:=w) w.heap.size rfl (.tmp 47) (.tmp 48) 49 3 (.int .i64 0) 8 rfl Try.underlying49 info3 rfl (by decide) (by omega) am ag 0 [.int .i64 0] (fun k_=>(w.heap.size≤k_)) (fun _=>False) rfl (by first|(go_simp;done)|(go_simp;rfl)) ?aP (fun _ hk=>hk.elim) ?aF ?aO ?aB ?aS ?aL ?_;(case aP=>exact rfl);(case aB=>exact yhb);(case aF=>exact (fun k_ hk=>(Nat.le_trans (zE yhb) hk)));(case aO=>exact (yR1 ah al));(case aS=>exact (zE yhb));(case aL=>have:=LMc27.out;omega);intro bM w31 ho hb hg hat;rw [← bz.out] at ho;replace ax:=zm (Kd.V_afterv (ok:=(fun k_=>(aD k_∨w.heap.size≤k_)∧k_≠aE∧k_≠ao∧k_≠aH)) (yV0 ax) hg hat);replace aa:=zm (blk_grown (yk aa) hg (zu ah.out aa.out (by decide)));replace ae:=zm (blk_grown (yk ae) hg (zu ah.out ae.out (by decide)));replace al:=zm (blk_grown (g:=aH) (o:=.cells #[.int .u64 (IntKind.u64.wrap (af * 256)),am] 69 (0,0)) (ykp al) hg (zu ah.out al.out (by decide)));replace HB:=zm (hb);have bm:=zm (ho);clear ah;clear ho hb hg hat;obtain ⟨bF,bG,bH⟩:=Kd.R_slice bm.out;subst bH;obtain ⟨_,_,_,_⟩:=yc2 al))
    go_roundg k1
    case measure=>exact yom1 HK1
    case rel=>exact ⟨(IntKind.u64.wrap (af * 256)),(bp),(.slice bF bp.length bG),H',⟨yom1 HK1⟩,⟨yV0 ax⟩,⟨yR1 bm al⟩,⟨yk aa⟩,⟨yk ae⟩,⟨ykp al⟩,⟨yhb⟩⟩
   rw [if_neg c26] at H
   have bx:=yG c26
   clear c26
   simp only [Option.some.injEq,Prod.mk.injEq] at H
   obtain ⟨rfl,rfl,rfl⟩:=H
   have:=au.out
   have:=aq.out
   have:=aw.out
   have:=av.out
   obtain ⟨_,_,_,_⟩:=yc2 al
   have:=ak.out
   have:=aj.out
   obtain ⟨_,_,_,_⟩:=yc2 ae
   obtain ⟨bA,bB,bI⟩:=Kd.R_slice ah.out
   subst bI
   go_wp2
   refine bodyPost_ret (results_ct rfl _ _ ao 69 #[.int .u64 af, .slice bA ag.length bB] (0,0) _ rfl (ykp ae) Try.underlying69 rfl (by kernel_rfl)) rfl ?_
   exact ⟨_,ye,zy (Kd.R_V (by (with_reducible repeat (first|apply zo|apply zp|apply zq));exact zG (zH (p:=⟨ao,1,none⟩) (zH (p:=⟨ao,0,none⟩) (Kd.R_types ah.out ae.out (by decide)) (fun _ hk=>hk.2) (.int .u64 af)) (fun _ hk=>hk.2) (.slice bA ag.length bB)) (fun _ hk=>(by first|exact hk.1|(have h_:=hk;(try simp only [and_assoc] at h_);first|exact h_.1|exact h_.2|exact h_.2.1|exact h_.2.2|exact h_.2.2.1|exact h_.2.2.2|exact h_.2.2.2.1|exact h_.2.2.2.2))))) (fun k_ hk=>by first|exact ⟨(.inr (hk.1)),hk.2⟩|exact (.inr (hk))),yhb⟩
 replace c6:=Bool.eq_false_iff.mpr c6
 subst c6
 rw [ynf] at H
 simp only [Option.some.injEq,Prod.mk.injEq] at H
 obtain ⟨rfl,rfl,rfl⟩:=H
 go_enter Try.func37,Try.ntmps37
 go_wp2_with (first|((with_reducible refine gate_dst (N:=4) rfl ?_);refine ybx 4 #[.int .u64 ap, .slice ay ai.length az] 69 ?_;intro aE hg w40 hbox hb;replace ac:=yVe ac hg hb;have aa:=zm (hbox);have bi:=ygw hg;have bj:=ygw hg;replace HB:=ybs hb;clear hb hbox hg)|((with_reducible refine gate_dst (N:=8) rfl ?_);refine ybx 8 #[.int .u64 0, .slice none 0 0] 69 ?_;intro ao hg w41 hbox hb;replace ac:=yVe ac hg hb;have ae:=zm (hbox);have bk:=ygw hg;have bl:=ygw hg;replace HB:=ybs hb;have aj:=ynl aa hg;have ak:=yng aa hg;replace aa:=ybb aa hb;clear hb hbox hg)|((with_reducible refine gate_callee (f:=77) rfl ?_);refine ygl 16 Try.func77 #[.int .i64 a1, .int .i64 a2, .int .i64 a3] ?_;(with_reducible refine (r05_Fair.calls a1 a2 a3 false _ A5.out).mono ?_);rintro e w' ⟨rfl,⟨nd,rfl⟩⟩;refine ⟨_,rfl, ?_⟩;(try (rw [drewN_self w41];generalize hq_ : World.drewN w41 _=w41;replace ac:=yVq hq_ ac;replace aa:=ykq hq_ aa;replace ae:=ykq hq_ ae;replace HB:=ysq hq_;clear hq_));have:=aj.out;have:=ak.out;obtain ⟨_,_,_,_⟩:=yc2 aa;obtain ⟨_,_,_,_⟩:=yc2 ae))
 refine bodyPost_ret (results_ct rfl _ _ ao 69 #[.int .u64 ap, .slice ay ai.length az] (0,0) _ rfl (ykp ae) Try.underlying69 rfl (by kernel_rfl)) rfl ?_
 exact ⟨_,ye,yV0 ac,yhb⟩
def r05_PutNum.j0 : Nat→Int→Int→Bool→Int→List Int→Option (Int × List Int × Int)
 | 0,_,_,_,_,_=>none
 | k+1,x1,x2,x22,aA,aC=>if x22=true then (some (aA,aC,1)) else (if x2≤65536 then ((r05_Put.f k aA aC (wrap64 (x1)) (wrap64 ((wrap64 (x1))+1)) (wrap64 (x2))).bind fun aV=>(some (aV.1,aV.2.1,aV.2.2))) else ((r05_Put.f k aA aC (wrap64 (IntKind.u64.wrap (Int.tdiv x1 65536))) (wrap64 ((wrap64 (IntKind.u64.wrap (Int.tdiv x1 65536)))+1)) (wrap64 ((wrap64 (IntKind.u64.wrap (Int.tdiv (IntKind.u64.wrap (x2 - 1)) 65536)))+1))).bind fun aQ=>(if aQ.2.2=0 then ((r05_Put.f k aQ.1 aQ.2.1 (wrap64 (Int.tmod x1 65536)) (wrap64 ((wrap64 (Int.tmod x1 65536))+1)) 65536).bind fun aT=>(if aT.2.2=0 then (some (aT.1,aT.2.1,0)) else (some (aA,aC,aT.2.2)))) else (some (aA,aC,aQ.2.2)))))
def r05_PutNum.f (k : Nat) (am : Int) (ai : List Int) (a1 : Int) (a2 : Int) : Option (Int × List Int × Int):=if a2=0 then (r05_PutNum.j0 k a1 a2 true am ai) else (if a2 > 4294967296 then (r05_PutNum.j0 k a1 a2 true am ai) else (r05_PutNum.j0 k a1 a2 (decide (a1 ≥ a2)) am ai))
theorem r05_PutNum.mono_l : ∀ k,(∀ y0 y1 y2 y3 y4,LeO (r05_PutNum.j0 k y0 y1 y2 y3 y4) (r05_PutNum.j0 (k+1) y0 y1 y2 y3 y4))
 | 0=>fun _ _ _ _ _ r h=>by simp [r05_PutNum.j0] at h
 | k+1=>by
  have ih0:=r05_PutNum.mono_l k
  ·
   intro y0 y1 y2 y3 y4
   unfold r05_PutNum.j0
   repeat' with_reducible first|apply ih0|apply r05_Put.mono|apply yLr|apply yLn|apply yLi|apply yLb|intro _
theorem r05_PutNum.mono : ∀ a0 a1 a2 a3 k,LeO (r05_PutNum.f k a0 a1 a2 a3) (r05_PutNum.f (k+1) a0 a1 a2 a3):=by
 intro a0 a1 a2 a3 k
 have ih0:=r05_PutNum.mono_l k
 unfold r05_PutNum.f
 repeat' with_reducible first|apply ih0|apply r05_Put.mono|apply yLr|apply yLn|apply yLi|apply yLb|intro _
set_option maxHeartbeats 8000000 in
set_option maxRecDepth 100000 in
theorem r05_PutNum.calls (k : Nat) (am : Int) (aj : Nat→Prop) (ax : Option Addr) (ay : Nat) (ai : List Int) (a1 : Int) (a2 : Int) (r1 : Int) (r2 : List Int) (r3 : Int) (w : World) (bh : Kd.V (Kd.int .i64) 3 w w.heap.size (fun k_=>aj k_) (.slice ax ai.length ay) ai) (h : r05_PutNum.f k am ai a1 a2=some (r1,r2,r3)) :
  Calls Try.prog 41 #[.agg #[.int .u64 am, .slice ax ai.length ay], .int .u64 a1, .int .u64 a2] w fun e w' => ∃ v1_ : Value,e=.returned (.tuple #[.agg #[.int .u64 r1,v1_], .int .i64 r3])∧Kd.V (Kd.int .i64) 3 w' w.heap.size (fun k_=>(aj k_∨w.heap.size≤k_)) v1_ r2∧Below w.heap.size w w' := by
 have hu69:=Try.underlying69
 have aM:=zm (show Kd.V (Kd.int .i64) 3 w w.heap.size (fun k_=>(aj k_∨w.heap.size≤k_)) (.slice ax ai.length ay) ai from zy bh (fun k_ hk => .inl hk))
 have HB:=zm (Below.refl w.heap.size w);have H:=h
 unfold r05_PutNum.f at H
 clear h;have HC4:=zm H;clear H
 go_enter Try.func41,Try.ntmps41
 go_upto_region 1 with (first|((with_reducible refine gate_dst (N:=3) rfl ?_);refine ybx 3 #[.int .u64 am, .slice ax ai.length ay] 69 ?_;intro ak hg w5 hbox hb;replace aM:=yVe aM hg hb;have ac:=zm (hbox);have bJ:=ygw hg;have bK:=ygw hg;replace HB:=ybs hb;clear hb hbox hg)|((with_reducible refine gate_dst (N:=6) rfl ?_);refine ybx 6 #[.int .u64 0, .slice none 0 0] 69 ?_;intro af hg w6 hbox hb;replace aM:=yVe aM hg hb;have ae:=zm (hbox);have bL:=ygw hg;have bM:=ygw hg;replace HB:=ybs hb;have ao:=ynl ac hg;have ap:=yng ac hg;replace ac:=ybb ac hb;clear hb hbox hg))
 (try simp only [Act.put,List.setIfInBounds_toArray,List.set_cons_zero,List.set_cons_succ])
 go_cut [22] (fun v22 wc => ∃ (kq : Nat) (aU : Bool),v22=.bool aU∧Aside0 (r05_PutNum.j0 kq a1 a2 aU am ai=some (r1,r2,r3))∧Aside0 (kq≤k)∧Aside0 (Kd.V (Kd.int .i64) 3 wc w.heap.size (fun k_=>(aj k_∨w.heap.size≤k_)∧k_≠ak∧k_≠af) (.slice ax ai.length ay) ai)∧Aside0 (wc.heap[ak]? = some (.cells #[.int .u64 am,(.slice ax ai.length ay)] 69 (0,0)))∧Aside0 (wc.heap[af]? = some (.cells #[.int .u64 0,(.slice none 0 0)] 69 (0,0)))∧Aside0 (Below w.heap.size w wc))
 case first =>
  have H:=HC4.out;clear HC4
  by_cases c7 : a2=0
  ·
   rw [if_pos c7] at H
   obtain ⟨aW,bu⟩:=yE c7
   clear c7
   (first|rw [aW]|(simp only [i64_w,i32_w];rw [aW])|skip)
   have H' := zm H
   clear H
   go_wp2
   go_meet
   case rel=>exact ⟨_,(true),yq,H',⟨yo⟩,⟨yV0 aM⟩,⟨yk ac⟩,⟨yk ae⟩,⟨yhb⟩⟩
  rw [if_neg c7] at H
  obtain ⟨aW,bu⟩:=yF c7
  (first|rw [aW]|(simp only [i64_w,i32_w];rw [aW])|skip)
  by_cases c8 : a2 > 4294967296
  ·
   rw [if_pos c8] at H
   have bv:=yDs c8
   clear c8
   have H' := zm H
   clear H
   go_wp2
   go_meet
   case rel=>exact ⟨_,(true),yq,H',⟨yo⟩,⟨yV0 aM⟩,⟨yk ac⟩,⟨yk ae⟩,⟨yhb⟩⟩
  rw [if_neg c8] at H
  have bv:=yGs c8
  clear c8
  have H' := zm H
  clear H
  go_wp2
  go_meet
  case rel=>exact ⟨_,(decide (a1 ≥ a2)),yq,H',⟨yo⟩,⟨yV0 aM⟩,⟨yk ac⟩,⟨yk ae⟩,⟨yhb⟩⟩
 case rest =>
  clear HC4
  obtain ⟨kq,aU,rfl,HA,HJ3,aa,ac,ae,HB⟩:=hcut
  obtain ⟨kj3,rfl⟩:=ysu kq (fun h=>by subst h;exact absurd HA.out (by simp [r05_PutNum.j0]))
  have H:=HA.out;clear HA
  simp only [r05_PutNum.j0] at H
  by_cases c9 : aU=true
  ·
   subst c9
   rw [if_pos rfl] at H
   simp only [Option.some.injEq,Prod.mk.injEq] at H
   obtain ⟨rfl,rfl,rfl⟩:=H
   have:=ao.out
   have:=ap.out
   obtain ⟨_,_,_,_⟩:=yc2 ac
   obtain ⟨_,_,_,_⟩:=yc2 ae
   go_wp2
   refine bodyPost_ret (results_ct rfl _ _ af 69 #[.int .u64 am, .slice ax ai.length ay] (0,0) _ rfl (ykp ae) Try.underlying69 rfl (by kernel_rfl)) rfl ?_
   exact ⟨_,ye,yV0 aa,yhb⟩
  replace c9:=Bool.eq_false_iff.mpr c9
  subst c9
  rw [ynf] at H
  by_cases c13 : a2≤65536
  ·
   rw [if_pos c13] at H
   have bi:=yD c13
   clear c13
   obtain ⟨⟨bj,bk,bw⟩,A14,H⟩:=ybi H
   try dsimp only at H
   simp only [Option.some.injEq,Prod.mk.injEq] at H
   obtain ⟨rfl,rfl,rfl⟩:=H
   have:=ao.out
   have:=ap.out
   obtain ⟨_,_,_,_⟩:=yc2 ac
   go_wp2_with (first|((with_reducible refine gate_callee (f:=37) rfl ?_);refine ygl 34 Try.func37 #[.agg #[.int .u64 am, .slice ax ai.length ay], .int .i64 (wrap64 (a1)), .int .i64 (wrap64 ((wrap64 (a1))+1)), .int .i64 (wrap64 (a2))] ?_;(with_reducible refine (r05_Put.calls kj3 am (fun k_=>((aj k_∨w.heap.size≤k_)∧(k_≠ak∧k_≠af))) _ _ ai (wrap64 (a1)) (wrap64 ((wrap64 (a1))+1)) (wrap64 (a2)) bj bk bw _ aa.out A14.out).mono ?_);rintro e w17 ⟨bN,rfl,ho0,hb⟩;refine ⟨_,rfl, ?_⟩;replace aa:=yVb aa hb;have ba:=yho (fun k_=>(aj k_∨w.heap.size≤k_)∧k_≠ak∧k_≠af) ho0 (fun k_ hk_=>⟨Or.elim hk_ (fun hs_=>hs_.1) (fun hn_=>(.inr (Nat.le_trans (zE yhb) hn_))),yoB ac hk_,yoB ae hk_⟩);replace ac:=ybb ac hb;replace ae:=ybb ae hb;replace HB:=ybs hb;(try clear hb);(try clear ho0);obtain ⟨_,_,_,_⟩:=yc2 ae;obtain ⟨bx,bz,bA⟩:=Kd.V_slice ba.out;subst bA))
   refine bodyPost_ret (results_ct rfl _ _ af 69 #[.int .u64 bj, .slice bx bk.length bz] (0,0) _ rfl (ykp ae) Try.underlying69 rfl (by kernel_rfl)) rfl ?_
   exact ⟨_,ye,yV0 ba,yhb⟩
  rw [if_neg c13] at H
  have bi:=yG c13
  clear c13
  obtain ⟨⟨aN,az,aY⟩,A20,H⟩:=ybi H
  try dsimp only at H
  by_cases c21 : aY=0
  ·
   rw [if_pos c21] at H
   obtain ⟨bl,bm⟩:=yE c21
   clear c21
   obtain ⟨⟨bd,bf,bg⟩,A22,H⟩:=ybi H
   try dsimp only at H
   by_cases c23 : bg=0
   ·
    rw [if_pos c23] at H
    obtain ⟨bn,bo⟩:=yE c23
    clear c23
    simp only [Option.some.injEq,Prod.mk.injEq] at H
    obtain ⟨rfl,rfl,rfl⟩:=H
    have:=ao.out
    have:=ap.out
    obtain ⟨_,_,_,_⟩:=yc2 ac
    go_wp2_with (first|((with_reducible refine gate_callee (f:=37) rfl ?_);refine ygl 51 Try.func37 #[.agg #[.int .u64 am, .slice ax ai.length ay], .int .i64 (wrap64 (IntKind.u64.wrap (Int.tdiv a1 65536))), .int .i64 (wrap64 ((wrap64 (IntKind.u64.wrap (Int.tdiv a1 65536)))+1)), .int .i64 (wrap64 ((wrap64 (IntKind.u64.wrap (Int.tdiv (IntKind.u64.wrap (a2 - 1)) 65536)))+1))] ?_;(with_reducible refine (r05_Put.calls kj3 am (fun k_=>((aj k_∨w.heap.size≤k_)∧(k_≠ak∧k_≠af))) _ _ ai (wrap64 (IntKind.u64.wrap (Int.tdiv a1 65536))) (wrap64 ((wrap64 (IntKind.u64.wrap (Int.tdiv a1 65536)))+1)) (wrap64 ((wrap64 (IntKind.u64.wrap (Int.tdiv (IntKind.u64.wrap (a2 - 1)) 65536)))+1)) aN az aY _ aa.out A20.out).mono ?_);rintro e w26 ⟨bp,rfl,ho0,hb⟩;refine ⟨_,rfl, ?_⟩;replace aa:=yVb aa hb;have ag:=yho (fun k_=>(aj k_∨w.heap.size≤k_)∧k_≠ak∧k_≠af) ho0 (fun k_ hk_=>⟨Or.elim hk_ (fun hs_=>hs_.1) (fun hn_=>(.inr (Nat.le_trans (zE yhb) hn_))),yoB ac hk_,yoB ae hk_⟩);replace ac:=ybb ac hb;replace ae:=ybb ae hb;replace HB:=ybs hb;(try clear hb);(try clear ho0))|((with_reducible refine gate_dst (N:=8) rfl ?_);refine ybx 8 #[.int .u64 0, .slice none 0 0] 69 ?_;intro al hg w27 hbox hb;replace aa:=yVe aa hg hb;replace ag:=yVe ag hg hb;have ah:=zm (hbox);have bb:=ygw hg;have bc:=ygw hg;replace HB:=ybs hb;have aq:=ynl ac hg;have au:=yng ac hg;replace ac:=ybb ac hb;have av:=ynl ae hg;have aw:=yng ae hg;replace ae:=ybb ae hb;clear hb hbox hg;have:=au.out;have:=aq.out;have:=aw.out;have:=av.out;obtain ⟨_,_,_,_⟩:=yc2 ah;obtain ⟨aZ,a7,bB⟩:=Kd.V_slice ag.out;subst bB)|((with_reducible refine gate_store (t:=69) (p:=8) rfl ?_);refine store_event (t:=69) (p:=8) (v := ?vo_w32) (w1:=((w27.setCell ⟨al,0,none⟩ (.int .u64 aN)).setCell ⟨al,1,none⟩ (.slice aZ az.length a7))) ?hg ?ho ?hn ?hr ?_;(case ho=>rfl);(case hg=>rfl);(case hn=>rfl);(case hr=>first|(go_simp;done)|(go_simp;rfl));intro w32 hw;replace aa : Aside0 (Kd.V (Kd.int .i64) 3 w32 w.heap.size (fun k_=>(aj k_∨w.heap.size≤k_)∧k_≠ak∧k_≠af∧k_≠al) (.slice ax ai.length ay) ai):=⟨(by rw [hw];exact (yV0 aa))⟩;replace ag : Aside0 (Kd.V (Kd.int .i64) 3 w32 w.heap.size (fun k_=>(aj k_∨w.heap.size≤k_)∧k_≠ak∧k_≠af∧k_≠al) (.slice aZ az.length a7) az):=⟨(by rw [hw];exact (yV0 ag))⟩;replace ac : Aside0 (w32.heap[ak]? = some (.cells #[.int .u64 am, .slice ax ai.length ay] 69 (0,0))):=⟨(by rw [hw];exact (yk ac))⟩;replace ae : Aside0 (w32.heap[af]? = some (.cells #[.int .u64 0, .slice none 0 0] 69 (0,0))):=⟨(by rw [hw];exact (yk ae))⟩;replace ah : Aside0 (w32.heap[al]? = some (.cells #[.int .u64 aN, .slice aZ az.length a7] 69 (0,0))):=⟨(by rw [hw];exact (ykp ah))⟩;replace HB : Aside0 (Below w.heap.size w w32):=⟨(by rw [hw];exact yhb)⟩;clear hw;obtain ⟨_,_,_,_⟩:=yc2 ah)|((with_reducible refine gate_callee (f:=37) rfl ?_);refine ygl 67 Try.func37 #[.agg #[.int .u64 aN, .slice aZ az.length a7], .int .i64 (wrap64 (Int.tmod a1 65536)), .int .i64 (wrap64 ((wrap64 (Int.tmod a1 65536))+1)), .int .i64 65536] ?_;(with_reducible refine (r05_Put.calls kj3 aN (fun k_=>((aj k_∨w.heap.size≤k_)∧(k_≠ak∧(k_≠af∧k_≠al)))) _ _ az (wrap64 (Int.tmod a1 65536)) (wrap64 ((wrap64 (Int.tmod a1 65536))+1)) 65536 bd bf bg _ ag.out A22.out).mono ?_);rintro e w34 ⟨bC,rfl,ho0,hb⟩;refine ⟨_,rfl, ?_⟩;replace aa:=yVb aa hb;replace ag:=yVb ag hb;have aK:=yho (fun k_=>(aj k_∨w.heap.size≤k_)∧k_≠ak∧k_≠af∧k_≠al) ho0 (fun k_ hk_=>⟨Or.elim hk_ (fun hs_=>hs_.1) (fun hn_=>(.inr (Nat.le_trans (zE yhb) hn_))),yoB ac hk_,yoB ae hk_,yoB ah hk_⟩);replace ac:=ybb ac hb;replace ae:=ybb ae hb;replace ah:=ybb ah hb;replace HB:=ybs hb;(try clear hb);(try clear ho0))|((with_reducible refine gate_dst (N:=10) rfl ?_);refine ybx 10 #[.int .u64 0, .slice none 0 0] 69 ?_;intro bq hg w35 hbox hb;replace aa:=yVe aa hg hb;replace ag:=yVe ag hg hb;replace aK:=yVe aK hg hb;have aX:=zm (hbox);have br:=ygw hg;have bs:=ygw hg;replace HB:=ybs hb;have aD:=ynl ac hg;have aE:=yng ac hg;replace ac:=ybb ac hb;have aG:=ynl ae hg;have aH:=yng ae hg;replace ae:=ybb ae hb;have aI:=ynl ah hg;have aJ:=yng ah hg;replace ah:=ybb ah hb;clear hb hbox hg;have:=aE.out;have:=aD.out;have:=aH.out;have:=aG.out;have:=aJ.out;have:=aI.out;obtain ⟨_,_,_,_⟩:=yc2 aX;obtain ⟨bD,bE,bF⟩:=Kd.V_slice aK.out;subst bF;obtain ⟨_,_,_,_⟩:=yc2 ae))
    refine bodyPost_ret (results_ct rfl _ _ af 69 #[.int .u64 bd, .slice bD bf.length bE] (0,0) _ rfl (ykp ae) Try.underlying69 rfl (by kernel_rfl)) rfl ?_
    exact ⟨_,ye,yV0 aK,yhb⟩
   rw [if_neg c23] at H
   obtain ⟨bn,bo⟩:=yF c23
   simp only [Option.some.injEq,Prod.mk.injEq] at H
   obtain ⟨rfl,rfl,rfl⟩:=H
   have:=ao.out
   have:=ap.out
   obtain ⟨_,_,_,_⟩:=yc2 ac
   go_wp2_with (first|((with_reducible refine gate_callee (f:=37) rfl ?_);refine ygl 51 Try.func37 #[.agg #[.int .u64 am, .slice ax ai.length ay], .int .i64 (wrap64 (IntKind.u64.wrap (Int.tdiv a1 65536))), .int .i64 (wrap64 ((wrap64 (IntKind.u64.wrap (Int.tdiv a1 65536)))+1)), .int .i64 (wrap64 ((wrap64 (IntKind.u64.wrap (Int.tdiv (IntKind.u64.wrap (a2 - 1)) 65536)))+1))] ?_;(with_reducible refine (r05_Put.calls kj3 am (fun k_=>((aj k_∨w.heap.size≤k_)∧(k_≠ak∧k_≠af))) _ _ ai (wrap64 (IntKind.u64.wrap (Int.tdiv a1 65536))) (wrap64 ((wrap64 (IntKind.u64.wrap (Int.tdiv a1 65536)))+1)) (wrap64 ((wrap64 (IntKind.u64.wrap (Int.tdiv (IntKind.u64.wrap (a2 - 1)) 65536)))+1)) aN az aY _ aa.out A20.out).mono ?_);rintro e w44 ⟨bp,rfl,ho0,hb⟩;refine ⟨_,rfl, ?_⟩;replace aa:=yVb aa hb;have ag:=yho (fun k_=>(aj k_∨w.heap.size≤k_)∧k_≠ak∧k_≠af) ho0 (fun k_ hk_=>⟨Or.elim hk_ (fun hs_=>hs_.1) (fun hn_=>(.inr (Nat.le_trans (zE yhb) hn_))),yoB ac hk_,yoB ae hk_⟩);replace ac:=ybb ac hb;replace ae:=ybb ae hb;replace HB:=ybs hb;(try clear hb);(try clear ho0))|((with_reducible refine gate_dst (N:=8) rfl ?_);refine ybx 8 #[.int .u64 0, .slice none 0 0] 69 ?_;intro al hg w45 hbox hb;replace aa:=yVe aa hg hb;replace ag:=yVe ag hg hb;have ah:=zm (hbox);have bb:=ygw hg;have bc:=ygw hg;replace HB:=ybs hb;have aq:=ynl ac hg;have au:=yng ac hg;replace ac:=ybb ac hb;have av:=ynl ae hg;have aw:=yng ae hg;replace ae:=ybb ae hb;clear hb hbox hg;have:=au.out;have:=aq.out;have:=aw.out;have:=av.out;obtain ⟨_,_,_,_⟩:=yc2 ah;obtain ⟨a8,a9,bG⟩:=Kd.V_slice ag.out;subst bG)|((with_reducible refine gate_store (t:=69) (p:=8) rfl ?_);refine store_event (t:=69) (p:=8) (v := ?vo_w50) (w1:=((w45.setCell ⟨al,0,none⟩ (.int .u64 aN)).setCell ⟨al,1,none⟩ (.slice a8 az.length a9))) ?hg ?ho ?hn ?hr ?_;(case ho=>rfl);(case hg=>rfl);(case hn=>rfl);(case hr=>first|(go_simp;done)|(go_simp;rfl));intro w50 hw;replace aa : Aside0 (Kd.V (Kd.int .i64) 3 w50 w.heap.size (fun k_=>(aj k_∨w.heap.size≤k_)∧k_≠ak∧k_≠af∧k_≠al) (.slice ax ai.length ay) ai):=⟨(by rw [hw];exact (yV0 aa))⟩;replace ag : Aside0 (Kd.V (Kd.int .i64) 3 w50 w.heap.size (fun k_=>(aj k_∨w.heap.size≤k_)∧k_≠ak∧k_≠af∧k_≠al) (.slice a8 az.length a9) az):=⟨(by rw [hw];exact (yV0 ag))⟩;replace ac : Aside0 (w50.heap[ak]? = some (.cells #[.int .u64 am, .slice ax ai.length ay] 69 (0,0))):=⟨(by rw [hw];exact (yk ac))⟩;replace ae : Aside0 (w50.heap[af]? = some (.cells #[.int .u64 0, .slice none 0 0] 69 (0,0))):=⟨(by rw [hw];exact (yk ae))⟩;replace ah : Aside0 (w50.heap[al]? = some (.cells #[.int .u64 aN, .slice a8 az.length a9] 69 (0,0))):=⟨(by rw [hw];exact (ykp ah))⟩;replace HB : Aside0 (Below w.heap.size w w50):=⟨(by rw [hw];exact yhb)⟩;clear hw;obtain ⟨_,_,_,_⟩:=yc2 ah)|((with_reducible refine gate_callee (f:=37) rfl ?_);refine ygl 67 Try.func37 #[.agg #[.int .u64 aN, .slice a8 az.length a9], .int .i64 (wrap64 (Int.tmod a1 65536)), .int .i64 (wrap64 ((wrap64 (Int.tmod a1 65536))+1)), .int .i64 65536] ?_;(with_reducible refine (r05_Put.calls kj3 aN (fun k_=>((aj k_∨w.heap.size≤k_)∧(k_≠ak∧(k_≠af∧k_≠al)))) _ _ az (wrap64 (Int.tmod a1 65536)) (wrap64 ((wrap64 (Int.tmod a1 65536))+1)) 65536 bd bf bg _ ag.out A22.out).mono ?_);rintro e w52 ⟨bC,rfl,ho0,hb⟩;refine ⟨_,rfl, ?_⟩;replace aa:=yVb aa hb;replace ag:=yVb ag hb;have aK:=yho (fun k_=>(aj k_∨w.heap.size≤k_)∧k_≠ak∧k_≠af∧k_≠al) ho0 (fun k_ hk_=>⟨Or.elim hk_ (fun hs_=>hs_.1) (fun hn_=>(.inr (Nat.le_trans (zE yhb) hn_))),yoB ac hk_,yoB ae hk_,yoB ah hk_⟩);replace ac:=ybb ac hb;replace ae:=ybb ae hb;replace ah:=ybb ah hb;replace HB:=ybs hb;(try clear hb);(try clear ho0))|((with_reducible refine gate_dst (N:=10) rfl ?_);refine ybx 10 #[.int .u64 0, .slice none 0 0] 69 ?_;intro bq hg w53 hbox hb;replace aa:=yVe aa hg hb;replace ag:=yVe ag hg hb;replace aK:=yVe aK hg hb;have aX:=zm (hbox);have br:=ygw hg;have bs:=ygw hg;replace HB:=ybs hb;have aD:=ynl ac hg;have aE:=yng ac hg;replace ac:=ybb ac hb;have aG:=ynl ae hg;have aH:=yng ae hg;replace ae:=ybb ae hb;have aI:=ynl ah hg;have aJ:=yng ah hg;replace ah:=ybb ah hb;clear hb hbox hg;have:=aE.out;have:=aD.out;have:=aH.out;have:=aG.out;have:=aJ.out;have:=aI.out;obtain ⟨_,_,_,_⟩:=yc2 aX;obtain ⟨bO,bP,bH⟩:=Kd.V_slice aK.out;subst bH;obtain ⟨_,_,_,_⟩:=yc2 ac;obtain ⟨_,_,_,_⟩:=yc2 ae))
   refine bodyPost_ret (results_ct rfl _ _ af 69 #[.int .u64 am, .slice ax ai.length ay] (0,0) _ rfl (ykp ae) Try.underlying69 rfl (by kernel_rfl)) rfl ?_
   exact ⟨_,ye,yV0 aa,yhb⟩
  rw [if_neg c21] at H
  obtain ⟨bl,bm⟩:=yF c21
  simp only [Option.some.injEq,Prod.mk.injEq] at H
  obtain ⟨rfl,rfl,rfl⟩:=H
  have:=ao.out
  have:=ap.out
  obtain ⟨_,_,_,_⟩:=yc2 ac
  go_wp2_with (first|((with_reducible refine gate_callee (f:=37) rfl ?_);refine ygl 51 Try.func37 #[.agg #[.int .u64 am, .slice ax ai.length ay], .int .i64 (wrap64 (IntKind.u64.wrap (Int.tdiv a1 65536))), .int .i64 (wrap64 ((wrap64 (IntKind.u64.wrap (Int.tdiv a1 65536)))+1)), .int .i64 (wrap64 ((wrap64 (IntKind.u64.wrap (Int.tdiv (IntKind.u64.wrap (a2 - 1)) 65536)))+1))] ?_;(with_reducible refine (r05_Put.calls kj3 am (fun k_=>((aj k_∨w.heap.size≤k_)∧(k_≠ak∧k_≠af))) _ _ ai (wrap64 (IntKind.u64.wrap (Int.tdiv a1 65536))) (wrap64 ((wrap64 (IntKind.u64.wrap (Int.tdiv a1 65536)))+1)) (wrap64 ((wrap64 (IntKind.u64.wrap (Int.tdiv (IntKind.u64.wrap (a2 - 1)) 65536)))+1)) aN az aY _ aa.out A20.out).mono ?_);rintro e w63 ⟨bp,rfl,ho0,hb⟩;refine ⟨_,rfl, ?_⟩;replace aa:=yVb aa hb;have ag:=yho (fun k_=>(aj k_∨w.heap.size≤k_)∧k_≠ak∧k_≠af) ho0 (fun k_ hk_=>⟨Or.elim hk_ (fun hs_=>hs_.1) (fun hn_=>(.inr (Nat.le_trans (zE yhb) hn_))),yoB ac hk_,yoB ae hk_⟩);replace ac:=ybb ac hb;replace ae:=ybb ae hb;replace HB:=ybs hb;(try clear hb);(try clear ho0))|((with_reducible refine gate_dst (N:=8) rfl ?_);refine ybx 8 #[.int .u64 0, .slice none 0 0] 69 ?_;intro al hg w64 hbox hb;replace aa:=yVe aa hg hb;replace ag:=yVe ag hg hb;have ah:=zm (hbox);have bb:=ygw hg;have bc:=ygw hg;replace HB:=ybs hb;have aq:=ynl ac hg;have au:=yng ac hg;replace ac:=ybb ac hb;have av:=ynl ae hg;have aw:=yng ae hg;replace ae:=ybb ae hb;clear hb hbox hg;have:=au.out;have:=aq.out;have:=aw.out;have:=av.out;obtain ⟨_,_,_,_⟩:=yc2 ah;obtain ⟨bQ,bR,bI⟩:=Kd.V_slice ag.out;subst bI;obtain ⟨_,_,_,_⟩:=yc2 ac;obtain ⟨_,_,_,_⟩:=yc2 ae))
  refine bodyPost_ret (results_ct rfl _ _ af 69 #[.int .u64 am, .slice ax ai.length ay] (0,0) _ rfl (ykp ae) Try.underlying69 rfl (by kernel_rfl)) rfl ?_
  exact ⟨_,ye,yV0 aa,yhb⟩
mutual
def r06_Row.l0 : Nat→Int→List Int→Int→Option (List Int)
 | 0,_,_,_=>none
 | k+1,x0,x3,x4=>if x4≤12 then (if x4=0 then (if x3.length < 17592186044416 then (r06_Row.l0 k x0 (x3 ++ [1]) (wrap64 (x4+1))) else (none)) else (if x3.length < 17592186044416 then (r06_Row.l0 k x0 (x3 ++ [0]) (wrap64 (x4+1))) else (none))) else (r06_Row.l1 k x0 x3 0)
def r06_Row.l1 : Nat→Int→List Int→Int→Option (List Int)
 | 0,_,_,_=>none
 | k+1,x0,x3,x5=>if x5 < x0 then (r06_Row.l2 k x0 x3 x5 ([] : List Int) 0) else (some x3)
def r06_Row.l2 : Nat→Int→List Int→Int→List Int→Int→Option (List Int)
 | 0,_,_,_,_,_=>none
 | k+1,x0,x3,x5,x6,x7=>if x7≤12 then (if 0≤x7 then (if x7 < (x3.length : Int) then (r06_Row.l3 k x0 x3 x5 x6 x7 (rd x3 x7) 1) else (none)) else (none)) else (r06_Row.l1 k x0 x6 (wrap64 (x5+1)))
def r06_Row.l3 : Nat→Int→List Int→Int→List Int→Int→Int→Int→Option (List Int)
 | 0,_,_,_,_,_,_,_=>none
 | k+1,x0,x3,x5,x6,x7,x8,x9=>if x9≤x7 then (if 0≤(wrap64 (x7 - x9)) then (if (wrap64 (x7 - x9)) < (x3.length : Int) then (r06_Row.l3 k x0 x3 x5 x6 x7 (IntKind.u64.wrap (x8+(IntKind.u64.wrap (2 * (rd x3 (wrap64 (x7 - x9))))))) (wrap64 (x9+1))) else (none)) else (none)) else (if x6.length < 17592186044416 then (r06_Row.l2 k x0 x3 x5 (x6 ++ [x8]) (wrap64 (x7+1))) else (none))
end
def r06_Row.f (k : Nat) (a0 : Int) : Option (List Int):=r06_Row.l0 k a0 ([] : List Int) 0
theorem r06_Row.mono_l : ∀ k,(∀ y0 y1 y2,LeO (r06_Row.l0 k y0 y1 y2) (r06_Row.l0 (k+1) y0 y1 y2))∧(∀ y0 y1 y2,LeO (r06_Row.l1 k y0 y1 y2) (r06_Row.l1 (k+1) y0 y1 y2))∧(∀ y0 y1 y2 y3 y4,LeO (r06_Row.l2 k y0 y1 y2 y3 y4) (r06_Row.l2 (k+1) y0 y1 y2 y3 y4))∧(∀ y0 y1 y2 y3 y4 y5 y6,LeO (r06_Row.l3 k y0 y1 y2 y3 y4 y5 y6) (r06_Row.l3 (k+1) y0 y1 y2 y3 y4 y5 y6))
 | 0=>⟨fun _ _ _ r h=>by simp [r06_Row.l0] at h,fun _ _ _ r h=>by simp [r06_Row.l1] at h,fun _ _ _ _ _ r h=>by simp [r06_Row.l2] at h,fun _ _ _ _ _ _ _ r h=>by simp [r06_Row.l3] at h⟩
 | k+1=>by
  obtain ⟨ih0,ih1,ih2,ih3⟩:=r06_Row.mono_l k
  refine ⟨?_, ?_, ?_, ?_⟩
  ·
   intro y0 y1 y2
   unfold r06_Row.l0
   repeat' with_reducible first|apply ih0|apply ih1|apply ih2|apply ih3|apply yLr|apply yLn|apply yLi|apply yLb|intro _
  ·
   intro y0 y1 y2
   unfold r06_Row.l1
   repeat' with_reducible first|apply ih0|apply ih1|apply ih2|apply ih3|apply yLr|apply yLn|apply yLi|apply yLb|intro _
  ·
   intro y0 y1 y2 y3 y4
   unfold r06_Row.l2
   repeat' with_reducible first|apply ih0|apply ih1|apply ih2|apply ih3|apply yLr|apply yLn|apply yLi|apply yLb|intro _
  intro y0 y1 y2 y3 y4 y5 y6
  unfold r06_Row.l3
  repeat' with_reducible first|apply ih0|apply ih1|apply ih2|apply ih3|apply yLr|apply yLn|apply yLi|apply yLb|intro _
theorem r06_Row.mono : ∀ a0 k,LeO (r06_Row.f k a0) (r06_Row.f (k+1) a0):=by
 intro a0 k
 obtain ⟨ih0,ih1,ih2,ih3⟩:=r06_Row.mono_l k
 unfold r06_Row.f
 repeat' with_reducible first|apply ih0|apply ih1|apply ih2|apply ih3|apply yLr|apply yLn|apply yLi|apply yLb|intro _
set_option maxHeartbeats 8000000 in
set_option maxRecDepth 100000 in
theorem r06_Row.calls (k : Nat) (a0 : Int) (r : List Int) (w : World) (h : r06_Row.f k a0=some r) :
  Calls Try.prog 81 #[.int .i64 a0] w fun e w' => ∃ v0_ : Value,e=.returned (v0_)∧Kd.R (Kd.int .u64) 51 w' w.heap.size (fun _=>True) v0_ r∧Below w.heap.size w w' := by
 have HB:=zm (Below.refl w.heap.size w);have H:=h
 unfold r06_Row.f at H
 clear h
 have H' := zm H
 clear H
 go_enter Try.func81,Try.ntmps81
 go_wp2
 go_loopg [3,4] k (fun kq v3 v4 w' => ∃ (ag : List Int) (af : Int),v4=.int .i64 af∧Aside0 (r06_Row.l0 kq a0 ag af=some r)∧Aside0 (kq≤k)∧Aside0 (Kd.R (Kd.int .u64) 51 w' w.heap.size (fun _=>True) v3 ag)∧Aside0 (Below w.heap.size w w'))
 case atStart=>exact ⟨(([] : List Int)),(0),yq,H',⟨Nat.le_refl _⟩,⟨yn⟩,⟨yhb⟩⟩
 case round =>
  clear H'
  obtain ⟨ag,af,rfl,HA,HK1,aa,HB⟩:=hrel
  obtain ⟨k1,rfl⟩:=ysu gk (fun h=>by subst h;exact absurd HA.out (by simp [r06_Row.l0]))
  have H:=HA.out;clear HA
  simp only [r06_Row.l0] at H
  by_cases c2 : af≤12
  ·
   rw [if_pos c2] at H
   have aD:=yD c2
   clear c2
   by_cases c3 : af=0
   ·
    rw [if_pos c3] at H
    obtain ⟨a7,a8⟩:=yE c3
    clear c3
    obtain ⟨c4,H⟩:=yif H
    have LMc4:=zm c4;clear c4
    obtain ⟨aE,aq⟩ : ∃ y_ : List Int,y_=(ag ++ [1]):=⟨_,rfl⟩
    replace H : (r06_Row.l0 k1 a0 aE (wrap64 (af+1)))=some r:=yrw aq H
    have aG:=zm aq;clear aq
    have H' := zm H
    clear H
    go_wp2_with (first|((with_reducible refine gate_builtin (b:=.append) (xs := #[.tmp 16, .tmp 17]) rfl ?_);at_builtin;refine Kd.R_append (Kd.int .u64) (w0:=w) w.heap.size rfl (.tmp 16) (.tmp 17) 126 51 (.int .u64 0) 8 rfl Try.underlying126 info51 rfl (by decide) (by omega) u3 ag 1 [.int .u64 1] (fun _=>True) (fun _=>False) rfl rfl ?aP (fun _ hk=>hk.elim) ?aF ?aO ?aB ?aS ?aL ?_;(case aP=>exact rfl);(case aB=>exact yhb);(case aF=>exact (fun _ _=>trivial));(case aO=>exact (yr aa));(case aS=>exact (zE yhb));(case aL=>have:=LMc4.out;omega);intro bf w5 ho hb hg hat;rw [← aG.out] at ho;replace HB:=zm (hb);have aH:=zm (ho);clear aa;clear ho hb hg hat))
    go_roundg k1
    case measure=>exact yom1 HK1
    case rel=>exact ⟨(aE),(wrap64 (af+1)),yq,H',⟨yom1 HK1⟩,⟨yr aH⟩,⟨yhb⟩⟩
   rw [if_neg c3] at H
   obtain ⟨a7,a8⟩:=yF c3
   obtain ⟨c6,H⟩:=yif H
   have LMc6:=zm c6;clear c6
   obtain ⟨aI,au⟩ : ∃ y_ : List Int,y_=(ag ++ [0]):=⟨_,rfl⟩
   replace H : (r06_Row.l0 k1 a0 aI (wrap64 (af+1)))=some r:=yrw au H
   have aJ:=zm au;clear au
   have H' := zm H
   clear H
   go_wp2_with (first|((with_reducible refine gate_builtin (b:=.append) (xs := #[.tmp 19, .tmp 20]) rfl ?_);at_builtin;refine Kd.R_append (Kd.int .u64) (w0:=w) w.heap.size rfl (.tmp 19) (.tmp 20) 126 51 (.int .u64 0) 8 rfl Try.underlying126 info51 rfl (by decide) (by omega) u3 ag 0 [.int .u64 0] (fun _=>True) (fun _=>False) rfl rfl ?aP (fun _ hk=>hk.elim) ?aF ?aO ?aB ?aS ?aL ?_;(case aP=>exact rfl);(case aB=>exact yhb);(case aF=>exact (fun _ _=>trivial));(case aO=>exact (yr aa));(case aS=>exact (zE yhb));(case aL=>have:=LMc6.out;omega);intro bg w7 ho hb hg hat;rw [← aJ.out] at ho;replace HB:=zm (hb);have aK:=zm (ho);clear aa;clear ho hb hg hat))
   go_roundg k1
   case measure=>exact yom1 HK1
   case rel=>exact ⟨(aI),(wrap64 (af+1)),yq,H',⟨yom1 HK1⟩,⟨yr aK⟩,⟨yhb⟩⟩
  rw [if_neg c2] at H
  have aD:=yG c2
  clear c2
  have H' := zm H
  clear H
  go_wp2
  go_loopg [3,5] k1 (fun kq v3 v5 w' => ∃ (ac : List Int) (ah : Int),v5=.int .i64 ah∧Aside0 (r06_Row.l1 kq a0 ac ah=some r)∧Aside0 (kq≤k1)∧Aside0 (Kd.R (Kd.int .u64) 51 w' w.heap.size (fun _=>True) v3 ac)∧Aside0 (Below w.heap.size w w'))
  case atStart=>exact ⟨(ag),(0),yq,H',⟨Nat.le_refl _⟩,⟨yr aa⟩,⟨yhb⟩⟩
  case round =>
   clear H'
   try clear aD
   try clear c3
   obtain ⟨ac,ah,rfl,HA,HK2,aa,HB⟩:=hrel
   obtain ⟨k2,rfl⟩:=ysu gk (fun h=>by subst h;exact absurd HA.out (by simp [r06_Row.l1]))
   have H:=HA.out;clear HA
   simp only [r06_Row.l1] at H
   by_cases c8 : ah < a0
   ·
    rw [if_pos c8] at H
    have aM:=yD c8
    clear c8
    have H' := zm H
    clear H
    go_wp2
    go_loopg [6,7] k2 (fun kq v6 v7 w' => ∃ (ai : List Int) (ae : Int),v7=.int .i64 ae∧Aside0 (r06_Row.l2 kq a0 ac ah ai ae=some r)∧Aside0 (kq≤k2)∧Aside0 (Kd.R (Kd.int .u64) 51 w' w.heap.size (fun k_=>some k_≠(v6 : Value).ownBlock) u3 ac)∧Aside0 (Kd.R (Kd.int .u64) 51 w' w.heap.size (fun k_=>some k_≠(u3 : Value).ownBlock) v6 ai)∧Aside0 (Below w.heap.size w w'))
    case atStart=>exact ⟨(([] : List Int)),(0),yq,H',⟨Nat.le_refl _⟩,⟨yR0 aa⟩,⟨yn⟩,⟨yhb⟩⟩
    case round =>
     clear H'
     try clear aM
     obtain ⟨ai,ae,rfl,HA,HK3,aa,ap,HB⟩:=hrel
     obtain ⟨k3,rfl⟩:=ysu gk (fun h=>by subst h;exact absurd HA.out (by simp [r06_Row.l2]))
     have H:=HA.out;clear HA
     simp only [r06_Row.l2] at H
     by_cases c9 : ae≤12
     ·
      rw [if_pos c9] at H
      have aN:=yD c9
      clear c9
      obtain ⟨c10,H⟩:=yif H
      have aQ : decide (0≤ae)=true:=decide_eq_true c10
      clear c10
      obtain ⟨c11,H⟩:=yif H
      have aT : decide (ae < (ac.length : Int))=true:=decide_eq_true c11
      clear c11
      have H' := zm H
      clear H
      obtain ⟨bh,az,a9⟩:=Kd.R_slice aa.out
      subst a9
      have aw : 0≤(ae : Int):=yt
      have ax : ae < (ac.length : Int):=yt
      obtain ⟨am,ba,ay⟩:=Kd.at_int (Kd.R_reads' aa.out).2.2 ae aw ax
      cases ba
      replace aw:=eq_true aw
      replace ax:=eq_true ax
      go_wp2
      go_loopg [8,9] k3 (fun kq v8 v9 w' => ∃ (aj : Int) (ak : Int),v8=.int .u64 aj∧v9=.int .i64 ak∧Aside0 (r06_Row.l3 kq a0 ac ah ai ae aj ak=some r)∧Aside0 (kq≤k3)∧Aside0 (Kd.R (Kd.int .u64) 51 w' w.heap.size (fun k_=>some k_≠(u6 : Value).ownBlock) (.slice (some am) ac.length az) ac)∧Aside0 (Kd.R (Kd.int .u64) 51 w' w.heap.size (fun k_=>some k_≠((.slice (some am) ac.length az) : Value).ownBlock) u6 ai)∧Aside0 (Below w.heap.size w w'))
      case atStart=>exact ⟨(rd ac ae),(1),yq,yq,H',⟨Nat.le_refl _⟩,⟨yr aa⟩,⟨yr ap⟩,⟨yhb⟩⟩
      case round =>
       clear H'
       try clear aN
       try clear aQ
       try clear aT
       try clear ay
       try clear aw
       try clear ax
       obtain ⟨aj,ak,rfl,rfl,HA,HK4,aa,ap,HB⟩:=hrel
       obtain ⟨k4,rfl⟩:=ysu gk (fun h=>by subst h;exact absurd HA.out (by simp [r06_Row.l3]))
       have H:=HA.out;clear HA
       simp only [r06_Row.l3] at H
       by_cases c13 : ak≤ae
       ·
        rw [if_pos c13] at H
        have aU:=yD c13
        clear c13
        obtain ⟨al,ao⟩ : ∃ j_ : Int,(wrap64 (ae - ak))=j_:=⟨_,rfl⟩
        (first|rw [ao] at H|simp only [ao] at H)
        have hji14w : (IntKind.i64.wrap (ae - ak))=al:=(i64_w _).trans ao
        obtain ⟨c15,H⟩:=yif H
        have bc : decide (0≤(al))=true:=decide_eq_true c15
        clear c15
        obtain ⟨c16,H⟩:=yif H
        have bd : decide ((al) < (ac.length : Int))=true:=decide_eq_true c16
        clear c16
        have H' := zm H
        clear H
        have aA : 0≤((al) : Int):=yt
        have aC : (al) < (ac.length : Int):=yt
        obtain ⟨aV,bb,aZ⟩:=Kd.at_int (Kd.R_reads' aa.out).2.2 (al) aA aC
        obtain rfl : am=aV:=(by injection bb)
        replace aA:=eq_true aA
        replace aC:=eq_true aC
        go_wp2
        go_roundg k4
        case measure=>exact yom4 HK1 HK2 HK3 HK4
        case rel=>exact ⟨(IntKind.u64.wrap (aj+(IntKind.u64.wrap (2 * (rd ac (al)))))),(wrap64 (ak+1)),(by first|rfl|(simp;done)|(simp only [← ao] <;> (first|rfl|simp))|(simp [*];done)),yq,H',⟨yom4 HK1 HK2 HK3 HK4⟩,⟨yr aa⟩,⟨yr ap⟩,⟨yhb⟩⟩
       rw [if_neg c13] at H
       have aU:=yG c13
       clear c13
       obtain ⟨c17,H⟩:=yif H
       have LMc17:=zm c17;clear c17
       obtain ⟨aW,av⟩ : ∃ y_ : List Int,y_=(ai ++ [aj]):=⟨_,rfl⟩
       replace H : (r06_Row.l2 k4 a0 ac ah aW (wrap64 (ae+1)))=some r:=yrw av H
       have aX:=zm av;clear av
       have H' := zm H
       clear H
       go_wp2_with (first|((with_reducible refine gate_builtin (b:=.append) (xs := #[.tmp 49, .tmp 51]) rfl ?_);at_builtin;refine Kd.R_append (Kd.int .u64) (w0:=w) w.heap.size rfl (.tmp 49) (.tmp 51) 126 51 (.int .u64 0) 8 rfl Try.underlying126 info51 rfl (by decide) (by omega) u6 ai aj [.int .u64 aj] (fun k_=>some k_≠(.slice (some am) ac.length az : Value).ownBlock) (fun _=>False) rfl rfl ?aP (fun _ hk=>hk.elim) ?aF ?aO ?aB ?aS ?aL ?_;(case aP=>exact rfl);(case aB=>exact yhb);(case aF=>exact (fun k_ hk=>Kd.fresh' (Kd.R_lt (yr aa)) k_ hk));(case aO=>exact (yr ap));(case aS=>exact (zE yhb));(case aL=>have:=LMc17.out;omega);intro bi w18 ho hb hg hat;rw [← aX.out] at ho;replace aa:=zm (Kd.R_after (ok:=(fun _=>True)) (yR0 aa) hg hat);replace HB:=zm (hb);have aY:=zm (ho);clear ap;clear ho hb hg hat))
       go_roundg k4
       case measure=>exact yom4 HK1 HK2 HK3 HK4
       case rel=>exact ⟨(aW),(wrap64 (ae+1)),yq,H',⟨yom4 HK1 HK2 HK3 HK4⟩,⟨yR0 aa⟩,⟨yr aY⟩,⟨yhb⟩⟩
     rw [if_neg c9] at H
     have aN:=yG c9
     clear c9
     have H' := zm H
     clear H
     go_wp2
     go_roundg k3
     case measure=>exact yom3 HK1 HK2 HK3
     case rel=>exact ⟨(ai),(wrap64 (ah+1)),yq,H',⟨yom3 HK1 HK2 HK3⟩,⟨yR0 ap⟩,⟨yhb⟩⟩
   rw [if_neg c8] at H
   have aM:=yG c8
   clear c8
   obtain rfl:=Option.some.inj H
   go_wp2
   go_ret
   exact ⟨_,ye,yr aa,yhb⟩
def r06_Count.f (k : Nat) (a0 : Int) (a1 : Int) : Option (Int):=(r06_Row.f k a0).bind fun aa=>(if 0≤a1 then (if a1 < (aa.length : Int) then (some (rd aa a1)) else (none)) else (none))
theorem r06_Count.mono : ∀ a0 a1 k,LeO (r06_Count.f k a0 a1) (r06_Count.f (k+1) a0 a1):=by
 intro a0 a1 k
 unfold r06_Count.f
 repeat' with_reducible first|apply r06_Row.mono|apply yLr|apply yLn|apply yLi|apply yLb|intro _
set_option maxHeartbeats 8000000 in
set_option maxRecDepth 100000 in
theorem r06_Count.calls (k : Nat) (a0 : Int) (a1 : Int) (r : Int) (w : World) (h : r06_Count.f k a0 a1=some r) :
  Calls Try.prog 43 #[.int .i64 a0, .int .i64 a1] w fun e w' => e=.returned (.int .u64 r)∧Below w.heap.size w w' := by
 have HB:=zm (Below.refl w.heap.size w);have H:=h
 unfold r06_Count.f at H
 clear h
 obtain ⟨aa,A3,H⟩:=ybi H
 obtain ⟨c4,H⟩:=yif H
 have aj : decide (0≤a1)=true:=decide_eq_true c4
 clear c4
 obtain ⟨c5,H⟩:=yif H
 have ak : decide (a1 < (aa.length : Int))=true:=decide_eq_true c5
 clear c5
 obtain rfl:=Option.some.inj H
 go_enter Try.func43,Try.ntmps43
 go_wp2_with (first|((with_reducible refine gate_callee (f:=81) rfl ?_);refine ygl 6 Try.func81 #[.int .i64 a0] ?_;(with_reducible refine (r06_Row.calls k a0 aa _ A3.out).mono ?_);rintro e w6 ⟨al,rfl,ho0,hb⟩;refine ⟨_,rfl, ?_⟩;have ac:=zm (Kd.R_lower ho0 (zE yhb));replace HB:=ybs hb;(try clear hb);(try clear ho0);obtain ⟨Ao7,co7,eo7⟩:=Kd.R_slice ac.out;subst eo7;have ae : 0≤(a1 : Int):=yt;have af : a1 < (aa.length : Int):=yt;obtain ⟨ai,ah,ag⟩:=Kd.at_int (Kd.R_reads' ac.out).2.2 a1 ae af;cases ah;replace ae:=eq_true ae;replace af:=eq_true af))
 go_ret
 exact ⟨ye,yhb⟩
def r06_Size.l0 : Nat→Int→Int→Option (Int)
 | 0,_,_=>none
 | k+1,x0,x3=>if x3≤12 then (if x0=x3 then (some x3) else (if x0=(wrap64 (-x3)) then (some x3) else (r06_Size.l0 k x0 (wrap64 (x3+1))))) else (some 13)
def r06_Size.f (k : Nat) (a0 : Int) : Option (Int):=r06_Size.l0 k a0 0
theorem r06_Size.mono_l : ∀ k,(∀ y0 y1,LeO (r06_Size.l0 k y0 y1) (r06_Size.l0 (k+1) y0 y1))
 | 0=>fun _ _ r h=>by simp [r06_Size.l0] at h
 | k+1=>by
  have ih0:=r06_Size.mono_l k
  ·
   intro y0 y1
   unfold r06_Size.l0
   repeat' with_reducible first|apply ih0|apply yLr|apply yLn|apply yLi|apply yLb|intro _
theorem r06_Size.mono : ∀ a0 k,LeO (r06_Size.f k a0) (r06_Size.f (k+1) a0):=by
 intro a0 k
 have ih0:=r06_Size.mono_l k
 unfold r06_Size.f
 repeat' with_reducible first|apply ih0|apply yLr|apply yLn|apply yLi|apply yLb|intro _
set_option maxHeartbeats 8000000 in
set_option maxRecDepth 100000 in
theorem r06_Size.calls (k : Nat) (a0 : Int) (r : Int) (w : World) (h : r06_Size.f k a0=some r) :
  Calls Try.prog 80 #[.int .i64 a0] w fun e w' => e=.returned (.int .i64 r)∧Drawn0 w w' := by
 have H:=h
 unfold r06_Size.f at H
 clear h
 have H' := zm H
 clear H
 go_enter Try.func80,Try.ntmps80
 go_wp2
 go_loopg [3] k (fun kq v3 w' => ∃ (aa : Int),v3=.int .i64 aa∧Aside0 (r06_Size.l0 kq a0 aa=some r)∧Aside0 (kq≤k)∧Drawn0 w w')
 case atStart=>exact ⟨(0),yq,H',⟨Nat.le_refl _⟩,yd⟩
 case round =>
  clear H'
  obtain ⟨aa,rfl,HA,HK1,⟨m1,rfl⟩⟩:=hrel
  obtain ⟨k1,rfl⟩:=ysu gk (fun h=>by subst h;exact absurd HA.out (by simp [r06_Size.l0]))
  have H:=HA.out;clear HA
  simp only [r06_Size.l0] at H
  by_cases c2 : aa≤12
  ·
   rw [if_pos c2] at H
   have ac:=yD c2
   clear c2
   by_cases c3 : a0=aa
   ·
    rw [if_pos c3] at H
    obtain ⟨ae,af⟩:=yE c3
    clear c3
    obtain rfl:=Option.some.inj H
    go_wp2
    go_ret
    exact ⟨yq,yd⟩
   rw [if_neg c3] at H
   obtain ⟨ae,af⟩:=yF c3
   by_cases c4 : a0=(wrap64 (-aa))
   ·
    rw [if_pos c4] at H
    obtain ⟨ag,ah⟩:=yE c4
    clear c4
    obtain rfl:=Option.some.inj H
    go_wp2
    go_ret
    exact ⟨yq,yd⟩
   rw [if_neg c4] at H
   obtain ⟨ag,ah⟩:=yF c4
   have H' := zm H
   clear H
   go_wp2
   go_roundg k1
   case measure=>exact yom1 HK1
   case rel=>exact ⟨(wrap64 (aa+1)),yq,H',⟨yom1 HK1⟩,yd⟩
  rw [if_neg c2] at H
  have ac:=yG c2
  clear c2
  obtain rfl:=Option.some.inj H
  go_wp2
  go_ret
  exact ⟨yq,yd⟩
def r06_Pulses.l0 : Nat→List Int→Int→Int→Option (Int)
 | 0,_,_,_=>none
 | k+1,x0,x3,x4=>if x4 < (x0.length : Int) then (if 0≤x4 then ((r06_Size.f k (rd x0 x4)).bind fun ac=>(r06_Pulses.l0 k x0 (wrap64 (x3+ac)) (wrap64 (x4+1)))) else (none)) else (some x3)
def r06_Pulses.f (k : Nat) (l0 : List Int) : Option (Int):=r06_Pulses.l0 k l0 0 0
theorem r06_Pulses.mono_l : ∀ k,(∀ y0 y1 y2,LeO (r06_Pulses.l0 k y0 y1 y2) (r06_Pulses.l0 (k+1) y0 y1 y2))
 | 0=>fun _ _ _ r h=>by simp [r06_Pulses.l0] at h
 | k+1=>by
  have ih0:=r06_Pulses.mono_l k
  ·
   intro y0 y1 y2
   unfold r06_Pulses.l0
   repeat' with_reducible first|apply ih0|apply r06_Size.mono|apply yLr|apply yLn|apply yLi|apply yLb|intro _
theorem r06_Pulses.mono : ∀ a0 k,LeO (r06_Pulses.f k a0) (r06_Pulses.f (k+1) a0):=by
 intro a0 k
 have ih0:=r06_Pulses.mono_l k
 unfold r06_Pulses.f
 repeat' with_reducible first|apply ih0|apply r06_Size.mono|apply yLr|apply yLn|apply yLi|apply yLb|intro _
set_option maxHeartbeats 8000000 in
set_option maxRecDepth 100000 in
theorem r06_Pulses.calls (k : Nat) (A0 : Option Addr) (c0 : Nat) (l0 : List Int) (r : Int) (w : World) (hr0 : Kd.C (Kd.int .i64) w A0 l0.length l0) (hc0 : l0.length≤c0) (h : r06_Pulses.f k l0=some r) :
  Calls Try.prog 40 #[.slice A0 l0.length c0] w fun e w' => e=.returned (.int .i64 r)∧Drawn0 w w' := by
 have HR0:=zm hr0;have HC0:=zm hc0;clear hr0 hc0;have H:=h
 unfold r06_Pulses.f at H
 clear h
 have H' := zm H
 clear H
 go_enter Try.func40,Try.ntmps40
 go_wp2
 go_loopg [3,4] k (fun kq v3 v4 w' => ∃ (ae : Int) (aa : Int),v3=.int .i64 ae∧v4=.int .i64 aa∧Aside0 (r06_Pulses.l0 kq l0 ae aa=some r)∧Aside0 (kq≤k)∧Drawn0 w w')
 case atStart=>exact ⟨(0),(0),yq,yq,H',⟨Nat.le_refl _⟩,yd⟩
 case round =>
  clear H'
  obtain ⟨ae,aa,rfl,rfl,HA,HK1,⟨m1,rfl⟩⟩:=hrel
  obtain ⟨k1,rfl⟩:=ysu gk (fun h=>by subst h;exact absurd HA.out (by simp [r06_Pulses.l0]))
  have H:=HA.out;clear HA
  simp only [r06_Pulses.l0] at H
  by_cases c2 : aa < (l0.length : Int)
  ·
   rw [if_pos c2] at H
   have ag:=yD c2
   clear c2
   obtain ⟨c3,H⟩:=yif H
   have aj : decide (0≤aa)=true:=decide_eq_true c3
   clear c3
   obtain ⟨ac,A4,H⟩:=ybi H
   have H' := zm H
   clear H
   obtain ⟨ai,ah,af,ak,al⟩:=yai HR0 aa
   cases ah
   go_wp2_with (first|((with_reducible refine gate_callee (f:=80) rfl ?_);refine ygl 16 Try.func80 #[.int .i64 (rd l0 aa)] ?_;(with_reducible refine (r06_Size.calls k1 (rd l0 aa) ac _ A4.out).mono ?_);rintro e w' ⟨rfl,⟨nd,rfl⟩⟩;refine ⟨_,rfl, ?_⟩))
   go_roundg k1
   case measure=>exact yom1 HK1
   case rel=>exact ⟨(wrap64 (ae+ac)),(wrap64 (aa+1)),yq,yq,H',⟨yom1 HK1⟩,yd⟩
  rw [if_neg c2] at H
  have ag:=yG c2
  clear c2
  obtain rfl:=Option.some.inj H
  go_wp2
  go_ret
  exact ⟨yq,yd⟩
def r06_order.l0 : Nat→Int→List Int→Int→Option (List Int)
 | 0,_,_,_=>none
 | k+1,x0,x3,x4=>if x4≤x0 then ((some (([x4,wrap64 (-x4)] : List Int) : List Int)).bind fun ac=>(if x3.length+ac.length < 17592186044416 then (r06_order.l0 k x0 (x3 ++ ac) (wrap64 (x4+1))) else (none))) else (some x3)
def r06_order.f (k : Nat) (a0 : Int) : Option (List Int):=r06_order.l0 k a0 (([0] : List Int)) 1
theorem r06_order.mono_l : ∀ k,(∀ y0 y1 y2,LeO (r06_order.l0 k y0 y1 y2) (r06_order.l0 (k+1) y0 y1 y2))
 | 0=>fun _ _ _ r h=>by simp [r06_order.l0] at h
 | k+1=>by
  have ih0:=r06_order.mono_l k
  ·
   intro y0 y1 y2
   unfold r06_order.l0
   repeat' with_reducible first|apply ih0|apply yLr|apply yLn|apply yLi|apply yLb|intro _
theorem r06_order.mono : ∀ a0 k,LeO (r06_order.f k a0) (r06_order.f (k+1) a0):=by
 intro a0 k
 have ih0:=r06_order.mono_l k
 unfold r06_order.f
 repeat' with_reducible first|apply ih0|apply yLr|apply yLn|apply yLi|apply yLb|intro _
set_option maxHeartbeats 8000000 in
set_option maxRecDepth 100000 in
theorem r06_order.calls (k : Nat) (a0 : Int) (r : List Int) (w : World) (h : r06_order.f k a0=some r) :
  Calls Try.prog 82 #[.int .i64 a0] w fun e w' => ∃ v0_ : Value,e=.returned (v0_)∧Kd.R (Kd.int .i64) 3 w' w.heap.size (fun _=>True) v0_ r∧Below w.heap.size w w' := by
 have HB:=zm (Below.refl w.heap.size w);have H:=h
 unfold r06_order.f at H
 clear h
 obtain ⟨am,ah⟩ : ∃ y_ : List Int,y_=(([0] : List Int)):=⟨_,rfl⟩
 replace H : (r06_order.l0 k a0 am 1)=some r:=yrw ah H
 have ak:=zm ah;clear ah
 have H' := zm H
 clear H
 go_enter Try.func82,Try.ntmps82
 go_wp2_with (first|((with_reducible refine gate_dst (N:=5) rfl ?_);refine Kd.R_lit (Kd.int .i64) _ 3 ?hg (N:=5) ?hd (xs:=([0] : List Int)) (inner := [.int .i64 0]) (ok:=fun _=>True) (okp:=fun _=>True) ?hr ?hp (fun _ hk=>hk) trivial (Below.refl _ _) (Nat.le_refl _) (by simp) ?_;(case hd=>rfl);(case hg=>rfl);(case hr=>first|(go_simp;done)|(go_simp;rfl));(case hp=>exact (Reps.one (show Kd.M (Kd.int .i64) _ _ _ 0 [.int .i64 0] from rfl) (Reps.none _ _)));intro aw w2 ho3 hb hg_ hnew_;clear hg_ hnew_;(first|rw [← ak.out] at ho3|(simp only [Int.reduceToNat] at ho3;rw [← ak.out] at ho3));have ao:=zm (Kd.R_lower ho3 (zE yhb));replace HB:=ybs hb;clear hb ho3))
 go_loopg [3,4] k (fun kq v3 v4 w' => ∃ (af : List Int) (aa : Int),v4=.int .i64 aa∧Aside0 (r06_order.l0 kq a0 af aa=some r)∧Aside0 (kq≤k)∧Aside0 (Kd.R (Kd.int .i64) 3 w' w.heap.size (fun _=>True) v3 af)∧Aside0 (Below w.heap.size w w'))
 case atStart=>exact ⟨(am),(1),yq,H',⟨Nat.le_refl _⟩,⟨yr ao⟩,⟨yhb⟩⟩
 case round =>
  clear H'
  obtain ⟨af,aa,rfl,HA,HK1,ag,HB⟩:=hrel
  obtain ⟨k1,rfl⟩:=ysu gk (fun h=>by subst h;exact absurd HA.out (by simp [r06_order.l0]))
  have H:=HA.out;clear HA
  simp only [r06_order.l0] at H
  by_cases c4 : aa≤a0
  ·
   rw [if_pos c4] at H
   have av:=yD c4
   clear c4
   obtain ⟨ac,ai⟩ : ∃ y_ : List Int,y_=(([aa,wrap64 (-aa)] : List Int)):=⟨_,rfl⟩
   replace H : (if af.length+ac.length < 17592186044416 then (r06_order.l0 k1 a0 (af ++ ac) (wrap64 (aa+1))) else (none))=some r:=yrw ai H
   have al:=zm ai;clear ai
   obtain ⟨c5,H⟩:=yif H
   have LMc5:=zm c5;clear c5
   obtain ⟨ap,aj⟩ : ∃ y_ : List Int,y_=(af ++ ac):=⟨_,rfl⟩
   replace H : (r06_order.l0 k1 a0 ap (wrap64 (aa+1)))=some r:=yrw aj H
   have aq:=zm aj;clear aj
   have H' := zm H
   clear H
   go_wp2_with (first|((with_reducible refine gate_dst (N:=15) rfl ?_);refine Kd.R_lit (Kd.int .i64) _ 3 ?hg (N:=15) ?hd (xs:=([aa,wrap64 (-aa)] : List Int)) (inner := [.int .i64 aa, .int .i64 (wrap64 (-aa))]) (ok:=fun _=>True) (okp:=fun _=>True) ?hr ?hp (fun _ hk=>hk) trivial (Below.refl _ _) (Nat.le_refl _) (by simp) ?_;(case hd=>rfl);(case hg=>rfl);(case hr=>first|(go_simp;done)|(go_simp;rfl));(case hp=>exact (Reps.one (show Kd.M (Kd.int .i64) _ _ _ aa [.int .i64 aa] from rfl) (Reps.one (show Kd.M (Kd.int .i64) _ _ _ (wrap64 (-aa)) [.int .i64 (wrap64 (-aa))] from rfl) (Reps.none _ _))));intro ax w6 ho7 hb hg_ hnew_;clear hg_ hnew_;(first|rw [← al.out] at ho7|(simp only [Int.reduceToNat] at ho7;rw [← al.out] at ho7));have ae:=zm (Kd.R_lower (Kd.R_new' ho7 (Kd.R_lt (yr ag))) (zE yhb));replace ag:=zm (Kd.R_elder' (yr ag) (Kd.R_base ho7) hb);replace HB:=ybs hb;clear hb ho7;obtain ⟨Ao9,co9,eo9⟩:=Kd.R_slice ae.out;subst eo9)|((with_reducible refine gate_builtin (b:=.append) (xs := #[.tmp 11, .tmp 15]) rfl ?_);at_builtin;refine Kd.R_append_rows (Kd.int .i64) (w0:=w) w.heap.size rfl (.tmp 11) (.tmp 15) 49 3 (.int .i64 0) 8 rfl Try.underlying49 info3 rfl (by decide) (by omega) u3 af ac _ _ _ (fun k_=>some k_≠(.slice Ao9 ac.length co9 : Value).ownBlock) (fun _=>False) rfl rfl ?aO ?aR (fun _ _ h=>h) (fun _ h=>h.elim) ?aF ?aB ?aS ?aL ?_;(case aR=>exact yce (Kd.R_reads' ae.out).2.2);(case aB=>exact yhb);(case aF=>exact (fun k_ hk=>Kd.fresh' (Kd.R_lt (yr ae)) k_ hk));(case aO=>exact (yR0 ag));(case aS=>exact (zE yhb));(case aL=>have:=LMc5.out;omega);intro ay w8 ho hb hg hat;rw [← aq.out] at ho;replace ae:=zm (Kd.R_after (ok:=(fun _=>True)) (yr ae) hg hat);replace HB:=zm (hb);have au:=zm (ho);clear ag;clear ho hb hg hat))
   go_roundg k1
   case measure=>exact yom1 HK1
   case rel=>exact ⟨(ap),(wrap64 (aa+1)),yq,H',⟨yom1 HK1⟩,⟨yR0 au⟩,⟨yhb⟩⟩
  rw [if_neg c4] at H
  have av:=yG c4
  clear c4
  obtain rfl:=Option.some.inj H
  go_wp2
  go_ret
  exact ⟨_,ye,yr ag,yhb⟩
mutual
def r06_Index.l0 : Nat→List Int→Int→Int→Int→Option (Int)
 | 0,_,_,_,_=>none
 | k+1,x0,x3,x4,x5=>if x5 < (x0.length : Int) then ((r06_Row.f k (wrap64 ((wrap64 ((x0.length : Int) - x5)) - 1))).bind fun ai=>((r06_order.f k x3).bind fun ae=>(r06_Index.l1 k x0 x3 x4 x5 ai ae 0))) else (some x4)
def r06_Index.l1 : Nat→List Int→Int→Int→Int→List Int→List Int→Int→Option (Int)
 | 0,_,_,_,_,_,_,_=>none
 | k+1,x0,x3,x4,x5,x6,x7,x8=>if x8 < (x7.length : Int) then (if 0≤x8 then (if 0≤x5 then (if x5 < (x0.length : Int) then (if (rd x7 x8)=(rd x0 x5) then ((r06_Size.f k (rd x0 x5)).bind fun aD=>(r06_Index.l0 k x0 (wrap64 (x3 - aD)) x4 (wrap64 (x5+1)))) else ((r06_Size.f k (rd x7 x8)).bind fun am=>(if 0≤(wrap64 (x3 - am)) then (if (wrap64 (x3 - am)) < (x6.length : Int) then (r06_Index.l1 k x0 x3 (IntKind.u64.wrap (x4+(rd x6 (wrap64 (x3 - am))))) x5 x6 x7 (wrap64 (x8+1))) else (none)) else (none)))) else (none)) else (none)) else (none)) else (if 0≤x5 then (if x5 < (x0.length : Int) then ((r06_Size.f k (rd x0 x5)).bind fun aE=>(r06_Index.l0 k x0 (wrap64 (x3 - aE)) x4 (wrap64 (x5+1)))) else (none)) else (none))
end
def r06_Index.f (k : Nat) (l0 : List Int) : Option (Int):=(r06_Pulses.f k l0).bind fun aG=>(r06_Index.l0 k l0 aG 0 0)
theorem r06_Index.mono_l : ∀ k,(∀ y0 y1 y2 y3,LeO (r06_Index.l0 k y0 y1 y2 y3) (r06_Index.l0 (k+1) y0 y1 y2 y3))∧(∀ y0 y1 y2 y3 y4 y5 y6,LeO (r06_Index.l1 k y0 y1 y2 y3 y4 y5 y6) (r06_Index.l1 (k+1) y0 y1 y2 y3 y4 y5 y6))
 | 0=>⟨fun _ _ _ _ r h=>by simp [r06_Index.l0] at h,fun _ _ _ _ _ _ _ r h=>by simp [r06_Index.l1] at h⟩
 | k+1=>by
  obtain ⟨ih0,ih1⟩:=r06_Index.mono_l k
  refine ⟨?_, ?_⟩
  ·
   intro y0 y1 y2 y3
   unfold r06_Index.l0
   repeat' with_reducible first|apply ih0|apply ih1|apply r06_Pulses.mono|apply r06_Row.mono|apply r06_Size.mono|apply r06_order.mono|apply yLr|apply yLn|apply yLi|apply yLb|intro _
  intro y0 y1 y2 y3 y4 y5 y6
  unfold r06_Index.l1
  repeat' with_reducible first|apply ih0|apply ih1|apply r06_Pulses.mono|apply r06_Row.mono|apply r06_Size.mono|apply r06_order.mono|apply yLr|apply yLn|apply yLi|apply yLb|intro _
theorem r06_Index.mono : ∀ a0 k,LeO (r06_Index.f k a0) (r06_Index.f (k+1) a0):=by
 intro a0 k
 obtain ⟨ih0,ih1⟩:=r06_Index.mono_l k
 unfold r06_Index.f
 repeat' with_reducible first|apply ih0|apply ih1|apply r06_Pulses.mono|apply r06_Row.mono|apply r06_Size.mono|apply r06_order.mono|apply yLr|apply yLn|apply yLi|apply yLb|intro _
set_option maxHeartbeats 8000000 in
set_option maxRecDepth 100000 in
theorem r06_Index.calls (k : Nat) (A0 : Option Addr) (c0 : Nat) (l0 : List Int) (r : Int) (w : World) (hr0 : Kd.C (Kd.int .i64) w A0 l0.length l0) (hc0 : l0.length≤c0) (h : r06_Index.f k l0=some r) :
  Calls Try.prog 42 #[.slice A0 l0.length c0] w fun e w' => e=.returned (.int .u64 r)∧Below w.heap.size w w' := by
 have HR0:=zm hr0;have HC0:=zm hc0;clear hr0 hc0;have HB:=zm (Below.refl w.heap.size w);have H:=h
 unfold r06_Index.f at H
 clear h
 obtain ⟨aG,A2,H⟩:=ybi H
 have H' := zm H
 clear H
 go_enter Try.func42,Try.ntmps42
 go_wp2_with (first|(go_at_call 40;(with_reducible refine (r06_Pulses.calls k _ _ l0 aG _ ?ao HC0.out A2.out).mono ?_);(case ao=>exact yce HR0.out);rintro e w' ⟨rfl,⟨nd,rfl⟩⟩;(try exact yww)))
 repeat (go_quiet (first|(go_at_call 40;(with_reducible refine (r06_Pulses.calls k _ _ l0 aG _ ?ao HC0.out A2.out).mono ?_);(case ao=>exact yce HR0.out);rintro e w' ⟨rfl,⟨nd,rfl⟩⟩;(try exact yww)));try go_wp2_with (first|(go_at_call 40;(with_reducible refine (r06_Pulses.calls k _ _ l0 aG _ ?ao HC0.out A2.out).mono ?_);(case ao=>exact yce HR0.out);rintro e w' ⟨rfl,⟨nd,rfl⟩⟩;(try exact yww))))
 go_loopg [3,4,5] k (fun kq v3 v4 v5 w' => ∃ (aj : Int) (aM : Int) (aa : Int),v3=.int .i64 aj∧v4=.int .u64 aM∧v5=.int .i64 aa∧Aside0 (r06_Index.l0 kq l0 aj aM aa=some r)∧Aside0 (kq≤k)∧Aside0 (Below w.heap.size w w'))
 case atStart=>exact ⟨(aG),(0),(0),yq,yq,yq,H',⟨Nat.le_refl _⟩,⟨yhb⟩⟩
 case round =>
  clear H'
  obtain ⟨aj,aM,aa,rfl,rfl,rfl,HA,HK1,HB⟩:=hrel
  obtain ⟨k1,rfl⟩:=ysu gk (fun h=>by subst h;exact absurd HA.out (by simp [r06_Index.l0]))
  have H:=HA.out;clear HA
  simp only [r06_Index.l0] at H
  by_cases c3 : aa < (l0.length : Int)
  ·
   rw [if_pos c3] at H
   have bc:=yD c3
   clear c3
   obtain ⟨ai,A4,H⟩:=ybi H
   obtain ⟨ae,A5,H⟩:=ybi H
   have H' := zm H
   clear H
   go_wp2_with (first|(go_at_call 81;(with_reducible refine (r06_Row.calls k1 (wrap64 ((wrap64 ((l0.length : Int) - aa)) - 1)) ai _ A4.out).mono ?_);rintro e w6 ⟨aV,rfl,ho0,hb⟩;have af:=zm (Kd.R_lower ho0 (zE yhb));replace HB:=ybs hb;(try clear hb);(try clear ho0))|(go_at_call 82;(with_reducible refine (r06_order.calls k1 aj ae _ A5.out).mono ?_);rintro e w7 ⟨aW,rfl,ho0,hb⟩;replace af:=yRb af hb;have aI:=zm (Kd.R_lower ho0 (zE yhb));replace HB:=ybs hb;(try clear hb);(try clear ho0)))
   repeat (go_quiet (first|(go_at_call 81;(with_reducible refine (r06_Row.calls k1 (wrap64 ((wrap64 ((l0.length : Int) - aa)) - 1)) ai _ A4.out).mono ?_);rintro e w6 ⟨aV,rfl,ho0,hb⟩;have af:=zm (Kd.R_lower ho0 (zE yhb));replace HB:=ybs hb;(try clear hb);(try clear ho0))|(go_at_call 82;(with_reducible refine (r06_order.calls k1 aj ae _ A5.out).mono ?_);rintro e w7 ⟨aW,rfl,ho0,hb⟩;replace af:=yRb af hb;have aI:=zm (Kd.R_lower ho0 (zE yhb));replace HB:=ybs hb;(try clear hb);(try clear ho0)));try go_wp2_with (first|(go_at_call 81;(with_reducible refine (r06_Row.calls k1 (wrap64 ((wrap64 ((l0.length : Int) - aa)) - 1)) ai _ A4.out).mono ?_);rintro e w6 ⟨aV,rfl,ho0,hb⟩;have af:=zm (Kd.R_lower ho0 (zE yhb));replace HB:=ybs hb;(try clear hb);(try clear ho0))|(go_at_call 82;(with_reducible refine (r06_order.calls k1 aj ae _ A5.out).mono ?_);rintro e w7 ⟨aW,rfl,ho0,hb⟩;replace af:=yRb af hb;have aI:=zm (Kd.R_lower ho0 (zE yhb));replace HB:=ybs hb;(try clear hb);(try clear ho0))))
   go_loopg [4,8] k1 (fun kq v4 v8 w' => ∃ (aH : Int) (ac : Int),v4=.int .u64 aH∧v8=.int .i64 ac∧Aside0 (r06_Index.l1 kq l0 aj aH aa ai ae ac=some r)∧Aside0 (kq≤k1)∧Aside0 (Kd.R (Kd.int .u64) 51 w' w.heap.size (fun _=>True) aV ai)∧Aside0 (Kd.R (Kd.int .i64) 3 w' w.heap.size (fun _=>True) aW ae)∧Aside0 (Below w.heap.size w w'))
   case atStart=>exact ⟨(aM),(0),yq,yq,H',⟨Nat.le_refl _⟩,⟨yr af⟩,⟨yr aI⟩,⟨yhb⟩⟩
   case round =>
    clear H'
    try clear bc
    obtain ⟨aH,ac,rfl,rfl,HA,HK2,aq,au,HB⟩:=hrel
    obtain ⟨k2,rfl⟩:=ysu gk (fun h=>by subst h;exact absurd HA.out (by simp [r06_Index.l1]))
    have H:=HA.out;clear HA
    simp only [r06_Index.l1] at H
    by_cases c8 : ac < (ae.length : Int)
    ·
     rw [if_pos c8] at H
     have bl:=yD c8
     clear c8
     obtain ⟨c9,H⟩:=yif H
     have bB : decide (0≤ac)=true:=decide_eq_true c9
     clear c9
     obtain ⟨c10,H⟩:=yif H
     have bs : decide (0≤aa)=true:=decide_eq_true c10
     clear c10
     obtain ⟨c11,H⟩:=yif H
     have bu : decide (aa < (l0.length : Int))=true:=decide_eq_true c11
     clear c11
     by_cases c12 : (rd ae ac)=(rd l0 aa)
     ·
      rw [if_pos c12] at H
      obtain ⟨bd,bf⟩:=yE c12
      clear c12
      obtain ⟨aD,A13,H⟩:=ybi H
      have H' := zm H
      clear H
      obtain ⟨bC,bD,bm⟩:=Kd.R_slice au.out
      subst bm
      have av : 0≤(ac : Int):=yt
      have aw : ac < (ae.length : Int):=yt
      obtain ⟨aQ,aX,aN⟩:=Kd.at_int (Kd.R_reads' au.out).2.2 ac av aw
      cases aX
      replace av:=eq_true av
      replace aw:=eq_true aw
      have ax : 0≤(aa : Int):=yt
      have ay : aa < (l0.length : Int):=yt
      obtain ⟨aT,aY,ag⟩:=Kd.at_int HR0.out aa ax ay
      cases aY
      replace ag:=yhx HB ag
      replace ax:=eq_true ax
      replace ay:=eq_true ay
      have aZ : 0≤(aa : Int):=yt
      have a7 : aa < (l0.length : Int):=yt
      obtain ⟨bg,bn,az⟩:=Kd.at_int HR0.out aa aZ a7
      obtain rfl : aT=bg:=(by injection bn)
      replace az:=yhx HB az
      replace aZ:=eq_true aZ
      replace a7:=eq_true a7
      go_wp2_with (first|(go_at_call 80;(with_reducible refine (r06_Size.calls k2 (rd l0 aa) aD _ A13.out).mono ?_);rintro e w' ⟨rfl,⟨nd,rfl⟩⟩;(try exact yww)))
      repeat (go_quiet (first|(go_at_call 80;(with_reducible refine (r06_Size.calls k2 (rd l0 aa) aD _ A13.out).mono ?_);rintro e w' ⟨rfl,⟨nd,rfl⟩⟩;(try exact yww)));try go_wp2_with (first|(go_at_call 80;(with_reducible refine (r06_Size.calls k2 (rd l0 aa) aD _ A13.out).mono ?_);rintro e w' ⟨rfl,⟨nd,rfl⟩⟩;(try exact yww))))
      go_roundg k2
      case measure=>exact yom2 HK1 HK2
      case rel=>exact ⟨(wrap64 (aj - aD)),(aH),(wrap64 (aa+1)),yq,yq,yq,H',⟨yom2 HK1 HK2⟩,⟨yhb⟩⟩
     rw [if_neg c12] at H
     obtain ⟨bd,bf⟩:=yF c12
     obtain ⟨am,A15,H⟩:=ybi H
     obtain ⟨ah,ap⟩ : ∃ j_ : Int,(wrap64 (aj - am))=j_:=⟨_,rfl⟩
     (first|rw [ap] at H|simp only [ap] at H)
     (try rw [ap] at A15)
     have hji16w : (IntKind.i64.wrap (aj - am))=ah:=(i64_w _).trans ap
     obtain ⟨c17,H⟩:=yif H
     have bv : decide (0≤(ah))=true:=decide_eq_true c17
     clear c17
     obtain ⟨c18,H⟩:=yif H
     have bw : decide ((ah) < (ai.length : Int))=true:=decide_eq_true c18
     clear c18
     have H' := zm H
     clear H
     obtain ⟨bE,bF,bo⟩:=Kd.R_slice au.out
     subst bo
     have av : 0≤(ac : Int):=yt
     have aw : ac < (ae.length : Int):=yt
     obtain ⟨aQ,aX,aN⟩:=Kd.at_int (Kd.R_reads' au.out).2.2 ac av aw
     cases aX
     replace av:=eq_true av
     replace aw:=eq_true aw
     have ax : 0≤(aa : Int):=yt
     have ay : aa < (l0.length : Int):=yt
     obtain ⟨aT,aY,ag⟩:=Kd.at_int HR0.out aa ax ay
     cases aY
     replace ag:=yhx HB ag
     replace ax:=eq_true ax
     replace ay:=eq_true ay
     have a8 : 0≤(ac : Int):=yt
     have a9 : ac < (ae.length : Int):=yt
     obtain ⟨bh,bp,bk⟩:=Kd.at_int (Kd.R_reads' au.out).2.2 ac a8 a9
     obtain rfl : aQ=bh:=(by injection bp)
     replace a8:=eq_true a8
     replace a9:=eq_true a9
     go_wp2_with (first|(go_at_call 80;(with_reducible refine (r06_Size.calls k2 (rd ae ac) am _ A15.out).mono ?_);rintro e w' ⟨rfl,⟨nd,rfl⟩⟩;(try exact yww);obtain ⟨bi,bj,aJ⟩:=Kd.R_slice aq.out;subst aJ;have ak : 0≤((ah) : Int):=yt;have al : (ah) < (ai.length : Int):=yt;obtain ⟨aU,aK,aA⟩:=Kd.at_int (Kd.R_reads' aq.out).2.2 (ah) ak al;cases aK;replace ak:=eq_true ak;replace al:=eq_true al))
     repeat (go_quiet (first|(go_at_call 80;(with_reducible refine (r06_Size.calls k2 (rd ae ac) am _ A15.out).mono ?_);rintro e w' ⟨rfl,⟨nd,rfl⟩⟩;(try exact yww);obtain ⟨bi,bj,aJ⟩:=Kd.R_slice aq.out;subst aJ;have ak : 0≤((ah) : Int):=yt;have al : (ah) < (ai.length : Int):=yt;obtain ⟨aU,aK,aA⟩:=Kd.at_int (Kd.R_reads' aq.out).2.2 (ah) ak al;cases aK;replace ak:=eq_true ak;replace al:=eq_true al));try go_wp2_with (first|(go_at_call 80;(with_reducible refine (r06_Size.calls k2 (rd ae ac) am _ A15.out).mono ?_);rintro e w' ⟨rfl,⟨nd,rfl⟩⟩;(try exact yww);obtain ⟨bi,bj,aJ⟩:=Kd.R_slice aq.out;subst aJ;have ak : 0≤((ah) : Int):=yt;have al : (ah) < (ai.length : Int):=yt;obtain ⟨aU,aK,aA⟩:=Kd.at_int (Kd.R_reads' aq.out).2.2 (ah) ak al;cases aK;replace ak:=eq_true ak;replace al:=eq_true al)))
     go_roundg k2
     case measure=>exact yom2 HK1 HK2
     case rel=>exact ⟨(IntKind.u64.wrap (aH+(rd ai (ah)))),(wrap64 (ac+1)),(by first|rfl|(simp;done)|(simp only [← ap] <;> (first|rfl|simp))|(simp [*];done)),yq,H',⟨yom2 HK1 HK2⟩,⟨yr aq⟩,⟨yr au⟩,⟨yhb⟩⟩
    rw [if_neg c8] at H
    have bl:=yG c8
    clear c8
    obtain ⟨c21,H⟩:=yif H
    have bx : decide (0≤aa)=true:=decide_eq_true c21
    clear c21
    obtain ⟨c22,H⟩:=yif H
    have bz : decide (aa < (l0.length : Int))=true:=decide_eq_true c22
    clear c22
    obtain ⟨aE,A23,H⟩:=ybi H
    have H' := zm H
    clear H
    obtain ⟨bG,bH,bq⟩:=Kd.R_slice au.out
    subst bq
    have ba : 0≤(aa : Int):=yt
    have bb : aa < (l0.length : Int):=yt
    obtain ⟨bA,br,aC⟩:=Kd.at_int HR0.out aa ba bb
    cases br
    replace aC:=yhx HB aC
    replace ba:=eq_true ba
    replace bb:=eq_true bb
    go_wp2_with (first|(go_at_call 80;(with_reducible refine (r06_Size.calls k2 (rd l0 aa) aE _ A23.out).mono ?_);rintro e w' ⟨rfl,⟨nd,rfl⟩⟩;(try exact yww)))
    repeat (go_quiet (first|(go_at_call 80;(with_reducible refine (r06_Size.calls k2 (rd l0 aa) aE _ A23.out).mono ?_);rintro e w' ⟨rfl,⟨nd,rfl⟩⟩;(try exact yww)));try go_wp2_with (first|(go_at_call 80;(with_reducible refine (r06_Size.calls k2 (rd l0 aa) aE _ A23.out).mono ?_);rintro e w' ⟨rfl,⟨nd,rfl⟩⟩;(try exact yww))))
    go_roundg k2
    case measure=>exact yom2 HK1 HK2
    case rel=>exact ⟨(wrap64 (aj - aE)),(aH),(wrap64 (aa+1)),yq,yq,yq,H',⟨yom2 HK1 HK2⟩,⟨yhb⟩⟩
  rw [if_neg c3] at H
  have bc:=yG c3
  clear c3
  obtain rfl:=Option.some.inj H
  go_wp2
  repeat (go_quiet (fail);try go_wp2)
  go_ret
  exact ⟨ye,yhb⟩
def r11_Right.l0 : Nat→List Int→Bool→Int→Option (Bool)
 | 0,_,_,_=>none
 | k+1,x0,x3,x4=>if x4 < (x0.length : Int) then (if x3=true then (if 0≤x4 then (if (rd x0 x4) ≥ 0 then (r11_Right.l0 k x0 (decide ((rd x0 x4)≤44)) (wrap64 (x4+1))) else (r11_Right.l0 k x0 false (wrap64 (x4+1)))) else (none)) else (r11_Right.l0 k x0 false (wrap64 (x4+1)))) else (some x3)
def r11_Right.f (k : Nat) (l0 : List Int) : Option (Bool):=r11_Right.l0 k l0 ((l0.length : Int) == 5) 0
theorem r11_Right.mono_l : ∀ k,(∀ y0 y1 y2,LeO (r11_Right.l0 k y0 y1 y2) (r11_Right.l0 (k+1) y0 y1 y2))
 | 0=>fun _ _ _ r h=>by simp [r11_Right.l0] at h
 | k+1=>by
  have ih0:=r11_Right.mono_l k
  ·
   intro y0 y1 y2
   unfold r11_Right.l0
   repeat' with_reducible first|apply ih0|apply yLr|apply yLn|apply yLi|apply yLb|intro _
theorem r11_Right.mono : ∀ a0 k,LeO (r11_Right.f k a0) (r11_Right.f (k+1) a0):=by
 intro a0 k
 have ih0:=r11_Right.mono_l k
 unfold r11_Right.f
 repeat' with_reducible first|apply ih0|apply yLr|apply yLn|apply yLi|apply yLb|intro _
set_option maxHeartbeats 8000000 in
set_option maxRecDepth 100000 in
theorem r11_Right.calls (k : Nat) (A0 : Option Addr) (c0 : Nat) (l0 : List Int) (r : Bool) (w : World) (hr0 : Kd.C (Kd.int .i64) w A0 l0.length l0) (hc0 : l0.length≤c0) (h : r11_Right.f k l0=some r) :
  Calls Try.prog 47 #[.slice A0 l0.length c0] w fun e w' => e=.returned (.bool r)∧Drawn0 w w' := by
 have HR0:=zm hr0;have HC0:=zm hc0;clear hr0 hc0;have H:=h
 unfold r11_Right.f at H
 clear h
 have H' := zm H
 clear H
 go_enter Try.func47,Try.ntmps47
 go_wp2
 go_loopg [3,4] k (fun kq v3 v4 w' => ∃ (ac : Bool) (aa : Int),v3=.bool ac∧v4=.int .i64 aa∧Aside0 (r11_Right.l0 kq l0 ac aa=some r)∧Aside0 (kq≤k)∧Drawn0 w w')
 case atStart=>exact ⟨(((l0.length : Int) == 5)),(0),yq,yq,H',⟨Nat.le_refl _⟩,yd⟩
 case round =>
  clear H'
  obtain ⟨ac,aa,rfl,rfl,HA,HK1,⟨m1,rfl⟩⟩:=hrel
  obtain ⟨k1,rfl⟩:=ysu gk (fun h=>by subst h;exact absurd HA.out (by simp [r11_Right.l0]))
  have H:=HA.out;clear HA
  simp only [r11_Right.l0] at H
  by_cases c2 : aa < (l0.length : Int)
  ·
   rw [if_pos c2] at H
   have al:=yD c2
   clear c2
   by_cases c3 : ac=true
   ·
    subst c3
    rw [if_pos rfl] at H
    obtain ⟨c4,H⟩:=yif H
    have au : decide (0≤aa)=true:=decide_eq_true c4
    clear c4
    by_cases c5 : (rd l0 aa) ≥ 0
    ·
     rw [if_pos c5] at H
     have am:=yDl c5
     clear c5
     have H' := zm H
     clear H
     obtain ⟨af,ag,ae,ao,ap⟩:=yai HR0 aa
     cases ag
     have ah : 0≤(aa : Int):=yt
     have ai : aa < (l0.length : Int):=yt
     obtain ⟨aj,aq,ak⟩:=Kd.at_int HR0.out aa ah ai
     obtain rfl : af=aj:=(by injection aq)
     replace ah:=eq_true ah
     replace ai:=eq_true ai
     go_wp2
     go_roundg k1
     case measure=>exact yom1 HK1
     case rel=>exact ⟨(decide ((rd l0 aa)≤44)),(wrap64 (aa+1)),yq,yq,H',⟨yom1 HK1⟩,yd⟩
    rw [if_neg c5] at H
    have am:=yGl c5
    clear c5
    have H' := zm H
    clear H
    obtain ⟨af,ag,ae,ao,ap⟩:=yai HR0 aa
    cases ag
    go_wp2
    go_roundg k1
    case measure=>exact yom1 HK1
    case rel=>exact ⟨(false),(wrap64 (aa+1)),yq,yq,H',⟨yom1 HK1⟩,yd⟩
   replace c3:=Bool.eq_false_iff.mpr c3
   subst c3
   rw [ynf] at H
   have H' := zm H
   clear H
   go_wp2
   go_roundg k1
   case measure=>exact yom1 HK1
   case rel=>exact ⟨(false),(wrap64 (aa+1)),yq,yq,H',⟨yom1 HK1⟩,yd⟩
  rw [if_neg c2] at H
  have al:=yG c2
  clear c2
  obtain rfl:=Option.some.inj H
  go_wp2
  go_ret
  exact ⟨yq,yd⟩
end Go.Proofs.Ytnmbndkojpjkmaa.Prt
