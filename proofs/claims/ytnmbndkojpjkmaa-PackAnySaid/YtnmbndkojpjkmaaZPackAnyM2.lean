-- Functions of the program and of the document as plain Lean, each with the proof that the code comes to it. Written by a program of this session (wip/tools/myprint.py, pack.py) over the kit's printer; Lean checks it.
import Derived.Test.YtnmbndkojpjkmaaZPackAnyPrt0
import Derived.Test.YtnmbndkojpjkmaaZPackAnyM1
import Derived.Test.YtnmbndkojpjkmaaZPackAnySh2
import Derived.Test.YtnmbndkojpjkmaaZPackAnySh
namespace Go.Proofs.Ytnmbndkojpjkmaa.Prt
open Go.RowKit Go.Proofs.YtnmbndkojpjkmaaW.PrintWords Go.Proofs.YtnmbndkojpjkmaaW.PrintLast Go.Proofs.YtnmbndkojpjkmaaW.PrintMore
attribute [local go_sem] max2_int min2_int max_two min_two max_three min_three max_four min_four   -- for this text's walks alone
set_option linter.unusedVariables false
set_option linter.unusedSimpArgs false
set_option maxHeartbeats 8000000
set_option maxRecDepth 100000


mutual
def cpack_Read.j0 : Nat→Int→Int→List (List Int)→Bool→Int→Int→List Int→Int→Bool→Option (Bool × (List (List Int)) × (List (List (List Int))) × Int)
 | 0,_,_,_,_,_,_,_,_,_=>none
 | k+1,x0,x1,x3,x65,bm,bn,bo,bp,bf=>if x65=true then (some (false,([] : List (List Int)),([] : List (List (List Int))),1)) else (cpack_Read.l0 k x0 x1 x3 x1 0 bm bn bo bp bf ([] : List (List Int)))
def cpack_Read.l0 : Nat→Int→Int→List (List Int)→Int→Int→Int→Int→List Int→Int→Bool→List (List Int)→Option (Bool × (List (List Int)) × (List (List (List Int))) × Int)
 | 0,_,_,_,_,_,_,_,_,_,_,_=>none
 | k+1,x0,x1,x3,x67,x68,bm,bn,bo,bp,bf,bl=>if x68 < x67 then ((cpack_of.f x3 x68).bind fun bM=>((gain_Take.f k bm bn bo bp bM bf).bind fun cp=>(if bl.length < 5864062014805 then (cpack_Read.l0 k x0 x1 x3 x67 (wrap64 (x68+1)) cp.1 cp.2.1 cp.2.2.1 cp.2.2.2.1 bf (bl ++ [cp.2.2.2.2.1])) else (none)))) else ((alloc_Pulses.f k x0 x1 bl).bind fun eQ=>(cpack_Read.l1 k eQ.1 x1 0 bm bn bo bp bf bl ([] : List (List (List Int)))))
def cpack_Read.l1 : Nat→List (List Int)→Int→Int→Int→Int→List Int→Int→Bool→List (List Int)→List (List (List Int))→Option (Bool × (List (List Int)) × (List (List (List Int))) × Int)
 | 0,_,_,_,_,_,_,_,_,_,_=>none
 | k+1,x18,x98,x99,bm,bn,bo,bp,bf,bl,bB=>if x99 < x98 then (cpack_Read.l2 k x18 x99 ([] : List (List Int)) x98 x99 0 bm bn bo bp bf bl bB) else (some (bf,bl,bB,0))
def cpack_Read.l2 : Nat→List (List Int)→Int→List (List Int)→Int→Int→Int→Int→Int→List Int→Int→Bool→List (List Int)→List (List (List Int))→Option (Bool × (List (List Int)) × (List (List (List Int))) × Int)
 | 0,_,_,_,_,_,_,_,_,_,_,_,_,_=>none
 | k+1,x18,x20,x21,x98,x99,bZ,bm,bn,bo,bp,bf,bl,bB=>if bZ < 5 then ((band_Width.f bZ).bind fun bS=>(if 0≤bS then (if (bS : Int).toNat≤35184372088832 then (if 0≤x20 then (if x20 < (x18.length : Int) then (if 0≤bZ then (if bZ < ((rd_L1 x18 x20).length : Int) then (if (rd (rd_L1 x18 x20) bZ) > 0 then ((band_Width.f bZ).bind fun cv=>((comb_Count.f cv (rd (rd_L1 x18 x20) bZ)).bind fun cZ=>((coder_TakeNum.f k bm bn bo bp cZ.1).bind fun bD=>((band_Width.f bZ).bind fun cw=>((comb_Vector.f k cw (rd (rd_L1 x18 x20) bZ) bD.2.2.2.2.1).bind fun da=>(if x21.length < 5864062014805 then (cpack_Read.l2 k x18 x20 (x21 ++ [da.1]) x98 x99 (wrap64 (bZ+1)) bD.1 bD.2.1 bD.2.2.1 bD.2.2.2.1 bf bl bB) else (none))))))) else (if x21.length < 5864062014805 then (cpack_Read.l2 k x18 x20 (x21 ++ [(List.replicate (bS : Int).toNat 0)]) x98 x99 (wrap64 (bZ+1)) bm bn bo bp bf bl bB) else (none))) else (none)) else (none)) else (none)) else (none)) else (none)) else (none))) else (if bB.length < 5864062014805 then (cpack_Read.l1 k x18 x98 (wrap64 (x99+1)) bm bn bo bp bf bl (bB ++ [x21])) else (none))
end
def cpack_Read.f (k : Nat) (a0 : Int) (a1 : Int) (l2 : List Int) (l3 : List (List Int)) : Option (Bool × (List (List Int)) × (List (List (List Int))) × Int):=(alloc_Right.f a0 a1).bind fun eA=>(if eA=true then (if (l2.length : Int)=a0 then ((coder_Open.f l2).bind fun bU=>((coder_Get.f bU.1 bU.2.1 bU.2.2.1 bU.2.2.2 2).bind fun cq=>((coder_Take.f k bU.1 bU.2.1 bU.2.2.1 bU.2.2.2 cq.1 (wrap64 (cq.1+1)) 2).bind fun bV=>(if cq.1=1 then (cpack_Read.j0 k a0 a1 l3 false bV.1 bV.2.1 bV.2.2.1 bV.2.2.2.1 (cq.1 == 1)) else ((cpack_gains.f k a1 l3).bind fun dt=>(cpack_Read.j0 k a0 a1 l3 (!dt) bV.1 bV.2.1 bV.2.2.1 bV.2.2.2.1 (cq.1 == 1))))))) else (some (false,([] : List (List Int)),([] : List (List (List Int))),2))) else (some (false,([] : List (List Int)),([] : List (List (List Int))),1)))
theorem cpack_Read.mono_l : ∀ k,(∀ y0 y1 y2 y3 y4 y5 y6 y7 y8,LeO (cpack_Read.j0 k y0 y1 y2 y3 y4 y5 y6 y7 y8) (cpack_Read.j0 (k+1) y0 y1 y2 y3 y4 y5 y6 y7 y8))∧(∀ y0 y1 y2 y3 y4 y5 y6 y7 y8 y9 y10,LeO (cpack_Read.l0 k y0 y1 y2 y3 y4 y5 y6 y7 y8 y9 y10) (cpack_Read.l0 (k+1) y0 y1 y2 y3 y4 y5 y6 y7 y8 y9 y10))∧(∀ y0 y1 y2 y3 y4 y5 y6 y7 y8 y9,LeO (cpack_Read.l1 k y0 y1 y2 y3 y4 y5 y6 y7 y8 y9) (cpack_Read.l1 (k+1) y0 y1 y2 y3 y4 y5 y6 y7 y8 y9))∧(∀ y0 y1 y2 y3 y4 y5 y6 y7 y8 y9 y10 y11 y12,LeO (cpack_Read.l2 k y0 y1 y2 y3 y4 y5 y6 y7 y8 y9 y10 y11 y12) (cpack_Read.l2 (k+1) y0 y1 y2 y3 y4 y5 y6 y7 y8 y9 y10 y11 y12))
 | 0=>⟨fun _ _ _ _ _ _ _ _ _ r h=>by simp [cpack_Read.j0] at h,fun _ _ _ _ _ _ _ _ _ _ _ r h=>by simp [cpack_Read.l0] at h,fun _ _ _ _ _ _ _ _ _ _ r h=>by simp [cpack_Read.l1] at h,fun _ _ _ _ _ _ _ _ _ _ _ _ _ r h=>by simp [cpack_Read.l2] at h⟩
 | k+1=>by
  obtain ⟨ih0,ih1,ih2,ih3⟩:=cpack_Read.mono_l k
  have i0:=@alloc_Pulses.mono;have i1:=@coder_Take.mono;have i2:=@coder_TakeNum.mono;have i3:=@comb_Vector.mono;have i4:=@cpack_gains.mono;have i5:=@gain_Take.mono
  refine ⟨?_, ?_, ?_, ?_⟩
  ·
   intro y0 y1 y2 y3 y4 y5 y6 y7 y8
   unfold cpack_Read.j0
   exact yLm
  ·
   intro y0 y1 y2 y3 y4 y5 y6 y7 y8 y9 y10
   unfold cpack_Read.l0
   exact yLm
  ·
   intro y0 y1 y2 y3 y4 y5 y6 y7 y8 y9
   unfold cpack_Read.l1
   exact yLm
  intro y0 y1 y2 y3 y4 y5 y6 y7 y8 y9 y10 y11 y12
  unfold cpack_Read.l2
  exact yLm
theorem cpack_Read.mono : ∀ a0 a1 a2 a3 k,LeO (cpack_Read.f k a0 a1 a2 a3) (cpack_Read.f (k+1) a0 a1 a2 a3):=by
 intro a0 a1 a2 a3 k
 obtain ⟨ih0,ih1,ih2,ih3⟩:=cpack_Read.mono_l k
 have i0:=@alloc_Pulses.mono;have i1:=@coder_Take.mono;have i2:=@coder_TakeNum.mono;have i3:=@comb_Vector.mono;have i4:=@cpack_gains.mono;have i5:=@gain_Take.mono
 unfold cpack_Read.f
 exact yLm
def cpack_Read.T14 : Bool × List (List Nat × List Nat):=(true, [([], []),([], []),([], []),([1,2], [1,2]),([], []),([4], [4]),([0,3,5,3], [0,3,5]),([6], [6]),([7], [7]),([7], [7]),([7], [7]),([], []),([11,8,6,0,1,2,3,4,5,6,7,8,11], [8,11]),([9,12,0,1,2,3,4,5,6,7,8,9,11,12], [9]),([10,13,0,1,2,3,4,5,6,7,8,9,10,11,12,13], [10])])
def cpack_Read.B14 : List Nat := [0,0,0,6,0,16,63,127,255,255,255,0,2559,7167,16383]
theorem cpack_Read.tab14 : rtab .any (opsOf Try.f20 14)=cpack_Read.T14:=by kernel_rfl
theorem cpack_Read.bits14 : waitsOk cpack_Read.T14.2 cpack_Read.B14=true:=by kernel_rfl
def cpack_Read.T15 : Bool × List (List Nat × List Nat):=(true, [([], []),([], []),([1], [1]),([], []),([3], [3]),([2,4], [2,4]),([0,5,0], [0]),([0,1,2,3,4,5,6], []),([7,5,6,0,1,2,3,4,5,6], [5,7])])
def cpack_Read.B15 : List Nat := [0,0,2,0,8,30,63,127,255]
theorem cpack_Read.tab15 : rtab .any (opsOf Try.f20 15)=cpack_Read.T15:=by kernel_rfl
theorem cpack_Read.bits15 : waitsOk cpack_Read.T15.2 cpack_Read.B15=true:=by kernel_rfl
def cpack_Read.T27 : Bool × List (List Nat × List Nat):=(true, [([], []),([0], [0]),([], []),([], []),([2,3], [2,3]),([4], [4]),([], []),([5,6], [5,6]),([7], [7]),([1,8,1], [1,8]),([9], [9]),([10], [10]),([10], [10]),([11,9,0,1,2,3,4,5,6,7,8,9,10,11], [11]),([12,13,0,1,2,3,4,5,6,7,8,9,10,11,12,13], [12])])
def cpack_Read.B27 : List Nat := [0,1,0,0,12,28,0,124,252,511,1023,2047,2047,4095,16383]
theorem cpack_Read.tab27 : rtab .any (opsOf Try.f20 27)=cpack_Read.T27:=by kernel_rfl
theorem cpack_Read.bits27 : waitsOk cpack_Read.T27.2 cpack_Read.B27=true:=by kernel_rfl
def cpack_Read.T30 : Bool × List (List Nat × List Nat):=(true, [([], []),([0], [0]),([], []),([], []),([2,3], [2,3]),([4], [4]),([], []),([5,6], [5,6]),([7], [7]),([], []),([1,8,9,1], [1,8,9]),([10], [10]),([11], [11]),([11], [11]),([12,10,0,1,2,3,4,5,6,7,8,9,10,11,12], [12])])
def cpack_Read.B30 : List Nat := [0,1,0,0,12,28,0,124,252,0,1023,2047,4095,4095,8191]
theorem cpack_Read.tab30 : rtab .any (opsOf Try.f20 30)=cpack_Read.T30:=by kernel_rfl
theorem cpack_Read.bits30 : waitsOk cpack_Read.T30.2 cpack_Read.B30=true:=by kernel_rfl
theorem cpack_Read.calls (k : Nat) (a0 : Int) (a1 : Int) (A2 : Option Addr) (c2 : Nat) (l2 : List Int) (A3 : Option Addr) (c3 : Nat) (l3 : List (List Int)) (r1 : Bool) (r2 : List (List Int)) (r3 : List (List (List Int))) (r4 : Int) (w : World) (hr2 : Kd.C (Kd.int .u8) w A2 l2.length l2) (hc2 : l2.length≤c2) (hr3 : Kd.C (Kd.slice 3 (Kd.int .i64)) w A3 l3.length l3) (hc3 : l3.length≤c3) (h : cpack_Read.f k a0 a1 l2 l3=some (r1,r2,r3,r4)) :
  Calls Try.prog 20 #[.int .i64 a0, .int .i64 a1, .slice A2 l2.length c2, .slice A3 l3.length c3] w fun e w' => ∃ v1_ v2_ : Value,e=.returned (.tuple #[.agg #[.bool r1,v1_,v2_], .int .i64 r4])∧Kd.S (Kd.slice 3 (Kd.int .i64)) 49 w' w.heap.size (fun _=>True) v1_ r2∧Kd.R (Kd.slice 49 (Kd.slice 3 (Kd.int .i64))) 22 w' w.heap.size (fun k_=>some k_≠(v1_ : Value).ownBlock) v2_ r3∧Below w.heap.size w w' := by
 have hu25:=Try.underlying25;have hu82:=Try.underlying82;have HR2:=zm hr2;have HC2:=zm hc2;clear hr2 hc2;have HR3:=zm hr3;have HC3:=zm hc3;clear hr3 hc3;have HB:=zm (zY w.heap.size w);have H:=h
 unfold cpack_Read.f at H
 clear h
 obtain ⟨eA,A5,H⟩:=ybi H
 by_cases c6 : eA=true
 ·
  subst c6
  rw [za4 rfl] at H
  by_cases c7 : (l2.length : Int)=a0
  ·
   rw [za4 c7] at H
   obtain ⟨eR,eS⟩:=yE c7
   clear c7
   obtain ⟨⟨cM,cN,cx,cO⟩,A8,H⟩:=ybi H
   try dsimp only at H
   obtain ⟨⟨bd,fW⟩,A9,H⟩:=ybi H
   try dsimp only at H
   obtain ⟨⟨cy,cz,cf,cA,fX⟩,A10,H⟩:=ybi H
   try dsimp only at H
   have eB:=zm H;clear H
   go_enter Try.func20,Try.ntmps20
   go_upto_region 9 with (first|((with_reducible refine zL (N:=8) rfl ?_);refine ybx 8 #[.bool false, .slice none 0 0, .slice none 0 0] 25 ?_;intro aq hg w12 hbox hb;have af:=zm (hbox);have ep:=ygw hg;have eq:=ygw hg;replace HB:=ybs hb;clear hb hbox hg)|((with_reducible refine zK (f:=48) rfl ?_);refine ygl 31 Try.func48 #[.int .i64 a0, .int .i64 a1] ?_;(with_reducible refine (alloc_Right.calls a0 a1 true _ A5.out).mono ?_);rintro e w' ⟨rfl,⟨nd,rfl⟩⟩;refine ⟨_,rfl, ?_⟩;(try (rw [drewN_self w12];generalize hq_ : World.drewN w12 _=w12;replace af:=ykq hq_ af;replace HB:=ysq hq_;clear hq_)))|((with_reducible refine zK (f:=49) rfl ?_);refine ygl 40 Try.func49 #[.slice A2 l2.length c2] ?_;(with_reducible refine (coder_Open.calls (fun k_=>k_ < w.heap.size) _ _ l2 cM cN cx cO _ ?br A8.out).mono ?_);(case br=>exact Kd.V_mk HC2.out (Kd.F_below (Kd.C_F (Kd.heap_int .u8) HR2.out) yhb));rintro e w13 ⟨gN,rfl,ho0,hb⟩;refine ⟨_,rfl, ?_⟩;have bC:=yho (fun k_=>k_≠aq) ho0 (fun k_ hk_=>yoB af hk_);replace af:=ybb af hb;replace HB:=ybs hb;(try clear hb);(try clear ho0))|((with_reducible refine zL (N:=10) rfl ?_);refine ybx 10 #[.int .u64 0, .int .u32 0, .slice none 0 0, .int .i64 0] 82 ?_;intro aj hg w14 hbox hb;replace bC:=yVe bC hg hb;have ag:=zm (hbox);have gy:=ygw hg;have gz:=ygw hg;replace HB:=ybs hb;have bg:=ynl af hg;have bh:=yng af hg;replace af:=ybb af hb;clear hb hbox hg;have:=bh.out;have:=bg.out;obtain ⟨du,dv,dw,dx,dy,dz,dA,dB⟩:=yc4 ag;obtain ⟨eC,dC,fY⟩:=zU bC.out;subst fY)|((with_reducible refine zK (f:=50) rfl ?_);refine ygl 43 Try.func50 #[.agg #[.int .u64 cM, .int .u32 cN, .slice eC cx.length dC, .int .i64 cO], .int .i64 2] ?_;(with_reducible refine (coder_Get.calls cM cN _ _ cx cO 2 bd fW _ ?br ?bO A9.out).mono ?_);(case br=>refine (zR (e:=5) (base:=w.heap.size) (ok:=fun k_=>(k_≠aq∧k_≠aj)) (n:=cx.length) (c:=dC) ?_).2.2;exact (yV0 bC));(case bO=>exact (zR bC.out).2.1);rintro e w18 ⟨rfl,hb⟩;refine ⟨_,rfl, ?_⟩;replace bC:=zm (Kd.V_below (yV0 bC) hb);replace af:=ybb af hb;replace ag:=zm (zF (g:=aj) (o:=.cells #[.int .u64 cM, .int .u32 cN, .slice eC cx.length dC, .int .i64 cO] 82 (0,0)) (ykp ag) hb);replace HB:=ybs hb;(try clear hb);obtain ⟨dD,dE,dF,dG,dH,dI,dJ,dK⟩:=yc4 ag)|((with_reducible refine zK (f:=51) rfl ?_);refine ygl 51 Try.func51 #[.agg #[.int .u64 cM, .int .u32 cN, .slice eC cx.length dC, .int .i64 cO], .int .i64 bd, .int .i64 (wrap64 (bd+1)), .int .i64 2] ?_;(with_reducible refine (coder_Take.calls k cM cN (fun k_=>(k_≠aq∧k_≠aj)) _ _ cx cO bd (wrap64 (bd+1)) 2 cy cz cf cA fX _ bC.out A10.out).mono ?_);rintro e w20 ⟨gO,rfl,ho0,hb⟩;refine ⟨_,rfl, ?_⟩;replace bC:=yVb bC hb;have cr:=yho (fun k_=>k_≠aq∧k_≠aj) ho0 (fun k_ hk_=>⟨yoB af hk_,yoB ag hk_⟩);replace af:=ybb af hb;replace ag:=ybb ag hb;replace HB:=ybs hb;(try clear hb);(try clear ho0);obtain ⟨dL,dM,dN,dO,dP,dQ,dR,dS⟩:=yc4 ag;obtain ⟨cP,cQ,fZ⟩:=zU cr.out;subst fZ)|((with_reducible refine zL (N:=13) rfl ?_);refine ybx 13 #[.bool false, .slice none 0 0, .slice none 0 0] 25 ?_;intro al hg w23 hbox hb;replace bC:=zm (Kd.V_below (Kd.V_elderB (yV0 bC) al (Nat.le_of_eq hg.symm)) hb);replace cr:=zm (Kd.V_below (Kd.V_elderB (yV0 cr) al (Nat.le_of_eq hg.symm)) hb);have ah:=zm (hbox);have gA:=ygw hg;have gB:=ygw hg;replace HB:=ybs hb;have bi:=ynl af hg;have bj:=yng af hg;replace af:=ybb af hb;have aT:=zm ((by rw [hg];exact zn (zD (g:=aj) (o:=.cells #[.int .u64 cy, .int .u32 cz, .slice cP cf.length cQ, .int .i64 cA] 82 (0,0)) (ykp ag)) : aj≠al));have aU:=zm ((by rw [hg];exact zg (zD (g:=aj) (o:=.cells #[.int .u64 cy, .int .u32 cz, .slice cP cf.length cQ, .int .i64 cA] 82 (0,0)) (ykp ag)) : al≠aj));replace ag:=zm (zF (g:=aj) (o:=.cells #[.int .u64 cy, .int .u32 cz, .slice cP cf.length cQ, .int .i64 cA] 82 (0,0)) (ykp ag) hb);clear hb hbox hg;have:=bj.out;have:=bi.out;have:=aU.out;have:=aT.out;obtain ⟨dT,dU,dV,dW,dX,dY⟩:=yc3 ah))
   (try simp only [Act.put,za9,zb0,zb1])
   go_cut [65] (fun v65 wc => ∃ (kq : Nat) (co : Bool),v65=.bool co∧Aside0 (cpack_Read.j0 kq a0 a1 l3 co cy cz cf cA (bd == 1)=some (r1,r2,r3,r4))∧Aside0 (kq≤k)∧Aside0 (Kd.V (Kd.int .u8) 5 wc w.heap.size (fun k_=>k_≠aq∧k_≠aj∧k_≠al) (.slice cP cf.length cQ) cf)∧Aside0 (wc.heap[aq]? = some (.cells #[.bool false,(.slice none 0 0),(.slice none 0 0)] 25 (0,0)))∧Aside0 (wc.heap[aj]? = some (.cells #[.int .u64 cy, .int .u32 cz,(.slice cP cf.length cQ), .int .i64 cA] 82 (0,0)))∧Aside0 (wc.heap[al]? = some (.cells #[.bool (bd == 1),(.slice none 0 0),(.slice none 0 0)] 25 (0,0)))∧Aside0 (Below w.heap.size w wc))
   case first =>
    have H:=eB.out;clear eB
    by_cases c27 : bd=1
    ·
     rw [za4 c27] at H
     obtain ⟨b4,eT⟩:=yE c27
     clear c27
     (first|rw [b4]|(simp only [i64_w,i32_w];rw [b4])|skip)
     have H' := zm H
     clear H
     have:=bj.out
     have:=bi.out
     have:=aU.out
     have:=aT.out
     obtain ⟨_,_,_,_,_,_⟩:=yc3 ah
     go_wp2
     go_meet
     case rel=>exact ⟨_,(false),yq,H',⟨yo⟩,⟨yV0 cr⟩,⟨yk af⟩,⟨yk ag⟩,⟨by rw [b4];(with_reducible repeat (first|refine zh ?_ _|refine zj ?_|refine zi ?_ _));refine zw (cs := #[.bool true, .slice none 0 0, .slice none 0 0]) ?_ 2 _ rfl;(with_reducible repeat (first|refine zh ?_ _|refine zj ?_|refine zi ?_ _));refine zw (cs := #[.bool true, .slice none 0 0, .slice none 0 0]) ?_ 1 _ rfl;(with_reducible repeat (first|refine zh ?_ _|refine zj ?_|refine zi ?_ _));refine zw (cs := #[.bool false, .slice none 0 0, .slice none 0 0]) ?_ 0 _ rfl;(with_reducible repeat (first|refine zh ?_ _|refine zj ?_|refine zi ?_ _));exact ah.out⟩,⟨yhb⟩⟩
    rw [za5 c27] at H
    obtain ⟨b4,eT⟩:=yF c27
    (first|rw [b4]|(simp only [i64_w,i32_w];rw [b4])|skip)
    obtain ⟨dt,A31,H⟩:=ybi H
    have H' := zm H
    clear H
    have:=bj.out
    have:=bi.out
    have:=aU.out
    have:=aT.out
    obtain ⟨_,_,_,_,_,_⟩:=yc3 ah
    go_wp2_with (first|(go_at_call 25;(with_reducible refine (cpack_gains.calls k a1 _ _ l3 dt _ ?br HC3.out A31.out).mono ?_);(case br=>exact Kd.C_below HR3.out yhb);rintro e w' ⟨rfl,⟨nd,rfl⟩⟩))
    go_meet
    case rel=>exact ⟨_,(!dt),yq,H',⟨yo⟩,⟨yV0 cr⟩,⟨yk af⟩,⟨yk ag⟩,⟨by rw [b4];(with_reducible repeat (first|refine zh ?_ _|refine zj ?_|refine zi ?_ _));refine zw (cs := #[.bool false, .slice none 0 0, .slice none 0 0]) ?_ 2 _ rfl;(with_reducible repeat (first|refine zh ?_ _|refine zj ?_|refine zi ?_ _));refine zw (cs := #[.bool false, .slice none 0 0, .slice none 0 0]) ?_ 1 _ rfl;(with_reducible repeat (first|refine zh ?_ _|refine zj ?_|refine zi ?_ _));refine zw (cs := #[.bool false, .slice none 0 0, .slice none 0 0]) ?_ 0 _ rfl;(with_reducible repeat (first|refine zh ?_ _|refine zj ?_|refine zi ?_ _));exact ah.out⟩,⟨yhb⟩⟩
   case rest =>
    clear eB
    try clear c2
    try clear c3
    try clear eR
    try clear eS
    try clear du
    try clear dv
    try clear dw
    try clear dx
    try clear dD
    try clear dE
    try clear dF
    try clear dG
    try clear dL
    try clear dM
    try clear dN
    try clear dO
    try clear dT
    try clear dU
    try clear dV
    try clear dy
    try clear dz
    try clear dA
    try clear dB
    try clear dH
    try clear dI
    try clear dJ
    try clear dK
    try clear dP
    try clear dQ
    try clear dR
    try clear dS
    try clear dW
    try clear dX
    try clear dY
    obtain ⟨kq,co,rfl,HA,ct,ac,af,ag,ah,HB⟩:=hcut
    obtain ⟨eU,rfl⟩:=ysu kq (fun h=>by subst h;exact absurd HA.out (by simp [cpack_Read.j0]))
    have H:=HA.out;clear HA
    simp only [cpack_Read.j0] at H
    by_cases c35 : co=true
    ·
     subst c35
     rw [za4 rfl] at H
     simp only [zM,zN] at H
     obtain ⟨rfl,rfl,rfl,rfl⟩:=H
     have:=bg.out
     have:=bh.out
     have:=bi.out
     have:=bj.out
     obtain ⟨dZ,d5,d6,d7,d8,d9⟩:=yc3 af
     go_wp2
     refine za1 (results_ct rfl _ _ aq 25 #[.bool false, .slice none 0 0, .slice none 0 0] (0,0) _ rfl (ykp af) Try.underlying25 rfl (by kernel_rfl)) rfl ?_
     exact ⟨_,_,ye,yn,yn,yhb⟩
    replace c35:=za3.mpr c35
    subst c35
    rw [ynf] at H
    have H' := zm H
    clear H
    go_wp2
    go_loopg [68] eU (fun kq v68 w' => ∃ (bP : Int) (az : Int) (aA : Int) (av : List Int) (aC : Int) (ae : List (List Int)) (a9 : Value) (ap : Value),v68=.int .i64 bP∧Aside0 (cpack_Read.l0 kq a0 a1 l3 a1 bP az aA av aC (bd == 1) ae=some (r1,r2,r3,r4))∧Aside0 (kq≤eU)∧Aside0 (Kd.V (Kd.int .u8) 5 w' w.heap.size (fun k_=>some k_≠(ap : Value).ownBlock∧k_≠aq∧k_≠aj∧k_≠al) a9 av)∧Aside0 (Kd.S (Kd.slice 3 (Kd.int .i64)) 49 w' w.heap.size (fun _=>True) ap ae)∧Aside0 (w'.heap[aq]? = some (.cells #[.bool false,(.slice none 0 0),(.slice none 0 0)] 25 (0,0)))∧Aside0 (w'.heap[aj]? = some (.cells #[.int .u64 az, .int .u32 aA,a9, .int .i64 aC] 82 (0,0)))∧Aside0 (w'.heap[al]? = some (.cells #[.bool (bd == 1),ap,(.slice none 0 0)] 25 (0,0)))∧Aside0 (Below w.heap.size w w'))
    case atStart=>exact ⟨(0),(cy),(cz),(cf),(cA),(([] : List (List Int))),(.slice cP cf.length cQ),(.slice none 0 0),yq,H',⟨zX _⟩,⟨yV0 ac⟩,⟨yn⟩,⟨yk af⟩,⟨yk ag⟩,⟨yk ah⟩,⟨yhb⟩⟩
    case round =>
     clear H'
     try clear dZ
     try clear d5
     try clear d6
     try clear d7
     try clear d8
     try clear d9
     obtain ⟨bP,az,aA,av,aC,ae,a9,ap,rfl,HA,HK2,ac,aa,af,ag,ah,HB⟩:=hrel
     obtain ⟨k2,rfl⟩:=ysu gk (fun h=>by subst h;exact absurd HA.out (by simp [cpack_Read.l0]))
     have H:=HA.out;clear HA
     simp only [cpack_Read.l0] at H
     replace H:=yId H
     obtain ⟨er,H⟩ | ⟨er,H⟩:=H
     ·
      obtain ⟨bM,A40,H⟩:=ybi H
      obtain ⟨⟨b5,b6,bW,b7,bX,cR⟩,A41,H⟩:=ybi H
      try dsimp only at H
      obtain ⟨c42,H⟩:=yif H
      have LMc42:=zm c42;clear c42
      obtain ⟨eD,db⟩ : ∃ y_ : List (List Int),y_=(ae ++ [bX]):=⟨_,rfl⟩
      replace H : (cpack_Read.l0 k2 a0 a1 l3 a1 (wrap64 (bP+1)) b5 b6 bW b7 (bd == 1) eD)=some (r1,r2,r3,r4):=yrw db H
      have eV:=zm db;clear db
      have H' := zm H
      clear H
      obtain ⟨cg,ch,f5⟩:=zU ac.out
      subst f5
      try go_wp2
      replace ac:=zm (zC ac.out)
      replace aa:=zm (Kd.S_drew aa.out)
      replace af:=zm (zj af.out)
      replace ag:=zm (zj ag.out)
      replace ah:=zm (zj ah.out)
      replace HB:=zm (zf HB.out)
      refine yst (fun w' => w'.cell? ⟨aj,0,none⟩=some (.int .u64 az)∧w'.cell? ⟨aj,1,none⟩=some (.int .u32 aA)∧w'.cell? ⟨aj,2,none⟩=some (.slice cg av.length ch)∧w'.cell? ⟨aj,3,none⟩=some (.int .i64 aC)∧w'.cell? ⟨al,0,none⟩=some (.bool (bd == 1))∧w'.cell? ⟨al,1,none⟩=some (ap)∧w'.cell? ⟨al,2,none⟩=some (.slice none 0 0)) [] 15 cpack_Read.tab14 cpack_Read.bits14 (fun hHeld HT_ HW_ => ?_)
      generalize wr.drew=w44 at ac aa af ag ah HB hHeld ⊢
      refine yp 1 73 HT_ ?_
      refine yp 2 74 HT_ ?_
      refine yp 4 76 HT_ ?_
      refine yl 0 72 HT_ HW_ hHeld ?_
      refine yl 5 77 HT_ HW_ hHeld ?_
      refine join_ (σ:=Value × Value × Value × Nat) 3 #[true,true,true,true,true,true,true,true,true,true,true,true,false,false,false] (fun s_ => [(75,s_.1),(78, .tuple #[.agg #[.int .u64 b5, .int .u32 b6,s_.2.1, .int .i64 b7],s_.2.2.1, .int .i64 cR]),(15, .pointer (some ⟨s_.2.2.2,0,none⟩)),(71, .tuple #[.agg #[.int .u64 b5, .int .u32 b6,s_.2.1, .int .i64 b7],s_.2.2.1, .int .i64 cR]),(79, .agg #[.int .u64 b5, .int .u32 b6,s_.2.1, .int .i64 b7]),(80,s_.2.2.1),(81, .int .i64 cR)]) (fun s_ w' => (w'.cell? ⟨aj,0,none⟩=some (.int .u64 az)∧w'.cell? ⟨aj,1,none⟩=some (.int .u32 aA)∧w'.cell? ⟨aj,2,none⟩=some (.slice cg av.length ch)∧w'.cell? ⟨aj,3,none⟩=some (.int .i64 aC)∧w'.cell? ⟨al,0,none⟩=some (.bool (bd == 1))∧w'.cell? ⟨al,1,none⟩=some (ap)∧w'.cell? ⟨al,2,none⟩=some (.slice none 0 0))∧(Kd.V (Kd.int .i64) 3 w' w.heap.size (fun k_=>some k_≠(s_.2.2.1 : Value).ownBlock∧some k_≠(ap : Value).ownBlock∧k_≠aq∧k_≠aj∧k_≠al∧k_≠s_.2.2.2) s_.1 bM)∧(Kd.V (Kd.int .u8) 5 w' w.heap.size (fun k_=>some k_≠(s_.2.2.1 : Value).ownBlock∧some k_≠(ap : Value).ownBlock∧k_≠aq∧k_≠aj∧k_≠al∧k_≠s_.2.2.2) s_.2.1 bW)∧(Kd.R (Kd.int .i64) 3 w' w.heap.size (fun _=>True) s_.2.2.1 bX)∧(Kd.V (Kd.int .u8) 5 w' w.heap.size (fun k_=>some k_≠(s_.2.2.1 : Value).ownBlock∧some k_≠(ap : Value).ownBlock∧k_≠aq∧k_≠aj∧k_≠al∧k_≠s_.2.2.2) (.slice cg av.length ch) av)∧(Kd.S (Kd.slice 3 (Kd.int .i64)) 49 w' w.heap.size (fun k_=>some k_≠(s_.2.2.1 : Value).ownBlock) ap ae)∧(w'.heap[aq]? = some (.cells #[.bool false, .slice none 0 0, .slice none 0 0] 25 (0,0)))∧(w'.heap[aj]? = some (.cells #[.int .u64 az, .int .u32 aA, .slice cg av.length ch, .int .i64 aC] 82 (0,0)))∧(w'.heap[al]? = some (.cells #[.bool (bd == 1),ap, .slice none 0 0] 25 (0,0)))∧(w'.heap[s_.2.2.2]? = some (.cells #[.int .u64 0, .int .u32 0, .slice none 0 0, .int .i64 0] 82 (0,0)))∧(w.heap.size≤s_.2.2.2)∧(w.heap.size≤s_.2.2.2)∧(aq≠s_.2.2.2)∧(s_.2.2.2≠aq)∧(aj≠s_.2.2.2)∧(s_.2.2.2≠aj)∧(al≠s_.2.2.2)∧(s_.2.2.2≠al)∧(Below w.heap.size w w')) ?_ ?_
      rotate_left
      ·
       intro hCont
       refine two_ (i:=3) (j:=11) (Ni:=some 75) (Nj:=some 15) #[true,true,true,true,true,true,false,false,false,false,false,false,false,false,false] #[true,true,true,false,true,true,false,false,false,false,false,true,false,false,false] rfl rfl rfl rfl (two_of HT_.out (by kernel_rfl)) (by decide) (by decide) (fun K hK => ?_) (fun K hK => ?_)
       ·
        skip
        refine ygs Try.func29 #[.slice A3 l3.length c3, .int .i64 bP] ?_
        with_reducible refine (cpack_of.calls (fun k_=>k_ < w.heap.size) _ _ l3 bP bM _ ?br A40.out).mono ?_
        (case br=>exact Kd.V_mk HC3.out (Kd.F_below (Kd.C_F (Kd.heap_slice 3 (Kd.heap_int .i64)) HR3.out) yhb))
        rintro e w45 ⟨eE,rfl,ho0,hb⟩
        refine ⟨_,rfl, ?_⟩
        replace ac:=yVb ac hb
        have aK:=yho (fun k_=>some k_≠(ap : Value).ownBlock∧k_≠aq∧k_≠aj∧k_≠al) ho0 (fun k_ hk_=>⟨yoS aa hk_,yoB af hk_,yoB ag hk_,yoB ah hk_⟩)
        replace aa:=ySb aa hb
        replace af:=ybb af hb
        replace ag:=ybb ag hb
        replace ah:=ybb ah hb
        replace HB:=ybs hb
        (try clear hb)
        (try clear ho0)
        obtain ⟨eW,eX,eY⟩:=zU aK.out
        (first|subst eY|(injection eY with f1_ f2_ f3_;have f4_:=f1_.symm;have f5_:=f3_.symm;clear f1_ f2_ f3_;subst f4_;subst f5_))
        refine hK.out _ _ yH (fun hHeld => ?_)
        clear hK K
        refine ym (some 75) ?_
        refine two_ (i:=6) (j:=11) (Ni:=some 78) (Nj:=some 15) #[true,true,true,true,true,true,true,false,false,false,false,false,false,false,false] #[true,true,true,true,true,true,false,false,false,false,false,true,false,false,false] rfl rfl rfl rfl (two_of HT_.out (by kernel_rfl)) (by decide) (by decide) (fun K hK => ?_) (fun K hK => ?_)
        ·
         skip
         refine ygs Try.func52 #[.agg #[.int .u64 az, .int .u32 aA, .slice cg av.length ch, .int .i64 aC], .slice eW bM.length eX, .bool (bd == 1)] ?_
         with_reducible refine (gain_Take.calls k2 az aA (fun k_=>(some k_≠(ap : Value).ownBlock∧(k_≠aq∧(k_≠aj∧k_≠al)))) _ _ av aC _ _ bM (bd == 1) b5 b6 bW b7 bX cR _ ?br ?bO ?cu A41.out).mono ?_
         (case br=>exact ac.out)
         (case bO=>exact yce (zR aK.out).2.2)
         (case cu=>exact (zR aK.out).2.1)
         rintro e w47 ⟨cS,bQ,rfl,ho0,ho1,hb⟩
         refine ⟨_,rfl, ?_⟩
         replace ac:=zm (za7 (yr ac) (zW ho1) hb)
         replace aK:=zm (za7 (yr aK) (zW ho1) hb)
         have bs:=yho (fun k_=>some k_≠(bQ : Value).ownBlock∧some k_≠(ap : Value).ownBlock∧k_≠aq∧k_≠aj∧k_≠al) ho0 (fun k_ hk_=>⟨hk_.2,Or.elim hk_.1 (fun hs_=>hs_.1) (fun hn_=>(zc2 (Kd.S_lt (yr aa)) k_ hn_)),Or.elim hk_.1 (fun hs_=>hs_.2.1) (fun hn_=>(Kd.freshB (yk af) k_ hn_)),Or.elim hk_.1 (fun hs_=>hs_.2.2.1) (fun hn_=>(Kd.freshB (yk ag) k_ hn_)),Or.elim hk_.1 (fun hs_=>hs_.2.2.2) (fun hn_=>(Kd.freshB (yk ah) k_ hn_))⟩)
         replace aa:=zm (za8 (yr aa) (zW ho1) hb)
         have bu:=zm (za0 (zG (ok' := fun k_=>True) ho1 (fun _ hk_=>trivial)) (zE yhb))
         replace af:=ybb af hb
         replace ag:=ybb ag hb
         replace ah:=ybb ah hb
         replace HB:=ybs hb
         (try clear hb)
         (try clear ho0)
         (try clear ho1)
         refine hK.out _ _ yH (fun hHeld => ?_)
         clear hK K
         refine ym (some 78) ?_
         refine yp 7 71 HT_ ?_
         refine yp 8 79 HT_ ?_
         refine yp 9 80 HT_ ?_
         refine yp 10 81 HT_ ?_
         refine yw 11 15 HT_ (fun K hK => ?_)
         refine box_step ?hg (N:=15) ?hd (cs := #[.int .u64 0, .int .u32 0, .slice none 0 0, .int .i64 0]) (t:=82) ?hr ?_;(case hd=>rfl);(case hg=>rfl);(case hr=>first|(go_simp;done)|(go_simp;rfl))
         intro aN hg w48 hbox hb
         replace ac:=yVe ac hg hb
         replace aa:=ySb aa hb
         replace aK:=yVe aK hg hb
         replace bs:=yVe bs hg hb
         replace bu:=yRb bu hb
         have ay:=zm (hbox)
         have ck:=ygw hg
         have cl:=ygw hg
         replace HB:=ybs hb
         have ba:=ynl af hg
         have bb:=yng af hg
         replace af:=ybb af hb
         have aE:=ynl ag hg
         have aG:=yng ag hg
         replace ag:=ybb ag hb
         have aX:=ynl ah hg
         have aY:=yng ah hg
         replace ah:=ybb ah hb
         clear hb hbox hg
         refine hK.out _ _ yH (fun hHeld => ?_)
         clear hK K
         refine ym (some 15) ?_
         exact norm_ (by simp only [putAll,Act.put,za9,zb0,zb1]) (hCont (.slice eW bM.length eX,cS,bQ,aN) _ ⟨hHeld,(yV0 aK),(yV0 bs),(yr bu),(yV0 ac),(yS0 aa),(yk af),(yk ag),(yk ah),(yk ay),ck.out,cl.out,ba.out,bb.out,aE.out,aG.out,aX.out,aY.out,yhb⟩)
        skip
        refine box_step ?hg (N:=15) ?hd (cs := #[.int .u64 0, .int .u32 0, .slice none 0 0, .int .i64 0]) (t:=82) ?hr ?_;(case hd=>rfl);(case hg=>rfl);(case hr=>first|(go_simp;done)|(go_simp;rfl))
        intro aN hg w46 hbox hb
        replace ac:=yVe ac hg hb
        replace aa:=ySb aa hb
        replace aK:=yVe aK hg hb
        have ay:=zm (hbox)
        have ck:=ygw hg
        have cl:=ygw hg
        replace HB:=ybs hb
        have ba:=ynl af hg
        have bb:=yng af hg
        replace af:=ybb af hb
        have aE:=ynl ag hg
        have aG:=yng ag hg
        replace ag:=ybb ag hb
        have aX:=ynl ah hg
        have aY:=yng ah hg
        replace ah:=ybb ah hb
        clear hb hbox hg
        obtain ⟨dc,dd,de⟩:=zU aK.out
        (first|subst de|(injection de with f1_ f2_ f3_;have f4_:=f1_.symm;have f5_:=f3_.symm;clear f1_ f2_ f3_;subst f4_;subst f5_))
        refine hK.out _ _ yH (fun hHeld => ?_)
        clear hK K
        refine ym (some 15) ?_
        refine yw 6 78 HT_ (fun K hK => ?_)
        refine ygs Try.func52 #[.agg #[.int .u64 az, .int .u32 aA, .slice cg av.length ch, .int .i64 aC], .slice dc bM.length dd, .bool (bd == 1)] ?_
        with_reducible refine (gain_Take.calls k2 az aA (fun k_=>((some k_≠(ap : Value).ownBlock∧(k_≠aq∧(k_≠aj∧k_≠al)))∧k_≠aN)) _ _ av aC _ _ bM (bd == 1) b5 b6 bW b7 bX cR _ ?br ?bO ?cu A41.out).mono ?_
        (case br=>exact ac.out)
        (case bO=>exact yce (zR aK.out).2.2)
        (case cu=>exact (zR aK.out).2.1)
        rintro e w48 ⟨cS,bQ,rfl,ho0,ho1,hb⟩
        refine ⟨_,rfl, ?_⟩
        replace ac:=zm (za7 (yr ac) (zW ho1) hb)
        replace aK:=zm (za7 (yr aK) (zW ho1) hb)
        have bs:=yho (fun k_=>some k_≠(bQ : Value).ownBlock∧some k_≠(ap : Value).ownBlock∧k_≠aq∧k_≠aj∧k_≠al∧k_≠aN) ho0 (fun k_ hk_=>⟨hk_.2,Or.elim hk_.1 (fun hs_=>hs_.1.1) (fun hn_=>(zc2 (Kd.S_lt (yr aa)) k_ hn_)),Or.elim hk_.1 (fun hs_=>hs_.1.2.1) (fun hn_=>(Kd.freshB (yk af) k_ hn_)),Or.elim hk_.1 (fun hs_=>hs_.1.2.2.1) (fun hn_=>(Kd.freshB (yk ag) k_ hn_)),Or.elim hk_.1 (fun hs_=>hs_.1.2.2.2) (fun hn_=>(Kd.freshB (yk ah) k_ hn_)),Or.elim hk_.1 (fun hs_=>hs_.2) (fun hn_=>(Kd.freshB (yk ay) k_ hn_))⟩)
        replace aa:=zm (za8 (yr aa) (zW ho1) hb)
        have bu:=zm (za0 (zG (ok' := fun k_=>True) ho1 (fun _ hk_=>trivial)) (zE yhb))
        replace af:=ybb af hb
        replace ag:=ybb ag hb
        replace ah:=ybb ah hb
        replace ay:=ybb ay hb
        replace HB:=ybs hb
        (try clear hb)
        (try clear ho0)
        (try clear ho1)
        refine hK.out _ _ yH (fun hHeld => ?_)
        clear hK K
        refine ym (some 78) ?_
        refine yp 7 71 HT_ ?_
        refine yp 8 79 HT_ ?_
        refine yp 9 80 HT_ ?_
        refine yp 10 81 HT_ ?_
        exact norm_ (by simp only [putAll,Act.put,za9,zb0,zb1]) (hCont (.slice dc bM.length dd,cS,bQ,aN) _ ⟨hHeld,(yV0 aK),(yr bs),(yr bu),(yV0 ac),(yS0 aa),(yk af),(yk ag),(yk ah),(yk ay),ck.out,cl.out,ba.out,bb.out,aE.out,aG.out,aX.out,aY.out,yhb⟩)
       skip
       refine box_step ?hg (N:=15) ?hd (cs := #[.int .u64 0, .int .u32 0, .slice none 0 0, .int .i64 0]) (t:=82) ?hr ?_;(case hd=>rfl);(case hg=>rfl);(case hr=>first|(go_simp;done)|(go_simp;rfl))
       intro aN hg w45 hbox hb
       replace ac:=yVe ac hg hb
       replace aa:=ySb aa hb
       have ay:=zm (hbox)
       have ck:=ygw hg
       have cl:=ygw hg
       replace HB:=ybs hb
       have ba:=ynl af hg
       have bb:=yng af hg
       replace af:=ybb af hb
       have aE:=ynl ag hg
       have aG:=yng ag hg
       replace ag:=ybb ag hb
       have aX:=ynl ah hg
       have aY:=yng ah hg
       replace ah:=ybb ah hb
       clear hb hbox hg
       refine hK.out _ _ yH (fun hHeld => ?_)
       clear hK K
       refine ym (some 15) ?_
       refine yw 3 75 HT_ (fun K hK => ?_)
       refine ygs Try.func29 #[.slice A3 l3.length c3, .int .i64 bP] ?_
       with_reducible refine (cpack_of.calls (fun k_=>k_ < w.heap.size) _ _ l3 bP bM _ ?br A40.out).mono ?_
       (case br=>exact Kd.V_mk HC3.out (Kd.F_below (Kd.C_F (Kd.heap_slice 3 (Kd.heap_int .i64)) HR3.out) yhb))
       rintro e w46 ⟨eE,rfl,ho0,hb⟩
       refine ⟨_,rfl, ?_⟩
       replace ac:=yVb ac hb
       have aK:=yho (fun k_=>some k_≠(ap : Value).ownBlock∧k_≠aq∧k_≠aj∧k_≠al∧k_≠aN) ho0 (fun k_ hk_=>⟨yoS aa hk_,yoB af hk_,yoB ag hk_,yoB ah hk_,yoB ay hk_⟩)
       replace aa:=ySb aa hb
       replace af:=ybb af hb
       replace ag:=ybb ag hb
       replace ah:=ybb ah hb
       replace ay:=ybb ay hb
       replace HB:=ybs hb
       (try clear hb)
       (try clear ho0)
       obtain ⟨dc,dd,de⟩:=zU aK.out
       (first|subst de|(injection de with f1_ f2_ f3_;have f4_:=f1_.symm;have f5_:=f3_.symm;clear f1_ f2_ f3_;subst f4_;subst f5_))
       refine hK.out _ _ yH (fun hHeld => ?_)
       clear hK K
       refine ym (some 75) ?_
       refine yw 6 78 HT_ (fun K hK => ?_)
       refine ygs Try.func52 #[.agg #[.int .u64 az, .int .u32 aA, .slice cg av.length ch, .int .i64 aC], .slice dc bM.length dd, .bool (bd == 1)] ?_
       with_reducible refine (gain_Take.calls k2 az aA (fun k_=>((some k_≠(ap : Value).ownBlock∧(k_≠aq∧(k_≠aj∧k_≠al)))∧k_≠aN)) _ _ av aC _ _ bM (bd == 1) b5 b6 bW b7 bX cR _ ?br ?bO ?cu A41.out).mono ?_
       (case br=>exact ac.out)
       (case bO=>exact yce (zR aK.out).2.2)
       (case cu=>exact (zR aK.out).2.1)
       rintro e w48 ⟨cS,bQ,rfl,ho0,ho1,hb⟩
       refine ⟨_,rfl, ?_⟩
       replace ac:=zm (za7 (yr ac) (zW ho1) hb)
       replace aK:=zm (za7 (yr aK) (zW ho1) hb)
       have bs:=yho (fun k_=>some k_≠(bQ : Value).ownBlock∧some k_≠(ap : Value).ownBlock∧k_≠aq∧k_≠aj∧k_≠al∧k_≠aN) ho0 (fun k_ hk_=>⟨hk_.2,Or.elim hk_.1 (fun hs_=>hs_.1.1) (fun hn_=>(zc2 (Kd.S_lt (yr aa)) k_ hn_)),Or.elim hk_.1 (fun hs_=>hs_.1.2.1) (fun hn_=>(Kd.freshB (yk af) k_ hn_)),Or.elim hk_.1 (fun hs_=>hs_.1.2.2.1) (fun hn_=>(Kd.freshB (yk ag) k_ hn_)),Or.elim hk_.1 (fun hs_=>hs_.1.2.2.2) (fun hn_=>(Kd.freshB (yk ah) k_ hn_)),Or.elim hk_.1 (fun hs_=>hs_.2) (fun hn_=>(Kd.freshB (yk ay) k_ hn_))⟩)
       replace aa:=zm (za8 (yr aa) (zW ho1) hb)
       have bu:=zm (za0 (zG (ok' := fun k_=>True) ho1 (fun _ hk_=>trivial)) (zE yhb))
       replace af:=ybb af hb
       replace ag:=ybb ag hb
       replace ah:=ybb ah hb
       replace ay:=ybb ay hb
       replace HB:=ybs hb
       (try clear hb)
       (try clear ho0)
       (try clear ho1)
       refine hK.out _ _ yH (fun hHeld => ?_)
       clear hK K
       refine ym (some 78) ?_
       refine yp 7 71 HT_ ?_
       refine yp 8 79 HT_ ?_
       refine yp 9 80 HT_ ?_
       refine yp 10 81 HT_ ?_
       exact norm_ (by simp only [putAll,Act.put,za9,zb0,zb1]) (hCont (.slice dc bM.length dd,cS,bQ,aN) _ ⟨hHeld,(yV0 aK),(yr bs),(yr bu),(yV0 ac),(yS0 aa),(yk af),(yk ag),(yk ah),(yk ay),ck.out,cl.out,ba.out,bb.out,aE.out,aG.out,aX.out,aY.out,yhb⟩)
      rintro ⟨eE,cS,bQ,aN⟩ w49 hS_
      try dsimp only at hS_
      obtain ⟨hS_,h0_,h1_,h2_,h3_,h4_,h5_,h6_,h7_,h8_,h9_,eZ,e8,e9,fa,fb,fc,fd,fe⟩:=hS_
      have n0_:=zm h0_;have n1_:=zm h1_;have n2_:=zm h2_;have n3_:=zm h3_;have n4_:=zm h4_;have n5_:=zm h5_;have n6_:=zm h6_;have n7_:=zm h7_;have n8_:=zm h8_;have n9_:=zm h9_;have ff:=zm eZ;have fg:=zm e8;have fh:=zm e9;have fi:=zm fa;have fj:=zm fb;have fk:=zm fc;have fl:=zm fd;have fm:=zm fe;clear ac aa af ag ah HB h0_ h1_ h2_ h3_ h4_ h5_ h6_ h7_ h8_ h9_ eZ e8 e9 fa fb fc fd fe;have aK:=n0_;have bs:=n1_;have bu:=n2_;have ac:=n3_;have aa:=n4_;have af:=n5_;have ag:=n6_;have ah:=n7_;have ay:=n8_;have ck:=n9_;have cl:=ff;have ba:=fg;have bb:=fh;have aE:=fi;have aG:=fj;have aX:=fk;have aY:=fl;have HB:=fm;clear n0_ n1_ n2_ n3_ n4_ n5_ n6_ n7_ n8_ n9_ ff fg fh fi fj fk fl fm
      have hHeld:=hS_
      obtain ⟨df,dg,fo⟩:=zU bs.out
      (first|subst fo|(injection fo with f1_ f2_ f3_;have f4_:=f1_.symm;have f5_:=f3_.symm;clear f1_ f2_ f3_;subst f4_;subst f5_))
      refine norm_ (a' := ?_) ?_ ?_
      rotate_left
      ·
       simp only [putAll,Act.put,za9,zb0,zb1]
       rfl
      refine yv 12 HT_ (fun K hK => ?_)
      have gP : w49.cell? ⟨aN,0,none⟩=some (.int .u64 0):=(zs ay.out 0).trans rfl
      have hfs50:=zx ay.out 0
      have:=ba.out
      have:=aE.out
      have:=aX.out
      have:=bb.out
      have:=aG.out
      have:=aY.out
      have gQ : w49.cell? ⟨aN,1,none⟩=some (.int .u32 0):=(zs ay.out 1).trans rfl
      have hfs51:=zx ay.out 1
      have:=ba.out
      have:=aE.out
      have:=aX.out
      have:=bb.out
      have:=aG.out
      have:=aY.out
      have gR : w49.cell? ⟨aN,2,none⟩=some (.slice none 0 0):=(zs ay.out 2).trans rfl
      have hfs53:=zx ay.out 2
      have:=ba.out
      have:=aE.out
      have:=aX.out
      have:=bb.out
      have:=aG.out
      have:=aY.out
      have gS : w49.cell? ⟨aN,3,none⟩=some (.int .i64 0):=(zs ay.out 3).trans rfl
      have hfs54:=zx ay.out 3
      have:=ba.out
      have:=aE.out
      have:=aX.out
      have:=bb.out
      have:=aG.out
      have:=aY.out
      refine skip_ (w1 := ?_) (by rfl) rfl ?_ ?_
      rotate_left
      ·
       go_simp
       rfl
      refine hK.out _ _ yH (fun hHeld => ?_)
      clear hK K
      refine yp 13 16 HT_ ?_
      refine yp 14 17 HT_ ?_
      refine done_ (done_of HT_.out (by kernel_rfl)) ?_
      try go_wp2
      obtain ⟨w55,hw_⟩ : ∃ x,x=((((w49.setCell ⟨aN,0,none⟩ (.int .u64 b5)).setCell ⟨aN,1,none⟩ (.int .u32 b6)).setCell ⟨aN,2,none⟩ (.slice df bW.length dg)).setCell ⟨aN,3,none⟩ (.int .i64 b7)):=⟨_,rfl⟩
      rw [← hw_]
      replace ac : Aside0 (Kd.V (Kd.int .u8) 5 w55 w.heap.size (fun k_=>some k_≠(ap : Value).ownBlock∧some k_≠(bQ : Value).ownBlock∧k_≠aq∧k_≠aj∧k_≠al∧k_≠aN) (.slice cg av.length ch) av):=⟨by rw [hw_];exact (yV0 ac)⟩
      replace aa : Aside0 (Kd.S (Kd.slice 3 (Kd.int .i64)) 49 w55 w.heap.size (fun k_=>some k_≠(bQ : Value).ownBlock) ap ae):=⟨by rw [hw_];exact (yS1 aa ay)⟩
      replace aK : Aside0 (Kd.V (Kd.int .i64) 3 w55 w.heap.size (fun k_=>some k_≠(ap : Value).ownBlock∧some k_≠(bQ : Value).ownBlock∧k_≠aq∧k_≠aj∧k_≠al∧k_≠aN) eE bM):=⟨by rw [hw_];exact (yV0 aK)⟩
      replace bs : Aside0 (Kd.V (Kd.int .u8) 5 w55 w.heap.size (fun k_=>some k_≠(ap : Value).ownBlock∧some k_≠(bQ : Value).ownBlock∧k_≠aq∧k_≠aj∧k_≠al∧k_≠aN) (.slice df bW.length dg) bW):=⟨by rw [hw_];exact (yV0 bs)⟩
      replace bu : Aside0 (Kd.R (Kd.int .i64) 3 w55 w.heap.size (fun _=>True) bQ bX):=⟨by rw [hw_];exact (yR1 bu ay)⟩
      replace af : Aside0 (w55.heap[aq]? = some (.cells #[.bool false, .slice none 0 0, .slice none 0 0] 25 (0,0))):=⟨by rw [hw_];exact (yk af)⟩
      replace ag : Aside0 (w55.heap[aj]? = some (.cells #[.int .u64 az, .int .u32 aA, .slice cg av.length ch, .int .i64 aC] 82 (0,0))):=⟨by rw [hw_];exact (yk ag)⟩
      replace ah : Aside0 (w55.heap[al]? = some (.cells #[.bool (bd == 1),ap, .slice none 0 0] 25 (0,0))):=⟨by rw [hw_];exact (yk ah)⟩
      replace ay : Aside0 (w55.heap[aN]? = some (.cells #[.int .u64 b5, .int .u32 b6, .slice df bW.length dg, .int .i64 b7] 82 (0,0))):=⟨by rw [hw_];exact (ykp ay)⟩
      replace HB : Aside0 (Below w.heap.size w w55):=⟨by rw [hw_];exact (yhb)⟩
      clear hw_
      replace ac:=zm (zC ac.out)
      replace aa:=zm (Kd.S_drew aa.out)
      replace aK:=zm (zC aK.out)
      replace bs:=zm (zC bs.out)
      replace bu:=zm (zq bu.out)
      replace af:=zm (zj af.out)
      replace ag:=zm (zj ag.out)
      replace ah:=zm (zj ah.out)
      replace ay:=zm (zj ay.out)
      replace HB:=zm (zf HB.out)
      obtain ⟨dh,di,fp⟩:=zT bu.out
      (first|subst fp|(injection fp with f1_ f2_ f3_;have f4_:=f1_.symm;have f5_:=f3_.symm;clear f1_ f2_ f3_;subst f4_;subst f5_))
      refine yst (fun w' => w'.cell? ⟨aN,0,none⟩=some (.int .u64 b5)∧w'.cell? ⟨aN,1,none⟩=some (.int .u32 b6)∧w'.cell? ⟨aN,2,none⟩=some (.slice df bW.length dg)∧w'.cell? ⟨aN,3,none⟩=some (.int .i64 b7)∧w'.cell? ⟨al,0,none⟩=some (.bool (bd == 1))∧w'.cell? ⟨al,1,none⟩=some (ap)∧w'.cell? ⟨al,2,none⟩=some (.slice none 0 0)) [8] 9 cpack_Read.tab15 cpack_Read.bits15 (fun hHeld HT_ HW_ => ?_)
      generalize w55.drew=w56 at ac aa aK bs bu af ag ah ay HB hHeld ⊢
      refine yp 1 83 HT_ ?_
      refine yp 3 85 HT_ ?_
      refine yl 0 82 HT_ HW_ hHeld ?_
      refine yl 2 84 HT_ HW_ hHeld ?_
      refine yw 4 86 HT_ (fun K hK => ?_)
      refine value_ (w1 := ?_) (v := ?_) (by rfl) rfl ?_ ?_
      rotate_left 2
      ·
       go_simp
       constructor
       ·
        rfl
       rfl
      refine hK.out _ _ ⟨(zs (zi ay.out _) 0).trans rfl,(zs (zi ay.out _) 1).trans rfl,(zs (zi ay.out _) 2).trans rfl,(zs (zi ay.out _) 3).trans rfl,(zs (zi ah.out _) 0).trans rfl,(zs (zi ah.out _) 1).trans rfl,(zs (zi ah.out _) 2).trans rfl⟩ (fun hHeld => ?_)
      clear hK K
      refine ym (some 86) ?_
      refine yw 5 87 HT_ (fun K hK => ?_)
      refine Kd.S_append_step (Kd.slice 3 (Kd.int .i64)) (w0:=w) w.heap.size (by rfl) (.tmp 84) (.tmp 86) 22 49 (.slice none 0 0) 24 rfl Try.underlying22 info49 rfl (by decide) (by omega) ap ae bX [.slice dh bX.length di] (fun _=>True) (fun k_=>some k_=(.slice dh bX.length di : Value).ownBlock) rfl rfl ?aP (fun k_ hk_=>((zG (ok' := fun k_=>((fun _=>True)) k_∧some k_≠(ap : Value).ownBlock) (zZ (bu.out) (Kd.S_typed aa.out) (by decide)) (fun k_ hk=>⟨trivial,hk.2⟩))).1 k_ hk_.symm) ?aF ?aO ?aB ?aS ?aL ?_
      (case aP=>exact Kd.M_row (zG (Kd.R_tight rfl (zG (ok' := fun k_=>((fun _=>True)) k_∧some k_≠(ap : Value).ownBlock) (zZ (bu.out) (Kd.S_typed aa.out) (by decide)) (fun k_ hk=>⟨trivial,hk.2⟩))) (fun _ h_=>h_)))
      (case aB=>exact yhb)
      (case aF=>exact (fun _ _=>trivial))
      (case aO=>exact (yS0 aa))
      (case aS=>exact (zE yhb))
      (case aL=>have:=LMc42.out;omega)
      intro gT w57 ho hb hg hat
      rw [← eV.out] at ho
      replace ac:=zm (zc1 (ok:=(fun k_=>some k_≠(.slice dh bX.length di : Value).ownBlock∧k_≠aq∧k_≠aj∧k_≠al∧k_≠aN)) (yV0 ac) hg hat)
      replace af:=zm (zc3 (yk af) hg (Kd.S_ne aa.out af.out (by decide)))
      replace ag:=zm (zc3 (yk ag) hg (Kd.S_ne aa.out ag.out (by decide)))
      replace ah:=zm (zc3 (yk ah) hg (Kd.S_ne aa.out ah.out (by decide)))
      replace aK:=zm (zc1 (ok:=(fun k_=>some k_≠(.slice dh bX.length di : Value).ownBlock∧k_≠aq∧k_≠aj∧k_≠al∧k_≠aN)) (yV0 aK) hg hat)
      replace bs:=zm (zc1 (ok:=(fun k_=>some k_≠(.slice dh bX.length di : Value).ownBlock∧k_≠aq∧k_≠aj∧k_≠al∧k_≠aN)) (yV0 bs) hg hat)
      replace ay:=zm (zc3 (yk ay) hg (Kd.S_ne aa.out ay.out (by decide)))
      replace HB:=zm (hb)
      have es:=zm (ho);clear aa bu ho hb hg hat
      obtain ⟨f6,f7,fq⟩:=zV es.out
      (first|subst fq|(injection fq with f1_ f2_ f3_;have f4_:=f1_.symm;have f5_:=f3_.symm;clear f1_ f2_ f3_;subst f4_;subst f5_))
      refine hK.out _ _ yH (fun hHeld => ?_)
      clear hK K
      refine ym (some 87) ?_
      refine yv 6 HT_ (fun K hK => ?_)
      have gU : w57.cell? ⟨aj,0,none⟩=some (.int .u64 az):=(zs ag.out 0).trans rfl
      have hfs59:=zx ag.out 0
      have:=bg.out
      have:=aU.out
      have:=aG.out
      have:=bh.out
      have:=aT.out
      have:=aE.out
      have gV : w57.cell? ⟨aj,1,none⟩=some (.int .u32 aA):=(zs ag.out 1).trans rfl
      have hfs60:=zx ag.out 1
      have:=bg.out
      have:=aU.out
      have:=aG.out
      have:=bh.out
      have:=aT.out
      have:=aE.out
      have gW : w57.cell? ⟨aj,2,none⟩=some (.slice cg av.length ch):=(zs ag.out 2).trans rfl
      have hfs61:=zx ag.out 2
      have:=bg.out
      have:=aU.out
      have:=aG.out
      have:=bh.out
      have:=aT.out
      have:=aE.out
      have gX : w57.cell? ⟨aj,3,none⟩=some (.int .i64 aC):=(zs ag.out 3).trans rfl
      have hfs62:=zx ag.out 3
      have:=bg.out
      have:=aU.out
      have:=aG.out
      have:=bh.out
      have:=aT.out
      have:=aE.out
      refine skip_ (w1 := ?_) (by rfl) rfl ?_ ?_
      rotate_left
      ·
       go_simp
       rfl
      refine hK.out _ _ yH (fun hHeld => ?_)
      clear hK K
      refine yp 7 88 HT_ ?_
      refine last_ (i:=8) (N:=none) #[true,true,true,true,true,true,true,true,true] rfl rfl (one_of HT_.out (by kernel_rfl)) (by decide) (fun K hK => ?_)
      have gY : w57.cell? ⟨al,1,none⟩=some (ap):=(zs ah.out 1).trans rfl
      have hfs64:=zx ah.out 1
      have:=bi.out
      have:=aT.out
      have:=aY.out
      have:=bj.out
      have:=aU.out
      have:=aX.out
      refine skip_ (w1 := ?_) (by rfl) rfl ?_ ?_
      rotate_left
      ·
       go_simp
       rfl
      refine hK.out _ _ ?_
      clear hK K
      refine done_ (done_of HT_.out (by kernel_rfl)) ?_
      try go_wp2
      go_roundg k2
      case measure=>exact yom2 ct HK2
      case rel=>exact ⟨(wrap64 (bP+1)),(b5),(b6),(bW),(b7),(eD),(.slice df bW.length dg),(.slice f6 eD.length f7),yq,H',⟨yom2 ct HK2⟩,⟨yV0 bs⟩,⟨yS2 es ag ah⟩,⟨yk af⟩,⟨ykp ag⟩,⟨ykp ah⟩,⟨yhb⟩⟩
     obtain ⟨⟨ax,f9⟩,A65,H⟩:=ybi H
     try dsimp only at H
     have H' := zm H
     clear H
     have:=bj.out
     have:=bi.out
     have:=aU.out
     have:=aT.out
     obtain ⟨ea,eb,ec,ed,ee,ef⟩:=yc3 ah
     obtain ⟨aV,aW,ga⟩:=zV aa.out
     subst ga
     go_wp2_with (first|((with_reducible refine zK (f:=30) rfl ?_);refine ygl 95 Try.func30 #[.int .i64 a0, .int .i64 a1, .slice aV ae.length aW] ?_;(with_reducible refine (alloc_Pulses.calls k2 a0 a1 _ _ ae ax f9 _ ?br ?bO A65.out).mono ?_);(case br=>exact yce (zS aa.out).2.2);(case bO=>exact (zS aa.out).2.1);rintro e w70 ⟨bY,rfl,ho0,hb⟩;refine ⟨_,rfl, ?_⟩;replace ac:=zm (za7 (yr ac) (Kd.S_base ho0) hb);have ft:=zm (Kd.S_lower (Kd.S_new' ho0 (Kd.S_lt (yr aa))) (zE yhb));replace aa:=zm (za8 (yr aa) (Kd.S_base ho0) hb);replace af:=ybb af hb;replace ag:=ybb ag hb;replace ah:=ybb ah hb;replace HB:=ybs hb;(try clear hb);(try clear ho0)))
     go_loopg [99] k2 (fun kq v99 w' => ∃ (ao : Int) (bE : Int) (bF : Int) (bG : List Int) (bH : Int) (aI : List (List (List Int))) (a9 : Value) (aM : Value),v99=.int .i64 ao∧Aside0 (cpack_Read.l1 kq ax a1 ao bE bF bG bH (bd == 1) ae aI=some (r1,r2,r3,r4))∧Aside0 (kq≤k2)∧Aside0 (Kd.S (Kd.slice 3 (Kd.int .i64)) 49 w' w.heap.size (fun k_=>some k_≠((.slice aV ae.length aW) : Value).ownBlock) bY ax)∧Aside0 (Kd.V (Kd.int .u8) 5 w' w.heap.size (fun k_=>some k_≠(bY : Value).ownBlock∧some k_≠((.slice aV ae.length aW) : Value).ownBlock∧some k_≠(aM : Value).ownBlock∧k_≠aq∧k_≠aj∧k_≠al) a9 bG)∧Aside0 (Kd.S (Kd.slice 3 (Kd.int .i64)) 49 w' w.heap.size (fun k_=>some k_≠(bY : Value).ownBlock) (.slice aV ae.length aW) ae)∧Aside0 (Kd.R (Kd.slice 49 (Kd.slice 3 (Kd.int .i64))) 22 w' w.heap.size (fun k_=>some k_≠(bY : Value).ownBlock∧some k_≠((.slice aV ae.length aW) : Value).ownBlock) aM aI)∧Aside0 (w'.heap[aq]? = some (.cells #[.bool false,(.slice none 0 0),(.slice none 0 0)] 25 (0,0)))∧Aside0 (w'.heap[aj]? = some (.cells #[.int .u64 bE, .int .u32 bF,a9, .int .i64 bH] 82 (0,0)))∧Aside0 (w'.heap[al]? = some (.cells #[.bool (bd == 1),(.slice aV ae.length aW),aM] 25 (0,0)))∧Aside0 (Below w.heap.size w w'))
     case atStart=>exact ⟨(0),(az),(aA),(av),(aC),(([] : List (List (List Int)))),(a9),(.slice none 0 0),yq,H',⟨zX _⟩,⟨yS0 ft⟩,⟨yV0 ac⟩,⟨yS0 aa⟩,⟨yn⟩,⟨yk af⟩,⟨yk ag⟩,⟨yk ah⟩,⟨yhb⟩⟩
     case round =>
      clear H'
      try clear er
      try clear ea
      try clear eb
      try clear ec
      try clear ed
      try clear ee
      try clear ef
      obtain ⟨ao,bE,bF,bG,bH,aI,a9,aM,rfl,HA,HK3,ak,ac,aa,ai,af,ag,ah,HB⟩:=hrel
      obtain ⟨k3,rfl⟩:=ysu gk (fun h=>by subst h;exact absurd HA.out (by simp [cpack_Read.l1]))
      have H:=HA.out;clear HA
      simp only [cpack_Read.l1] at H
      replace H:=yId H
      obtain ⟨et,H⟩ | ⟨et,H⟩:=H
      ·
       have H' := zm H
       clear H
       go_wp2
       go_loopg [21,102] k3 (fun kq v21 gb w' => ∃ (bv : List (List Int)) (am : Int) (aZ : Int) (a7 : Int) (aJ : List Int) (a8 : Int) (a9 : Value),gb=.int .i64 am∧Aside0 (cpack_Read.l2 kq ax ao bv a1 ao am aZ a7 aJ a8 (bd == 1) ae aI=some (r1,r2,r3,r4))∧Aside0 (kq≤k3)∧Aside0 (Kd.S (Kd.slice 3 (Kd.int .i64)) 49 w' w.heap.size (fun k_=>some k_≠(v21 : Value).ownBlock∧some k_≠((.slice aV ae.length aW) : Value).ownBlock) bY ax)∧Aside0 (Kd.S (Kd.slice 3 (Kd.int .i64)) 49 w' w.heap.size (fun k_=>some k_≠(bY : Value).ownBlock∧some k_≠((.slice aV ae.length aW) : Value).ownBlock) v21 bv)∧Aside0 (Kd.V (Kd.int .u8) 5 w' w.heap.size (fun k_=>some k_≠(bY : Value).ownBlock∧some k_≠(v21 : Value).ownBlock∧some k_≠((.slice aV ae.length aW) : Value).ownBlock∧some k_≠(aM : Value).ownBlock∧k_≠aq∧k_≠aj∧k_≠al) a9 aJ)∧Aside0 (Kd.S (Kd.slice 3 (Kd.int .i64)) 49 w' w.heap.size (fun k_=>some k_≠(bY : Value).ownBlock∧some k_≠(v21 : Value).ownBlock) (.slice aV ae.length aW) ae)∧Aside0 (Kd.R (Kd.slice 49 (Kd.slice 3 (Kd.int .i64))) 22 w' w.heap.size (fun k_=>some k_≠(bY : Value).ownBlock∧some k_≠(v21 : Value).ownBlock∧some k_≠((.slice aV ae.length aW) : Value).ownBlock) aM aI)∧Aside0 (w'.heap[aq]? = some (.cells #[.bool false,(.slice none 0 0),(.slice none 0 0)] 25 (0,0)))∧Aside0 (w'.heap[aj]? = some (.cells #[.int .u64 aZ, .int .u32 a7,a9, .int .i64 a8] 82 (0,0)))∧Aside0 (w'.heap[al]? = some (.cells #[.bool (bd == 1),(.slice aV ae.length aW),aM] 25 (0,0)))∧Aside0 (Below w.heap.size w w'))
       case atStart=>exact ⟨(([] : List (List Int))),(0),(bE),(bF),(bG),(bH),(a9),yq,H',⟨zX _⟩,⟨yS0 ak⟩,⟨yn⟩,⟨yV0 ac⟩,⟨yS0 aa⟩,⟨yR0 ai⟩,⟨yk af⟩,⟨yk ag⟩,⟨yk ah⟩,⟨yhb⟩⟩
       case round =>
        clear H'
        try clear et
        obtain ⟨bv,am,aZ,a7,aJ,a8,a9,rfl,HA,HK4,ak,au,ac,aa,ai,af,ag,ah,HB⟩:=hrel
        obtain ⟨k4,rfl⟩:=ysu gk (fun h=>by subst h;exact absurd HA.out (by simp [cpack_Read.l2]))
        have H:=HA.out;clear HA
        simp only [cpack_Read.l2] at H
        replace H:=yId H
        obtain ⟨fu,H⟩ | ⟨fu,H⟩:=H
        ·
         obtain ⟨bS,A73,H⟩:=ybi H
         obtain ⟨c74,H⟩:=yif H
         have gC:=zP c74
         have gD : decide (0≤bS)=true:=decide_eq_true c74
         clear c74
         obtain ⟨c75,H⟩:=yif H
         have gE:=zP c75
         have gF : decide ((bS : Int).toNat≤35184372088832)=true:=decide_eq_true c75
         clear c75
         obtain ⟨b8,dj⟩ : ∃ y_ : List Int,y_=(List.replicate (bS : Int).toNat 0):=⟨_,rfl⟩
         replace H : (if 0≤ao then (if ao < (ax.length : Int) then (if 0≤am then (if am < ((rd_L1 ax ao).length : Int) then (if (rd (rd_L1 ax ao) am) > 0 then ((band_Width.f am).bind fun cv=>((comb_Count.f cv (rd (rd_L1 ax ao) am)).bind fun cZ=>((coder_TakeNum.f k4 aZ a7 aJ a8 cZ.1).bind fun bD=>((band_Width.f am).bind fun cw=>((comb_Vector.f k4 cw (rd (rd_L1 ax ao) am) bD.2.2.2.2.1).bind fun da=>(if bv.length < 5864062014805 then (cpack_Read.l2 k4 ax ao (bv ++ [da.1]) a1 ao (wrap64 (am+1)) bD.1 bD.2.1 bD.2.2.1 bD.2.2.2.1 (bd == 1) ae aI) else (none))))))) else (if bv.length < 5864062014805 then (cpack_Read.l2 k4 ax ao (bv ++ [b8]) a1 ao (wrap64 (am+1)) aZ a7 aJ a8 (bd == 1) ae aI) else (none))) else (none)) else (none)) else (none)) else (none))=some (r1,r2,r3,r4):=yrw dj H
         have cE:=zm dj;clear dj
         obtain ⟨c76,H⟩:=yif H
         have gG : decide (0≤ao)=true:=decide_eq_true c76
         clear c76
         obtain ⟨c77,H⟩:=yif H
         have gH : decide (ao < (ax.length : Int))=true:=decide_eq_true c77
         clear c77
         obtain ⟨c78,H⟩:=yif H
         have gI : decide (0≤am)=true:=decide_eq_true c78
         clear c78
         obtain ⟨c79,H⟩:=yif H
         have gJ : decide (am < ((rd_L1 ax ao).length : Int))=true:=decide_eq_true c79
         clear c79
         replace H:=yIs H
         obtain ⟨fv,H⟩ | ⟨fv,H⟩:=H
         ·
          obtain ⟨cv,A81,H⟩:=ybi H
          obtain ⟨⟨eF,gc⟩,A82,H⟩:=ybi H
          try dsimp only at H
          obtain ⟨⟨cB,cC,ci,cD,eG,gf⟩,A83,H⟩:=ybi H
          try dsimp only at H
          obtain ⟨cw,A84,H⟩:=ybi H
          obtain ⟨⟨bT,gg⟩,A85,H⟩:=ybi H
          try dsimp only at H
          obtain ⟨c86,H⟩:=yif H
          have LMc86:=zm c86;clear c86
          obtain ⟨fw,dk⟩ : ∃ y_ : List (List Int),y_=(bv ++ [bT]):=⟨_,rfl⟩
          replace H : (cpack_Read.l2 k4 ax ao fw a1 ao (wrap64 (am+1)) cB cC ci cD (bd == 1) ae aI)=some (r1,r2,r3,r4):=yrw dk H
          have fx:=zm dk;clear dk
          have H' := zm H
          clear H
          try go_wp2_with (first|((with_reducible refine zK (f:=32) rfl ?_);refine ygl 106 Try.func32 #[.int .i64 am] ?_;(with_reducible refine (band_Width.calls am bS _ A73.out).mono ?_);rintro e w87 ⟨rfl,hb⟩;refine ⟨_,rfl, ?_⟩;replace ak:=ySb ak hb;replace au:=ySb au hb;replace ac:=yVb ac hb;replace aa:=ySb aa hb;replace ai:=yRb ai hb;replace af:=ybb af hb;replace ag:=ybb ag hb;replace ah:=ybb ah hb;replace HB:=ybs hb;(try clear hb))|((with_reducible refine zL (N:=107) rfl ?_);refine Kd.R_make (Kd.int .i64) _ 3 rfl (N:=107) rfl 49 _ _ rfl bS rfl rfl Try.underlying49 (.int .i64 0) 8 info3 rfl (by decide) (by omega) 0 (ok:=fun _=>True) (okp:=fun _=>True) rfl (fun _ hk=>hk) trivial (yt) (Nat.le_trans (Nat.mul_le_mul_right _ (yt : bS.toNat≤35184372088832)) (by omega)) (zY _ _) (zX _) ?_;intro bw w88 cj hb hg_ hnew_;clear hg_ hnew_;(first|rw [← cE.out] at cj|(simp only [Int.reduceToNat] at cj;rw [← cE.out] at cj));replace ak:=zm (za8 (yr ak) (zW cj) hb);replace au:=zm (za8 (yr au) (zW cj) hb);replace ac:=zm (za7 (yr ac) (zW cj) hb);replace aa:=zm (za8 (yr aa) (zW cj) hb);replace ai:=zm (za6 (yr ai) (zW cj) hb);have aQ:=zm (za0 cj (zE yhb));replace af:=ybb af hb;replace ag:=ybb ag hb;replace ah:=ybb ah hb;replace HB:=ybs hb;clear hb cj;obtain ⟨gZ,bA,gh⟩:=zV ak.out;subst gh;obtain ⟨aH,eH,dl,eI,eg,eh,bc,aw,gi,gj⟩:=ysl ak.out ao;cases eI;obtain ⟨eu,eJ,ei,gl,gm⟩:=yai bc am;cases eJ))
          replace ak:=zm (Kd.S_drew ak.out)
          replace au:=zm (Kd.S_drew au.out)
          replace ac:=zm (zC ac.out)
          replace aa:=zm (Kd.S_drew aa.out)
          replace ai:=zm (zq ai.out)
          replace aQ:=zm (zq aQ.out)
          replace aw:=zm (zq aw.out)
          replace af:=zm (zj af.out)
          replace ag:=zm (zj ag.out)
          replace ah:=zm (zj ah.out)
          replace bc:=zm (Kd.C_drew bc.out)
          replace HB:=zm (zf HB.out)
          have ej : 0≤(ao : Int):=yt
          have ek : ao < (ax.length : Int):=yt
          obtain ⟨fy,gn,dm,go,cF,cG,cH⟩:=at_L1 (zS ak.out).2.2 ao ej ek
          obtain rfl : aH=fy:=(by injection go)
          obtain ⟨ce552,hce552,hMe552,hcc552⟩:=Kd.S_get ak.out [] ao ej (by first|exact ek|exact yt|(have e_:=(zS ak.out).1;omega))
          obtain ⟨ve552_0,rfl,ge552_0⟩:=hMe552
          have hv552_0:=hcc552 0 _ rfl
          rw [Nat.add_zero,show ((Kd.slice 3 (Kd.int .i64))).sz=1 from rfl,Nat.mul_one] at hv552_0
          replace hv552_0:=zO (hv552_0.symm.trans cF)
          rw [hv552_0] at ge552_0
          have aD:=zm (show Kd.R (Kd.int .i64) 3 _ _ _ _ (rd_L1 ax ao) from ge552_0)
          clear hv552_0 ge552_0 hcc552 hce552;have bq:=zm cH;have fU:=zm cG;clear cH cG
          replace ej:=zP ej
          replace ek:=zP ek
          obtain ⟨dp,gp,el,g7,g8⟩:=yai bq am
          cases gp
          refine yst (fun w' => w'.cell? (aH.add (ao).toNat)=some (.slice (some dp) (rd_L1 ax ao).length dm)∧w'.cell? (dp.add (am).toNat)=some (.int .i64 (rd (rd_L1 ax ao) am))) [] 15 cpack_Read.tab27 cpack_Read.bits27 (fun hHeld HT_ HW_ => ?_)
          generalize w88.drew=w91 at ak au ac aa ai aQ aw af ag ah bc HB aD bq cF el hHeld ⊢
          refine yp 0 117 HT_ ?_
          refine yp 2 119 HT_ ?_
          refine yp 3 120 HT_ ?_
          refine yp 4 121 HT_ ?_
          refine yp 6 123 HT_ ?_
          refine yl 5 122 HT_ HW_ hHeld ?_
          refine yp 7 124 HT_ ?_
          refine yl 8 125 HT_ HW_ hHeld ?_
          refine yw 1 118 HT_ (fun K hK => ?_)
          refine ygs Try.func32 #[.int .i64 am] ?_
          with_reducible refine (band_Width.calls am cv _ A81.out).mono ?_
          rintro e w92 ⟨rfl,hb⟩
          have eK:=yhs hb hHeld.1
          have eL:=yhs hb hHeld.2
          refine ⟨_,rfl, ?_⟩
          replace ak:=ySb ak hb
          replace au:=ySb au hb
          replace ac:=yVb ac hb
          replace aa:=ySb aa hb
          replace ai:=yRb ai hb
          replace aQ:=yRb aQ hb
          replace aw:=yRb aw hb
          replace aD:=yRb aD hb
          replace af:=ybb af hb
          replace ag:=ybb ag hb
          replace ah:=ybb ah hb
          replace bc:=yCb bc hb
          replace bq:=yCb bq hb
          replace HB:=ybs hb
          (try clear hb)
          refine hK.out _ _ yH (fun hHeld => ?_)
          clear hK K
          refine ym (some 118) ?_
          refine yw 9 126 HT_ (fun K hK => ?_)
          refine ygs Try.func31 #[.int .i64 cv, .int .i64 (rd (rd_L1 ax ao) am)] ?_
          with_reducible refine (comb_Count.calls cv (rd (rd_L1 ax ao) am) eF gc _ A82.out).mono ?_
          rintro e w93 ⟨rfl,hb⟩
          have eK:=yhs hb hHeld.1
          have eL:=yhs hb hHeld.2
          refine ⟨_,rfl, ?_⟩
          replace ak:=ySb ak hb
          replace au:=ySb au hb
          replace ac:=yVb ac hb
          replace aa:=ySb aa hb
          replace ai:=yRb ai hb
          replace aQ:=yRb aQ hb
          replace aw:=yRb aw hb
          replace aD:=yRb aD hb
          replace af:=ybb af hb
          replace ag:=ybb ag hb
          replace ah:=ybb ah hb
          replace bc:=yCb bc hb
          replace bq:=yCb bq hb
          replace HB:=ybs hb
          (try clear hb)
          refine hK.out _ _ yH (fun hHeld => ?_)
          clear hK K
          refine ym (some 126) ?_
          refine yp 10 116 HT_ ?_
          refine yp 11 127 HT_ ?_
          refine yp 12 128 HT_ ?_
          refine yp 13 24 HT_ ?_
          refine yp 14 25 HT_ ?_
          refine done_ (done_of HT_.out (by kernel_rfl)) ?_
          have:=bh.out
          have:=bg.out
          have:=aT.out
          have:=aU.out
          obtain ⟨_,_,_,_,_,_,_,_⟩:=yc4 ag
          obtain ⟨fz,fA,gu⟩:=zU ac.out
          subst gu
          try go_wp2_with (first|((with_reducible refine zK (f:=53) rfl ?_);refine ygl 132 Try.func53 #[.agg #[.int .u64 aZ, .int .u32 a7, .slice fz aJ.length fA, .int .i64 a8], .int .u64 eF] ?_;(with_reducible refine (coder_TakeNum.calls k4 aZ a7 (fun k_=>((some k_≠(.slice (some aH) ax.length bA : Value).ownBlock∧(some k_≠(u21 : Value).ownBlock∧(some k_≠(.slice aV ae.length aW : Value).ownBlock∧(some k_≠(aM : Value).ownBlock∧(k_≠aq∧(k_≠aj∧k_≠al))))))∧some k_≠(bw : Value).ownBlock)) _ _ aJ a8 eF cB cC ci cD eG gf _ ac.out A83.out).mono ?_);rintro e w98 ⟨g9,rfl,ho0,hb⟩;refine ⟨_,rfl, ?_⟩;replace ac:=yVb ac hb;replace aw:=yRb aw hb;replace aD:=yRb aD hb;have bx:=yho (fun k_=>some k_≠(.slice (some aH) ax.length bA : Value).ownBlock∧some k_≠(u21 : Value).ownBlock∧some k_≠(.slice aV ae.length aW : Value).ownBlock∧some k_≠(aM : Value).ownBlock∧some k_≠(bw : Value).ownBlock∧k_≠aq∧k_≠aj∧k_≠al) ho0 (fun k_ hk_=>⟨yoS ak hk_,yoS au hk_,yoS aa hk_,yoR ai hk_,yoR aQ hk_,yoB af hk_,yoB ag hk_,yoB ah hk_⟩);replace ak:=ySb ak hb;replace au:=ySb au hb;replace aa:=ySb aa hb;replace ai:=yRb ai hb;replace aQ:=yRb aQ hb;replace af:=ybb af hb;replace ag:=ybb ag hb;replace ah:=ybb ah hb;replace bc:=yCb bc hb;replace bq:=yCb bq hb;replace HB:=ybs hb;(try clear hb);(try clear ho0))|((with_reducible refine zL (N:=26) rfl ?_);refine ybx 26 #[.int .u64 0, .int .u32 0, .slice none 0 0, .int .i64 0] 82 ?_;intro bR hg w99 hbox hb;replace ak:=ySb ak hb;replace au:=ySb au hb;replace ac:=yVe ac hg hb;replace aa:=ySb aa hb;replace ai:=yRb ai hb;replace aQ:=yRb aQ hb;replace aw:=yRb aw hb;replace aD:=yRb aD hb;replace bx:=yVe bx hg hb;replace bc:=yCb bc hb;replace bq:=yCb bq hb;have bk:=zm (hbox);have gK:=ygw hg;have gL:=ygw hg;replace HB:=ybs hb;have cT:=ynl af hg;have cU:=yng af hg;replace af:=ybb af hb;have cV:=ynl ag hg;have cW:=yng ag hg;replace ag:=ybb ag hb;have cX:=ynl ah hg;have cY:=yng ah hg;replace ah:=ybb ah hb;clear hb hbox hg;have:=cU.out;have:=cT.out;have:=cW.out;have:=cV.out;have:=cY.out;have:=cX.out;obtain ⟨_,_,_,_,_,_,_,_⟩:=yc4 bk;obtain ⟨cm,cn,fB⟩:=zU bx.out;subst fB;obtain ⟨_,_,_,_,_,_,_,_⟩:=yc4 ag))
          obtain ⟨bN,hw_⟩ : ∃ x,x=((((((((w99.setCell ⟨bR,0,none⟩ (.int .u64 cB)).setCell ⟨bR,1,none⟩ (.int .u32 cC)).setCell ⟨bR,2,none⟩ (.slice cm ci.length cn)).setCell ⟨bR,3,none⟩ (.int .i64 cD)).setCell ⟨aj,0,none⟩ (.int .u64 cB)).setCell ⟨aj,1,none⟩ (.int .u32 cC)).setCell ⟨aj,2,none⟩ (.slice cm ci.length cn)).setCell ⟨aj,3,none⟩ (.int .i64 cD)):=⟨_,rfl⟩
          rw [← hw_]
          replace ak : Aside0 (Kd.S (Kd.slice 3 (Kd.int .i64)) 49 bN w.heap.size (fun k_=>some k_≠(u21 : Value).ownBlock∧some k_≠(.slice aV ae.length aW : Value).ownBlock∧some k_≠(bw : Value).ownBlock) (.slice (some aH) ax.length bA) ax):=⟨by rw [hw_];exact (yS2 ak bk ag)⟩
          replace au : Aside0 (Kd.S (Kd.slice 3 (Kd.int .i64)) 49 bN w.heap.size (fun k_=>some k_≠(.slice (some aH) ax.length bA : Value).ownBlock∧some k_≠(.slice aV ae.length aW : Value).ownBlock∧some k_≠(bw : Value).ownBlock) u21 bv):=⟨by rw [hw_];exact (yS2 au bk ag)⟩
          replace ac : Aside0 (Kd.V (Kd.int .u8) 5 bN w.heap.size (fun k_=>some k_≠(.slice (some aH) ax.length bA : Value).ownBlock∧some k_≠(u21 : Value).ownBlock∧some k_≠(.slice aV ae.length aW : Value).ownBlock∧some k_≠(aM : Value).ownBlock∧some k_≠(bw : Value).ownBlock∧k_≠aq∧k_≠aj∧k_≠al∧k_≠bR) (.slice fz aJ.length fA) aJ):=⟨by rw [hw_];exact (yV0 ac)⟩
          replace aa : Aside0 (Kd.S (Kd.slice 3 (Kd.int .i64)) 49 bN w.heap.size (fun k_=>some k_≠(.slice (some aH) ax.length bA : Value).ownBlock∧some k_≠(u21 : Value).ownBlock∧some k_≠(bw : Value).ownBlock) (.slice aV ae.length aW) ae):=⟨by rw [hw_];exact (yS2 aa bk ag)⟩
          replace ai : Aside0 (Kd.R (Kd.slice 49 (Kd.slice 3 (Kd.int .i64))) 22 bN w.heap.size (fun k_=>some k_≠(.slice (some aH) ax.length bA : Value).ownBlock∧some k_≠(u21 : Value).ownBlock∧some k_≠(.slice aV ae.length aW : Value).ownBlock∧some k_≠(bw : Value).ownBlock) aM aI):=⟨by rw [hw_];exact (yR2 ai bk ag)⟩
          replace aQ : Aside0 (Kd.R (Kd.int .i64) 3 bN w.heap.size (fun _=>True) bw b8):=⟨by rw [hw_];exact (yR2 aQ bk ag)⟩
          replace aw : Aside0 (Kd.R (Kd.int .i64) 3 bN w.heap.size (fun k_=>some k_≠(.slice (some aH) ax.length bA : Value).ownBlock∧some k_≠(u21 : Value).ownBlock∧some k_≠(.slice aV ae.length aW : Value).ownBlock∧some k_≠(bw : Value).ownBlock) (.slice (some eu) (rd_L1 ax ao).length dl) (rd_L1 ax ao)):=⟨by rw [hw_];exact (yR2 aw bk ag)⟩
          replace aD : Aside0 (Kd.R (Kd.int .i64) 3 bN w.heap.size (fun k_=>some k_≠(.slice (some aH) ax.length bA : Value).ownBlock∧some k_≠(u21 : Value).ownBlock∧some k_≠(.slice aV ae.length aW : Value).ownBlock∧some k_≠(bw : Value).ownBlock) (.slice (some dp) (rd_L1 ax ao).length dm) (rd_L1 ax ao)):=⟨by rw [hw_];exact (yR2 aD bk ag)⟩
          replace bx : Aside0 (Kd.V (Kd.int .u8) 5 bN w.heap.size (fun k_=>some k_≠(.slice (some aH) ax.length bA : Value).ownBlock∧some k_≠(u21 : Value).ownBlock∧some k_≠(.slice aV ae.length aW : Value).ownBlock∧some k_≠(aM : Value).ownBlock∧some k_≠(bw : Value).ownBlock∧k_≠aq∧k_≠aj∧k_≠al∧k_≠bR) (.slice cm ci.length cn) ci):=⟨by rw [hw_];exact (yV0 bx)⟩
          replace af : Aside0 (bN.heap[aq]? = some (.cells #[.bool false, .slice none 0 0, .slice none 0 0] 25 (0,0))):=⟨by rw [hw_];exact (yk af)⟩
          replace ag : Aside0 (bN.heap[aj]? = some (.cells #[.int .u64 cB, .int .u32 cC, .slice cm ci.length cn, .int .i64 cD] 82 (0,0))):=⟨by rw [hw_];exact (ykp ag)⟩
          replace ah : Aside0 (bN.heap[al]? = some (.cells #[.bool (bd == 1), .slice aV ae.length aW,aM] 25 (0,0))):=⟨by rw [hw_];exact (yk ah)⟩
          replace bk : Aside0 (bN.heap[bR]? = some (.cells #[.int .u64 cB, .int .u32 cC, .slice cm ci.length cn, .int .i64 cD] 82 (0,0))):=⟨by rw [hw_];exact (ykp bk)⟩
          replace HB : Aside0 (Below w.heap.size w bN):=⟨by rw [hw_];exact (yhb)⟩
          clear hw_
          replace ak:=zm (Kd.S_drew ak.out)
          replace au:=zm (Kd.S_drew au.out)
          replace ac:=zm (zC ac.out)
          replace aa:=zm (Kd.S_drew aa.out)
          replace ai:=zm (zq ai.out)
          replace aQ:=zm (zq aQ.out)
          replace aw:=zm (zq aw.out)
          replace aD:=zm (zq aD.out)
          replace bx:=zm (zC bx.out)
          replace af:=zm (zj af.out)
          replace ag:=zm (zj ag.out)
          replace ah:=zm (zj ah.out)
          replace bk:=zm (zj bk.out)
          replace HB:=zm (zf HB.out)
          have em : 0≤(ao : Int):=yt
          have en : ao < (ax.length : Int):=yt
          obtain ⟨fC,gv,eM,gw,cI,cJ,cK⟩:=at_L1 (zS ak.out).2.2 ao em en
          obtain rfl : aH=fC:=(by injection gw)
          obtain ⟨ce566,hce566,hMe566,hcc566⟩:=Kd.S_get ak.out [] ao em (by first|exact en|exact yt|(have e_:=(zS ak.out).1;omega))
          obtain ⟨ve566_0,rfl,ge566_0⟩:=hMe566
          have hv566_0:=hcc566 0 _ rfl
          rw [Nat.add_zero,show ((Kd.slice 3 (Kd.int .i64))).sz=1 from rfl,Nat.mul_one] at hv566_0
          replace hv566_0:=zO (hv566_0.symm.trans cI)
          rw [hv566_0] at ge566_0
          have bz:=zm (show Kd.R (Kd.int .i64) 3 _ _ _ _ (rd_L1 ax ao) from ge566_0)
          clear hv566_0 ge566_0 hcc566 hce566;have bI:=zm cK;have fV:=zm cJ;clear cK cJ
          replace em:=zP em
          replace en:=zP en
          obtain ⟨ev,gx,eo,hD,hH⟩:=yai bI am
          cases gx
          refine yst (fun w' => w'.cell? (aH.add (ao).toNat)=some (.slice (some ev) (rd_L1 ax ao).length eM)∧w'.cell? (ev.add (am).toNat)=some (.int .i64 (rd (rd_L1 ax ao) am))) [] 15 cpack_Read.tab30 cpack_Read.bits30 (fun hHeld HT_ HW_ => ?_)
          generalize bN.drew=hJ at ak au ac aa ai aQ aw aD bx af ag ah bk HB bz bI cI eo hHeld ⊢
          refine yp 0 138 HT_ ?_
          refine yp 2 140 HT_ ?_
          refine yp 3 141 HT_ ?_
          refine yp 4 142 HT_ ?_
          refine yp 6 144 HT_ ?_
          refine yp 9 147 HT_ ?_
          refine yl 5 143 HT_ HW_ hHeld ?_
          refine yp 7 145 HT_ ?_
          refine yl 8 146 HT_ HW_ hHeld ?_
          refine yw 1 139 HT_ (fun K hK => ?_)
          refine ygs Try.func32 #[.int .i64 am] ?_
          with_reducible refine (band_Width.calls am cw _ A84.out).mono ?_
          rintro e hL ⟨rfl,hb⟩
          have eK:=yhs hb hHeld.1
          have eL:=yhs hb hHeld.2
          refine ⟨_,rfl, ?_⟩
          replace ak:=ySb ak hb
          replace au:=ySb au hb
          replace ac:=yVb ac hb
          replace aa:=ySb aa hb
          replace ai:=yRb ai hb
          replace aQ:=yRb aQ hb
          replace aw:=yRb aw hb
          replace aD:=yRb aD hb
          replace bx:=yVb bx hb
          replace bz:=yRb bz hb
          replace af:=ybb af hb
          replace ag:=ybb ag hb
          replace ah:=ybb ah hb
          replace bk:=ybb bk hb
          replace bI:=yCb bI hb
          replace HB:=ybs hb
          (try clear hb)
          refine hK.out _ _ yH (fun hHeld => ?_)
          clear hK K
          refine ym (some 139) ?_
          refine yw 10 148 HT_ (fun K hK => ?_)
          refine ygs Try.func54 #[.int .i64 cw, .int .i64 (rd (rd_L1 ax ao) am), .int .u64 eG] ?_
          with_reducible refine (comb_Vector.calls k4 cw (rd (rd_L1 ax ao) am) eG bT gg _ A85.out).mono ?_
          rintro e hO ⟨hU,rfl,ho0,hb⟩
          have eK:=yhs hb hHeld.1
          have eL:=yhs hb hHeld.2
          refine ⟨_,rfl, ?_⟩
          replace ak:=zm (za8 (yr ak) (zW ho0) hb)
          replace au:=zm (za8 (yr au) (zW ho0) hb)
          replace ac:=zm (za7 (yr ac) (zW ho0) hb)
          replace aa:=zm (za8 (yr aa) (zW ho0) hb)
          replace ai:=zm (za6 (yr ai) (zW ho0) hb)
          replace bx:=zm (za7 (yr bx) (zW ho0) hb)
          have cL:=zm (za0 (Kd.R_new' (Kd.R_new' (Kd.R_new' (Kd.R_new' ho0 (Kd.R_lt (yr aQ))) (Kd.R_lt (yr aw))) (Kd.R_lt (yr aD))) (Kd.R_lt (yr bz))) (zE yhb))
          replace aQ:=zm (za6 (yr aQ) (zW ho0) hb)
          replace aw:=zm (za6 (yr aw) (zW ho0) hb)
          replace aD:=zm (za6 (yr aD) (zW ho0) hb)
          replace bz:=zm (za6 (yr bz) (zW ho0) hb)
          replace af:=ybb af hb
          replace ag:=ybb ag hb
          replace ah:=ybb ah hb
          replace bk:=ybb bk hb
          replace bI:=yCb bI hb
          replace HB:=ybs hb
          (try clear hb)
          (try clear ho0)
          refine hK.out _ _ yH (fun hHeld => ?_)
          clear hK K
          refine ym (some 148) ?_
          refine yp 11 137 HT_ ?_
          refine yp 12 149 HT_ ?_
          refine yp 13 150 HT_ ?_
          refine yp 14 23 HT_ ?_
          refine done_ (done_of HT_.out (by kernel_rfl)) ?_
          obtain ⟨bJ,bK,fD⟩:=zT cL.out
          subst fD
          try go_wp2_with (first|((with_reducible refine zb9 (b:=.append) (xs := #[.tmp 151, .tmp 153]) rfl ?_);at_builtin;refine Kd.S_append (Kd.slice 3 (Kd.int .i64)) (w0:=w) w.heap.size rfl (.tmp 151) (.tmp 153) 22 49 (.slice none 0 0) 24 rfl Try.underlying22 info49 rfl (by decide) (by omega) u21 bv bT [.slice bJ bT.length bK] (fun k_=>some k_≠(.slice (some aH) ax.length bA : Value).ownBlock∧some k_≠(.slice aV ae.length aW : Value).ownBlock∧some k_≠(bw : Value).ownBlock) (fun k_=>some k_=(.slice bJ bT.length bK : Value).ownBlock) rfl rfl ?aP (fun k_ hk_=>((zG (ok' := fun k_=>((fun k_=>some k_≠(.slice (some aH) ax.length bA : Value).ownBlock∧some k_≠(.slice aV ae.length aW : Value).ownBlock∧some k_≠(bw : Value).ownBlock)) k_∧some k_≠(u21 : Value).ownBlock) (zZ (zZ (zZ (cL.out) (Kd.S_typed ak.out) (by decide)) (Kd.S_typed aa.out) (by decide)) (Kd.S_typed au.out) (by decide)) (fun k_ hk=>⟨⟨hk.1.1.2,⟨hk.1.2,hk.1.1.1.1.1.1.2⟩⟩,hk.2⟩))).1 k_ hk_.symm) ?aF ?aO ?aB ?aS ?aL ?_;(case aP=>exact Kd.M_row (zG (Kd.R_tight rfl (zG (ok' := fun k_=>((fun k_=>some k_≠(.slice (some aH) ax.length bA : Value).ownBlock∧some k_≠(.slice aV ae.length aW : Value).ownBlock∧some k_≠(bw : Value).ownBlock)) k_∧some k_≠(u21 : Value).ownBlock) (zZ (zZ (zZ (cL.out) (Kd.S_typed ak.out) (by decide)) (Kd.S_typed aa.out) (by decide)) (Kd.S_typed au.out) (by decide)) (fun k_ hk=>⟨⟨hk.1.1.2,⟨hk.1.2,hk.1.1.1.1.1.1.2⟩⟩,hk.2⟩))) (fun _ h_=>h_)));(case aB=>exact yhb);(case aF=>exact (fun k_ hk=>⟨zc2 (Kd.S_lt (yr ak)) k_ hk,zc2 (Kd.S_lt (yr aa)) k_ hk,zc2 (Kd.R_lt (yr aQ)) k_ hk⟩));(case aO=>exact (yS0 au));(case aS=>exact (zE yhb));(case aL=>have:=LMc86.out;omega);intro hX ia ho hb hg hat;rw [← fx.out] at ho;replace ak:=zm (Kd.S_after (ok:=(fun k_=>some k_≠(.slice aV ae.length aW : Value).ownBlock∧some k_≠(bw : Value).ownBlock∧some k_≠(.slice bJ bT.length bK : Value).ownBlock)) (yS0 ak) hg hat);replace ac:=zm (zc1 (ok:=(fun k_=>some k_≠(.slice (some aH) ax.length bA : Value).ownBlock∧some k_≠(.slice aV ae.length aW : Value).ownBlock∧some k_≠(aM : Value).ownBlock∧some k_≠(bw : Value).ownBlock∧some k_≠(.slice bJ bT.length bK : Value).ownBlock∧k_≠aq∧k_≠aj∧k_≠al∧k_≠bR)) (yV0 ac) hg hat);replace aa:=zm (Kd.S_after (ok:=(fun k_=>some k_≠(.slice (some aH) ax.length bA : Value).ownBlock∧some k_≠(bw : Value).ownBlock∧some k_≠(.slice bJ bT.length bK : Value).ownBlock)) (yS0 aa) hg hat);replace ai:=zm (zc0 (ok:=(fun k_=>some k_≠(.slice (some aH) ax.length bA : Value).ownBlock∧some k_≠(.slice aV ae.length aW : Value).ownBlock∧some k_≠(bw : Value).ownBlock∧some k_≠(.slice bJ bT.length bK : Value).ownBlock)) (yR0 ai) hg hat);replace af:=zm (zc3 (yk af) hg (Kd.S_ne au.out af.out (by decide)));replace ag:=zm (zc3 (yk ag) hg (Kd.S_ne au.out ag.out (by decide)));replace ah:=zm (zc3 (yk ah) hg (Kd.S_ne au.out ah.out (by decide)));replace aQ:=zm (Kd.R_over' (yr aQ) (Kd.S_typed (yr au)) (by decide) hg);replace aw:=zm (zc0 (ok:=(fun k_=>some k_≠(.slice (some aH) ax.length bA : Value).ownBlock∧some k_≠(.slice aV ae.length aW : Value).ownBlock∧some k_≠(bw : Value).ownBlock∧some k_≠(.slice bJ bT.length bK : Value).ownBlock)) (yR0 aw) hg hat);replace aD:=zm (zc0 (ok:=(fun k_=>some k_≠(.slice (some aH) ax.length bA : Value).ownBlock∧some k_≠(.slice aV ae.length aW : Value).ownBlock∧some k_≠(bw : Value).ownBlock∧some k_≠(.slice bJ bT.length bK : Value).ownBlock)) (yR0 aD) hg hat);replace bx:=zm (zc1 (ok:=(fun k_=>some k_≠(.slice (some aH) ax.length bA : Value).ownBlock∧some k_≠(.slice aV ae.length aW : Value).ownBlock∧some k_≠(aM : Value).ownBlock∧some k_≠(bw : Value).ownBlock∧some k_≠(.slice bJ bT.length bK : Value).ownBlock∧k_≠aq∧k_≠aj∧k_≠al∧k_≠bR)) (yV0 bx) hg hat);replace bk:=zm (zc3 (yk bk) hg (Kd.S_ne au.out bk.out (by decide)));replace bz:=zm (zc0 (ok:=(fun k_=>some k_≠(.slice (some aH) ax.length bA : Value).ownBlock∧some k_≠(.slice aV ae.length aW : Value).ownBlock∧some k_≠(bw : Value).ownBlock∧some k_≠(.slice bJ bT.length bK : Value).ownBlock)) (yR0 bz) hg hat);replace HB:=zm (hb);have fE:=zm (ho);clear au;clear cL;clear ho hb hg hat))
          go_roundg k4
          case measure=>exact yom4 ct HK2 HK3 HK4
          case rel=>exact ⟨(fw),(wrap64 (am+1)),(cB),(cC),(ci),(cD),(.slice cm ci.length cn),yq,H',⟨yom4 ct HK2 HK3 HK4⟩,⟨yS0 ak⟩,⟨yS0 fE⟩,⟨yV0 bx⟩,⟨yS0 aa⟩,⟨yR0 ai⟩,⟨yk af⟩,⟨yk ag⟩,⟨yk ah⟩,⟨yhb⟩⟩
         obtain ⟨fF,H⟩:=yif H
         have LMc112:=zm fF;clear fF
         obtain ⟨fG,dq⟩ : ∃ y_ : List (List Int),y_=(bv ++ [b8]):=⟨_,rfl⟩
         replace H : (cpack_Read.l2 k4 ax ao fG a1 ao (wrap64 (am+1)) aZ a7 aJ a8 (bd == 1) ae aI)=some (r1,r2,r3,r4):=yrw dq H
         have fH:=zm dq;clear dq
         have H' := zm H
         clear H
         go_wp2_with (first|((with_reducible refine zK (f:=32) rfl ?_);refine ygl 106 Try.func32 #[.int .i64 am] ?_;(with_reducible refine (band_Width.calls am bS _ A73.out).mono ?_);rintro e ib ⟨rfl,hb⟩;refine ⟨_,rfl, ?_⟩;replace ak:=ySb ak hb;replace au:=ySb au hb;replace ac:=yVb ac hb;replace aa:=ySb aa hb;replace ai:=yRb ai hb;replace af:=ybb af hb;replace ag:=ybb ag hb;replace ah:=ybb ah hb;replace HB:=ybs hb;(try clear hb))|((with_reducible refine zL (N:=107) rfl ?_);refine Kd.R_make (Kd.int .i64) _ 3 rfl (N:=107) rfl 49 _ _ rfl bS rfl rfl Try.underlying49 (.int .i64 0) 8 info3 rfl (by decide) (by omega) 0 (ok:=fun _=>True) (okp:=fun _=>True) rfl (fun _ hk=>hk) trivial (yt) (Nat.le_trans (Nat.mul_le_mul_right _ (yt : bS.toNat≤35184372088832)) (by omega)) (zY _ _) (zX _) ?_;intro bw ic bL hb hg_ hnew_;clear hg_ hnew_;(first|rw [← cE.out] at bL|(simp only [Int.reduceToNat] at bL;rw [← cE.out] at bL));replace ak:=zm (za8 (yr ak) (zW bL) hb);replace au:=zm (za8 (yr au) (zW bL) hb);replace ac:=zm (za7 (yr ac) (zW bL) hb);replace aa:=zm (za8 (yr aa) (zW bL) hb);replace ai:=zm (za6 (yr ai) (zW bL) hb);have aQ:=zm (za0 bL (zE yhb));replace af:=ybb af hb;replace ag:=ybb ag hb;replace ah:=ybb ah hb;replace HB:=ybs hb;clear hb bL;obtain ⟨gM,b9,fI⟩:=zV ak.out;subst fI;obtain ⟨aH,eH,dl,eI,eg,eh,bc,aw,gi,gj⟩:=ysl ak.out ao;cases eI;obtain ⟨eu,eJ,ei,gl,gm⟩:=yai bc am;cases eJ;obtain ⟨ca,cb,fJ⟩:=zT aQ.out;subst fJ)|((with_reducible refine zb9 (b:=.append) (xs := #[.tmp 151, .tmp 153]) rfl ?_);at_builtin;refine Kd.S_append (Kd.slice 3 (Kd.int .i64)) (w0:=w) w.heap.size rfl (.tmp 151) (.tmp 153) 22 49 (.slice none 0 0) 24 rfl Try.underlying22 info49 rfl (by decide) (by omega) u21 bv b8 [.slice ca b8.length cb] (fun k_=>some k_≠(.slice (some aH) ax.length b9 : Value).ownBlock∧some k_≠(.slice aV ae.length aW : Value).ownBlock) (fun k_=>some k_=(.slice ca b8.length cb : Value).ownBlock) rfl rfl ?aP (fun k_ hk_=>((zG (ok' := fun k_=>((fun k_=>some k_≠(.slice (some aH) ax.length b9 : Value).ownBlock∧some k_≠(.slice aV ae.length aW : Value).ownBlock)) k_∧some k_≠(u21 : Value).ownBlock) (zZ (zZ (zZ (aQ.out) (Kd.S_typed ak.out) (by decide)) (Kd.S_typed aa.out) (by decide)) (Kd.S_typed au.out) (by decide)) (fun k_ hk=>⟨⟨hk.1.1.2,hk.1.2⟩,hk.2⟩))).1 k_ hk_.symm) ?aF ?aO ?aB ?aS ?aL ?_;(case aP=>exact Kd.M_row (zG (Kd.R_tight rfl (zG (ok' := fun k_=>((fun k_=>some k_≠(.slice (some aH) ax.length b9 : Value).ownBlock∧some k_≠(.slice aV ae.length aW : Value).ownBlock)) k_∧some k_≠(u21 : Value).ownBlock) (zZ (zZ (zZ (aQ.out) (Kd.S_typed ak.out) (by decide)) (Kd.S_typed aa.out) (by decide)) (Kd.S_typed au.out) (by decide)) (fun k_ hk=>⟨⟨hk.1.1.2,hk.1.2⟩,hk.2⟩))) (fun _ h_=>h_)));(case aB=>exact yhb);(case aF=>exact (fun k_ hk=>⟨zc2 (Kd.S_lt (yr ak)) k_ hk,zc2 (Kd.S_lt (yr aa)) k_ hk⟩));(case aO=>exact (yS0 au));(case aS=>exact (zE yhb));(case aL=>have:=LMc112.out;omega);intro ie ig ho hb hg hat;rw [← fH.out] at ho;replace ak:=zm (Kd.S_after (ok:=(fun k_=>some k_≠(.slice aV ae.length aW : Value).ownBlock∧some k_≠(.slice ca b8.length cb : Value).ownBlock)) (yS0 ak) hg hat);replace ac:=zm (zc1 (ok:=(fun k_=>some k_≠(.slice (some aH) ax.length b9 : Value).ownBlock∧some k_≠(.slice aV ae.length aW : Value).ownBlock∧some k_≠(aM : Value).ownBlock∧some k_≠(.slice ca b8.length cb : Value).ownBlock∧k_≠aq∧k_≠aj∧k_≠al)) (yV0 ac) hg hat);replace aa:=zm (Kd.S_after (ok:=(fun k_=>some k_≠(.slice (some aH) ax.length b9 : Value).ownBlock∧some k_≠(.slice ca b8.length cb : Value).ownBlock)) (yS0 aa) hg hat);replace ai:=zm (zc0 (ok:=(fun k_=>some k_≠(.slice (some aH) ax.length b9 : Value).ownBlock∧some k_≠(.slice aV ae.length aW : Value).ownBlock∧some k_≠(.slice ca b8.length cb : Value).ownBlock)) (yR0 ai) hg hat);replace af:=zm (zc3 (yk af) hg (Kd.S_ne au.out af.out (by decide)));replace ag:=zm (zc3 (yk ag) hg (Kd.S_ne au.out ag.out (by decide)));replace ah:=zm (zc3 (yk ah) hg (Kd.S_ne au.out ah.out (by decide)));replace aw:=zm (zc0 (ok:=(fun k_=>some k_≠(.slice (some aH) ax.length b9 : Value).ownBlock∧some k_≠(.slice aV ae.length aW : Value).ownBlock∧some k_≠(.slice ca b8.length cb : Value).ownBlock)) (yR0 aw) hg hat);replace HB:=zm (hb);have fK:=zm (ho);clear au;clear aQ;clear ho hb hg hat))
         go_roundg k4
         case measure=>exact yom4 ct HK2 HK3 HK4
         case rel=>exact ⟨(fG),(wrap64 (am+1)),(aZ),(a7),(aJ),(a8),(a9),yq,H',⟨yom4 ct HK2 HK3 HK4⟩,⟨yS0 ak⟩,⟨yr fK⟩,⟨yV0 ac⟩,⟨yS0 aa⟩,⟨yR0 ai⟩,⟨yk af⟩,⟨yk ag⟩,⟨yk ah⟩,⟨yhb⟩⟩
        obtain ⟨fL,H⟩:=yif H
        have LMc119:=zm fL;clear fL
        obtain ⟨eN,dr⟩ : ∃ y_ : List (List (List Int)),y_=(aI ++ [bv]):=⟨_,rfl⟩
        replace H : (cpack_Read.l1 k4 ax a1 (wrap64 (ao+1)) aZ a7 aJ a8 (bd == 1) ae eN)=some (r1,r2,r3,r4):=yrw dr H
        have fM:=zm dr;clear dr
        have H' := zm H
        clear H
        have:=bj.out
        have:=bi.out
        have:=aU.out
        have:=aT.out
        obtain ⟨_,_,_,_,_,_⟩:=yc3 ah
        obtain ⟨ew,ey,fN⟩:=zV au.out
        subst fN
        go_wp2_with (first|((with_reducible refine zb9 (b:=.append) (xs := #[.tmp 157, .tmp 159]) rfl ?_);at_builtin;refine Kd.R_append (Kd.slice 49 (Kd.slice 3 (Kd.int .i64))) (w0:=w) w.heap.size rfl (.tmp 157) (.tmp 159) 23 22 (.slice none 0 0) 24 rfl Try.underlying23 info22 rfl (by decide) (by omega) aM aI bv [.slice ew bv.length ey] (fun k_=>some k_≠(bY : Value).ownBlock∧some k_≠(.slice aV ae.length aW : Value).ownBlock) (fun k_=>((fun k_=>some k_≠(bY : Value).ownBlock∧some k_≠(.slice aV ae.length aW : Value).ownBlock)) k_∧some k_≠(aM : Value).ownBlock) rfl rfl ?aP (fun _ hk=>hk) ?aF ?aO ?aB ?aS ?aL ?_;(case aP=>exact Kd.M_row (zG (zZ ((Kd.S_R au.out)) (Kd.R_typed ai.out) (by decide)) (fun k_ hk=>⟨⟨hk.1.1,hk.1.2⟩,hk.2⟩)));(case aB=>exact yhb);(case aF=>exact (fun k_ hk=>⟨zc2 (Kd.S_lt (yr ak)) k_ hk,zc2 (Kd.S_lt (yr aa)) k_ hk⟩));(case aO=>exact (yR0 ai));(case aS=>exact (zE yhb));(case aL=>have:=LMc119.out;omega);intro ii ij ho hb hg hat;rw [← fM.out] at ho;replace ak:=zm (Kd.S_over' (yr ak) (Kd.R_typed (yr ai)) (by decide) hg);replace ac:=zm (zc1 (ok:=(fun k_=>some k_≠(bY : Value).ownBlock∧some k_≠(.slice ew bv.length ey : Value).ownBlock∧some k_≠(.slice aV ae.length aW : Value).ownBlock∧k_≠aq∧k_≠aj∧k_≠al)) (yV0 ac) hg hat);replace aa:=zm (Kd.S_over' (yr aa) (Kd.R_typed (yr ai)) (by decide) hg);replace af:=zm (zc3 (yk af) hg (zu ai.out af.out (by decide)));replace ag:=zm (zc3 (yk ag) hg (zu ai.out ag.out (by decide)));replace ah:=zm (zc3 (yk ah) hg (zu ai.out ah.out (by decide)));replace HB:=zm (hb);have ez:=zm (ho);clear ai;clear au;clear ho hb hg hat;obtain ⟨fO,fP,fQ⟩:=zT ez.out;subst fQ;obtain ⟨_,_,_,_,_,_⟩:=yc3 ah))
        go_roundg k4
        case measure=>exact yom4 ct HK2 HK3 HK4
        case rel=>exact ⟨(wrap64 (ao+1)),(aZ),(a7),(aJ),(a8),(eN),(a9),(.slice fO eN.length fP),yq,H',⟨yom4 ct HK2 HK3 HK4⟩,⟨yS1 ak ah⟩,⟨yV0 ac⟩,⟨yS1 aa ah⟩,⟨yR1 ez ah⟩,⟨yk af⟩,⟨yk ag⟩,⟨ykp ah⟩,⟨yhb⟩⟩
      simp only [zM,zN] at H
      obtain ⟨rfl,rfl,rfl,rfl⟩:=H
      have:=bj.out
      have:=bi.out
      have:=aU.out
      have:=aT.out
      obtain ⟨_,_,_,_,_,_⟩:=yc3 ah
      have:=bg.out
      have:=bh.out
      obtain ⟨_,_,_,_,_,_⟩:=yc3 af
      obtain ⟨fR,fS,fT⟩:=zT ai.out
      subst fT
      go_wp2
      refine za1 (results_ct rfl _ _ aq 25 #[.bool (bd == 1), .slice aV ae.length aW, .slice fR aI.length fS] (0,0) _ rfl (ykp af) Try.underlying25 rfl (by kernel_rfl)) rfl ?_
      exact ⟨_,_,ye,yS1 aa af,yR1 ai af,yhb⟩
  rw [za5 c7] at H
  obtain ⟨eR,eS⟩:=yF c7
  simp only [zM,zN] at H
  obtain ⟨rfl,rfl,rfl,rfl⟩:=H
  go_enter Try.func20,Try.ntmps20
  go_wp2_with (first|((with_reducible refine zL (N:=8) rfl ?_);refine ybx 8 #[.bool false, .slice none 0 0, .slice none 0 0] 25 ?_;intro aq hg eO hbox hb;have af:=zm (hbox);have ep:=ygw hg;have eq:=ygw hg;replace HB:=ybs hb;clear hb hbox hg)|((with_reducible refine zK (f:=48) rfl ?_);refine ygl 31 Try.func48 #[.int .i64 a0, .int .i64 a1] ?_;(with_reducible refine (alloc_Right.calls a0 a1 true _ A5.out).mono ?_);rintro e w' ⟨rfl,⟨nd,rfl⟩⟩;refine ⟨_,rfl, ?_⟩;(try (rw [drewN_self eO];generalize hq_ : World.drewN eO _=eO;replace af:=ykq hq_ af;replace HB:=ysq hq_;clear hq_));obtain ⟨_,_,_,_,_,_⟩:=yc3 af))
  refine za1 (results_ct rfl _ _ aq 25 #[.bool false, .slice none 0 0, .slice none 0 0] (0,0) _ rfl (ykp af) Try.underlying25 rfl (by kernel_rfl)) rfl ?_
  exact ⟨_,_,ye,yn,yn,yhb⟩
 replace c6:=za3.mpr c6
 subst c6
 rw [ynf] at H
 simp only [zM,zN] at H
 obtain ⟨rfl,rfl,rfl,rfl⟩:=H
 go_enter Try.func20,Try.ntmps20
 go_wp2_with (first|((with_reducible refine zL (N:=8) rfl ?_);refine ybx 8 #[.bool false, .slice none 0 0, .slice none 0 0] 25 ?_;intro aq hg eP hbox hb;have af:=zm (hbox);have ep:=ygw hg;have eq:=ygw hg;replace HB:=ybs hb;clear hb hbox hg)|((with_reducible refine zK (f:=48) rfl ?_);refine ygl 31 Try.func48 #[.int .i64 a0, .int .i64 a1] ?_;(with_reducible refine (alloc_Right.calls a0 a1 false _ A5.out).mono ?_);rintro e w' ⟨rfl,⟨nd,rfl⟩⟩;refine ⟨_,rfl, ?_⟩;(try (rw [drewN_self eP];generalize hq_ : World.drewN eP _=eP;replace af:=ykq hq_ af;replace HB:=ysq hq_;clear hq_));obtain ⟨_,_,_,_,_,_⟩:=yc3 af))
 refine za1 (results_ct rfl _ _ aq 25 #[.bool false, .slice none 0 0, .slice none 0 0] (0,0) _ rfl (ykp af) Try.underlying25 rfl (by kernel_rfl)) rfl ?_
 exact ⟨_,_,ye,yn,yn,yhb⟩
def comb_size.f (a0 : Int) : Option (Int):=if a0 < (-12) then (some 13) else (if a0 > 12 then (some 13) else (some (mx a0 (wrap64 (-a0)))))
theorem comb_size.calls (a0 : Int) (r : Int) (w : World) (h : comb_size.f a0=some r) :
  Calls Try.prog 75 #[.int .i64 a0] w fun e w' => e=.returned (.int .i64 r)∧Below w.heap.size w w' := by
 have HB:=zm (zY w.heap.size w);have H:=h
 unfold comb_size.f at H
 clear h
 replace H:=yId H
 obtain ⟨ac,H⟩ | ⟨ac,H⟩:=H
 ·
  obtain rfl:=zO H
  go_enter Try.func75,Try.ntmps75
  go_wp2
  go_ret
  exact ⟨ye,yhb⟩
 by_cases c3 : a0 > 12
 ·
  rw [za4 c3] at H
  have ae:=yDs c3
  clear c3
  obtain rfl:=zO H
  go_enter Try.func75,Try.ntmps75
  go_wp2
  go_ret
  exact ⟨ye,yhb⟩
 rw [za5 c3] at H
 have ae:=yGs c3
 clear c3
 obtain ⟨ji4,aa⟩ : ∃ j_ : Int,(mx a0 (wrap64 (-a0)))=j_:=⟨_,rfl⟩
 (first|rw [aa] at H|simp only [aa] at H)
 have af : (if a0 < (wrap64 (-a0)) then (wrap64 (-a0)) else a0)=ji4:=aa
 obtain rfl:=zO H
 go_enter Try.func75,Try.ntmps75
 go_wp2
 go_ret
 exact ⟨by first|rfl|(simp [errW_none,errW_some] <;> rfl)|(simp only [← aa];first|rfl|(simp [errW_none,errW_some] <;> rfl))|(simp [*,errW_none,errW_some] <;> rfl),yhb⟩
mutual
def comb_Index.j0 : Nat→List Int→Bool→Option (Int × Int)
 | 0,_,_=>none
 | k+1,x0,x21=>if x21=true then (some (0,1)) else (comb_Index.l0 k x0 0 x0 (x0.length : Int) 0)
def comb_Index.l0 : Nat→List Int→Int→List Int→Int→Int→Option (Int × Int)
 | 0,_,_,_,_,_=>none
 | k+1,x0,x4,x22,x23,x24=>if x24 < x23 then (if 0≤x24 then (if x24 < (x22.length : Int) then ((comb_size.f (rd x22 x24)).bind fun aw=>(comb_Index.l0 k x0 (wrap64 (x4+aw)) x22 x23 (wrap64 (x24+1)))) else (none)) else (none)) else (if x4 > 12 then (some (0,1)) else (comb_Index.l1 k x0 x4 0 x0 (x0.length : Int) 0))
def comb_Index.l1 : Nat→List Int→Int→Int→List Int→Int→Int→Option (Int × Int)
 | 0,_,_,_,_,_,_=>none
 | k+1,x0,x4,x8,x36,x37,x38=>if x38 < x37 then (if 0≤x38 then (if x38 < (x36.length : Int) then ((comb_size.f (rd x36 x38)).bind fun af=>(if af > 0 then ((comb_table.f (wrap64 ((wrap64 ((x0.length : Int) - x38)) - 1)) x4).bind fun az=>(comb_Index.j3 k x0 x4 (IntKind.u64.wrap (x8+az)) (rd x36 x38) (wrap64 ((wrap64 ((x0.length : Int) - x38)) - 1)) af x36 x37 x38)) else (comb_Index.j3 k x0 x4 x8 (rd x36 x38) (wrap64 ((wrap64 ((x0.length : Int) - x38)) - 1)) af x36 x37 x38))) else (none)) else (none)) else (some (x8,0))
def comb_Index.j3 : Nat→List Int→Int→Int→Int→Int→Int→List Int→Int→Int→Option (Int × Int)
 | 0,_,_,_,_,_,_,_,_,_=>none
 | k+1,x0,x4,x8,x10,x11,x12,x36,x37,x38=>comb_Index.l2 k x0 x4 x8 x10 x11 x12 1 x36 x37 x38
def comb_Index.l2 : Nat→List Int→Int→Int→Int→Int→Int→Int→List Int→Int→Int→Option (Int × Int)
 | 0,_,_,_,_,_,_,_,_,_,_=>none
 | k+1,x0,x4,x8,x10,x11,x12,x13,x36,x37,x38=>if x13 < x12 then ((comb_table.f x11 (wrap64 (x4 - x13))).bind fun aA=>(comb_Index.l2 k x0 x4 (IntKind.u64.wrap (x8+(IntKind.u64.wrap (2 * aA)))) x10 x11 x12 (wrap64 (x13+1)) x36 x37 x38)) else (if x10 < 0 then ((comb_table.f x11 (wrap64 (x4 - x12))).bind fun aC=>(comb_Index.l1 k x0 (wrap64 (x4 - x12)) (IntKind.u64.wrap (x8+aC)) x36 x37 (wrap64 (x38+1)))) else (comb_Index.l1 k x0 (wrap64 (x4 - x12)) x8 x36 x37 (wrap64 (x38+1))))
end
def comb_Index.f (k : Nat) (l0 : List Int) : Option (Int × Int):=if (l0.length : Int) < 1 then (comb_Index.j0 k l0 true) else (comb_Index.j0 k l0 (decide ((l0.length : Int) > 16)))
theorem comb_Index.mono_l : ∀ k,(∀ y0 y1,LeO (comb_Index.j0 k y0 y1) (comb_Index.j0 (k+1) y0 y1))∧(∀ y0 y1 y2 y3 y4,LeO (comb_Index.l0 k y0 y1 y2 y3 y4) (comb_Index.l0 (k+1) y0 y1 y2 y3 y4))∧(∀ y0 y1 y2 y3 y4 y5,LeO (comb_Index.l1 k y0 y1 y2 y3 y4 y5) (comb_Index.l1 (k+1) y0 y1 y2 y3 y4 y5))∧(∀ y0 y1 y2 y3 y4 y5 y6 y7 y8,LeO (comb_Index.j3 k y0 y1 y2 y3 y4 y5 y6 y7 y8) (comb_Index.j3 (k+1) y0 y1 y2 y3 y4 y5 y6 y7 y8))∧(∀ y0 y1 y2 y3 y4 y5 y6 y7 y8 y9,LeO (comb_Index.l2 k y0 y1 y2 y3 y4 y5 y6 y7 y8 y9) (comb_Index.l2 (k+1) y0 y1 y2 y3 y4 y5 y6 y7 y8 y9))
 | 0=>⟨fun _ _ r h=>by simp [comb_Index.j0] at h,fun _ _ _ _ _ r h=>by simp [comb_Index.l0] at h,fun _ _ _ _ _ _ r h=>by simp [comb_Index.l1] at h,fun _ _ _ _ _ _ _ _ _ r h=>by simp [comb_Index.j3] at h,fun _ _ _ _ _ _ _ _ _ _ r h=>by simp [comb_Index.l2] at h⟩
 | k+1=>by
  obtain ⟨ih0,ih1,ih2,ih3,ih4⟩:=comb_Index.mono_l k
  refine ⟨?_, ?_, ?_, ?_, ?_⟩
  ·
   intro y0 y1
   unfold comb_Index.j0
   exact yLm
  ·
   intro y0 y1 y2 y3 y4
   unfold comb_Index.l0
   exact yLm
  ·
   intro y0 y1 y2 y3 y4 y5
   unfold comb_Index.l1
   exact yLm
  ·
   intro y0 y1 y2 y3 y4 y5 y6 y7 y8
   unfold comb_Index.j3
   exact yLm
  intro y0 y1 y2 y3 y4 y5 y6 y7 y8 y9
  unfold comb_Index.l2
  exact yLm
theorem comb_Index.mono : ∀ a0 k,LeO (comb_Index.f k a0) (comb_Index.f (k+1) a0):=by
 intro a0 k
 obtain ⟨ih0,ih1,ih2,ih3,ih4⟩:=comb_Index.mono_l k
 unfold comb_Index.f
 exact yLm
theorem comb_Index.calls (k : Nat) (A0 : Option Addr) (c0 : Nat) (l0 : List Int) (r1 : Int) (r2 : Int) (w : World) (hr0 : Kd.C (Kd.int .i64) w A0 l0.length l0) (hc0 : l0.length≤c0) (h : comb_Index.f k l0=some (r1,r2)) :
  Calls Try.prog 33 #[.slice A0 l0.length c0] w fun e w' => e=.returned (.tuple #[.int .u64 r1, .int .i64 r2])∧Below w.heap.size w w' := by
 have HR0:=zm hr0;have HC0:=zm hc0;clear hr0 hc0;have HB:=zm (zY w.heap.size w);have H:=h
 unfold comb_Index.f at H
 clear h;have HC2:=zm H;clear H
 go_enter Try.func33,Try.ntmps33
 go_upto_region 1 with (fail)
 go_cut [21] (fun v21 wc => ∃ (kq : Nat) (ak : Bool),v21=.bool ak∧Aside0 (comb_Index.j0 kq l0 ak=some (r1,r2))∧Aside0 (kq≤k)∧Aside0 (Below w.heap.size w wc))
 case first =>
  have H:=HC2.out;clear HC2
  by_cases c3 : (l0.length : Int) < 1
  ·
   rw [za4 c3] at H
   have aq:=yD c3
   have aM : decide (l0.length < 1)=true:=decide_eq_true (by omega)
   clear c3
   (first|rw [aq]|(simp only [i64_w,i32_w];rw [aq])|skip)
   have H' := zm H
   clear H
   go_wp2
   go_meet
   case rel=>exact ⟨_,(true),yq,H',⟨yo⟩,⟨yhb⟩⟩
  rw [za5 c3] at H
  have aq:=yG c3
  have aM : decide (l0.length < 1)=false:=decide_eq_false (by omega)
  clear c3
  (first|rw [aq]|(simp only [i64_w,i32_w];rw [aq])|skip)
  have H' := zm H
  clear H
  go_wp2
  go_meet
  case rel=>exact ⟨_,(decide ((l0.length : Int) > 16)),yq,H',⟨yo⟩,⟨yhb⟩⟩
 case rest =>
  clear HC2
  obtain ⟨kq,ak,rfl,HA,HJ1,HB⟩:=hcut
  obtain ⟨kj1,rfl⟩:=ysu kq (fun h=>by subst h;exact absurd HA.out (by simp [comb_Index.j0]))
  have H:=HA.out;clear HA
  simp only [comb_Index.j0] at H
  by_cases c4 : ak=true
  ·
   subst c4
   rw [za4 rfl] at H
   simp only [zM,zN] at H
   obtain ⟨rfl,rfl⟩:=H
   go_wp2
   go_ret2
   exact ⟨ye,yhb⟩
  replace c4:=za3.mpr c4
  subst c4
  rw [ynf] at H
  have H' := zm H
  clear H
  go_wp2
  go_loopg [4,24] kj1 (fun kq v4 v24 w' => ∃ (ai : Int) (ac : Int),v4=.int .i64 ai∧v24=.int .i64 ac∧Aside0 (comb_Index.l0 kq l0 ai l0 (l0.length : Int) ac=some (r1,r2))∧Aside0 (kq≤kj1)∧Aside0 (Below w.heap.size w w'))
  case atStart=>exact ⟨(0),(0),yq,yq,H',⟨zX _⟩,⟨yhb⟩⟩
  case round =>
   clear H'
   obtain ⟨ai,ac,rfl,rfl,HA,HK2,HB⟩:=hrel
   obtain ⟨k2,rfl⟩:=ysu gk (fun h=>by subst h;exact absurd HA.out (by simp [comb_Index.l0]))
   have H:=HA.out;clear HA
   simp only [comb_Index.l0] at H
   replace H:=yId H
   obtain ⟨aE,H⟩ | ⟨aE,H⟩:=H
   ·
    obtain ⟨c6,H⟩:=yif H
    have aN : decide (0≤ac)=true:=decide_eq_true c6
    clear c6
    obtain ⟨c7,H⟩:=yif H
    have aQ : decide (ac < (l0.length : Int))=true:=decide_eq_true c7
    clear c7
    obtain ⟨aw,A8,H⟩:=ybi H
    have H' := zm H
    clear H
    obtain ⟨⟨aZ,aT,ag⟩,aU,aV⟩:=yat (zb7 HR0.out ac)
    cases aT
    replace ag:=yhx HB ag
    go_wp2_with (first|((with_reducible refine zK (f:=75) rfl ?_);refine ygl 30 Try.func75 #[.int .i64 (rd l0 ac)] ?_;(with_reducible refine (comb_size.calls (rd l0 ac) aw _ A8.out).mono ?_);rintro e w9 ⟨rfl,hb⟩;refine ⟨_,rfl, ?_⟩;replace HB:=ybs hb;(try clear hb)))
    go_roundg k2
    case measure=>exact yom2 HJ1 HK2
    case rel=>exact ⟨(wrap64 (ai+aw)),(wrap64 (ac+1)),yq,yq,H',⟨yom2 HJ1 HK2⟩,⟨yhb⟩⟩
   by_cases c10 : ai > 12
   ·
    rw [za4 c10] at H
    have ax:=yDs c10
    clear c10
    simp only [zM,zN] at H
    obtain ⟨rfl,rfl⟩:=H
    go_wp2
    go_ret2
    exact ⟨ye,yhb⟩
   rw [za5 c10] at H
   have ax:=yGs c10
   clear c10
   obtain ⟨a9,au⟩ : ∃ y_ : List Int,y_=(([0] : List Int)):=⟨_,rfl⟩
   replace H : (comb_Index.l1 k2 l0 ai 0 l0 (l0.length : Int) 0)=some (r1,r2):=yrw au H
   have a7:=zm au;clear au
   have H' := zm H
   clear H
   obtain ⟨Z,hz,HZs⟩:=comb_table.zsize
   go_wp2_with (first|((with_reducible refine zK (f:=72) rfl ?_);refine goesL_ (some 35) rfl rfl Try.func72 (by kernel_rfl) rfl #[] rfl (by first|rfl|simp) ?_;(with_reducible refine (comb_table.made _).mono ?_);rintro e w5 ⟨rfl,hb5⟩;refine ⟨_,rfl, ?_⟩;have hst:=run_storeCells_new (P:=Try.prog) w5 118 Z (ABl (comb_table.T 16)) comb_table.size16 HZs.out (ABl_one _);have n1_:=zm (ze (zJ yhb hb5) (.cells (ABl (comb_table.T 16)) 118));clear HB;have HB:=n1_;clear n1_;have hbn:=zm (blk_new w5 (.cells (ABl (comb_table.T 16)) 118))))
   have hb0:=HB.out
   obtain ⟨W0,hW0⟩ : ∃ W0,W0=w5.alloc (.cells (ABl (comb_table.T 16)) 118):=⟨_,rfl⟩
   rw [← hW0] at hb0 hbn
   rw [← hW0]
   clear hW0 HB hst hz HZs
   generalize w5.heap.size=B at hbn ⊢
   replace HR0:=zm (Kd.C_below HR0.out hb0)
   have HB:=zm (zY W0.heap.size W0)
   go_loopg [4,8,38] k2 (fun kq v4 v8 v38 w' => ∃ (aj : Int) (av : Int) (aa : Int),v4=.int .i64 aj∧v8=.int .u64 av∧v38=.int .i64 aa∧Aside0 (comb_Index.l1 kq l0 aj av l0 (l0.length : Int) aa=some (r1,r2))∧Aside0 (kq≤k2)∧Aside0 (Below W0.heap.size W0 w'))
   case atStart=>exact ⟨(ai),(0),(0),yq,yq,yq,H',⟨zX _⟩,⟨yhb⟩⟩
   case round =>
    clear H'
    try clear aE
    try clear aN
    try clear aQ
    try clear ax
    try clear ag
    try clear aU
    try clear aV
    obtain ⟨aj,av,aa,rfl,rfl,rfl,HA,HK3,HB⟩:=hrel
    obtain ⟨k3,rfl⟩:=ysu gk (fun h=>by subst h;exact absurd HA.out (by simp [comb_Index.l1]))
    have H:=HA.out;clear HA
    simp only [comb_Index.l1] at H
    replace H:=yId H
    obtain ⟨ay,H⟩ | ⟨ay,H⟩:=H
    ·
     obtain ⟨c14,H⟩:=yif H
     have aG : decide (0≤aa)=true:=decide_eq_true c14
     clear c14
     obtain ⟨c15,H⟩:=yif H
     have aH : decide (aa < (l0.length : Int))=true:=decide_eq_true c15
     clear c15
     obtain ⟨af,A16,H⟩:=ybi H
     have aD:=zm H;clear H
     obtain ⟨⟨a8,aW,ae⟩,aX,aY⟩:=yat (zb7 HR0.out aa)
     cases aW
     replace ae:=(HB.out.cell (zb W0 _ ae)).trans ae
     go_upto_if 51 with (first|((with_reducible refine zK (f:=75) rfl ?_);refine ygl 49 Try.func75 #[.int .i64 (rd l0 aa)] ?_;(with_reducible refine (comb_size.calls (rd l0 aa) af _ A16.out).mono ?_);rintro e w18 ⟨rfl,hb⟩;refine ⟨_,rfl, ?_⟩;replace HB:=ybs hb;(try clear hb)))
     (try simp only [Act.put,za9,zb0,zb1])
     go_cut [8] (fun v8 wc => ∃ (kq : Nat) (al : Int),v8=.int .u64 al∧Aside0 (comb_Index.j3 kq l0 aj al (rd l0 aa) (wrap64 ((wrap64 ((l0.length : Int) - aa)) - 1)) af l0 (l0.length : Int) aa=some (r1,r2))∧Aside0 (kq≤k3)∧Aside0 (Below W0.heap.size W0 wc))
     case first =>
      have H:=aD.out;clear aD
      replace H:=yIs H
      obtain ⟨ah,H⟩ | ⟨ah,H⟩:=H
      ·
       (first|rw [ah]|(simp only [i64_w,i32_w];rw [ah])|skip)
       obtain ⟨az,A20,H⟩:=ybi H
       have H' := zm H
       clear H
       obtain ⟨ia0,ib0,ic0,id0⟩:=comb_table.inn A20.out
       have hcl0:=(HB.out.cell (zb W0 _ (comb_table.look hbn.out A20.out))).trans (comb_table.look hbn.out A20.out)
       go_wp2
       go_meet
       case rel=>exact ⟨_,(IntKind.u64.wrap (av+az)),yq,H',⟨yom3 HJ1 HK2 HK3⟩,⟨yhb⟩⟩
      (first|rw [ah]|(simp only [i64_w,i32_w];rw [ah])|skip)
      have H' := zm H
      clear H
      go_wp2
      go_meet
      case rel=>exact ⟨_,(av),yq,H',⟨yom3 HJ1 HK2 HK3⟩,⟨yhb⟩⟩
     case rest =>
      clear aD
      try clear ay
      try clear aG
      try clear aH
      try clear ae
      try clear aX
      try clear aY
      obtain ⟨kq,al,rfl,HA,ao,HB⟩:=hcut
      obtain ⟨aI,rfl⟩:=ysu kq (fun h=>by subst h;exact absurd HA.out (by simp [comb_Index.j3]))
      have H:=HA.out;clear HA
      simp only [comb_Index.j3] at H
      have H' := zm H
      clear H
      go_wp2
      go_loopg [8,13] aI (fun kq v8 v13 w' => ∃ (ap : Int) (am : Int),v8=.int .u64 ap∧v13=.int .i64 am∧Aside0 (comb_Index.l2 kq l0 aj ap (rd l0 aa) (wrap64 ((wrap64 ((l0.length : Int) - aa)) - 1)) af am l0 (l0.length : Int) aa=some (r1,r2))∧Aside0 (kq≤aI)∧Aside0 (Below W0.heap.size W0 w'))
      case atStart=>exact ⟨(al),(1),yq,yq,H',⟨zX _⟩,⟨yhb⟩⟩
      case round =>
       clear H'
       obtain ⟨ap,am,rfl,rfl,HA,HK5,HB⟩:=hrel
       obtain ⟨k5,rfl⟩:=ysu gk (fun h=>by subst h;exact absurd HA.out (by simp [comb_Index.l2]))
       have H:=HA.out;clear HA
       simp only [comb_Index.l2] at H
       replace H:=yId H
       obtain ⟨aJ,H⟩ | ⟨aJ,H⟩:=H
       ·
        obtain ⟨aA,A22,H⟩:=ybi H
        have H' := zm H
        clear H
        obtain ⟨ia1,ib1,ic1,id1⟩:=comb_table.inn A22.out
        have hcl1:=(HB.out.cell (zb W0 _ (comb_table.look hbn.out A22.out))).trans (comb_table.look hbn.out A22.out)
        go_wp2
        go_roundg k5
        case measure=>exact yom5 HJ1 HK2 HK3 ao HK5
        case rel=>exact ⟨(IntKind.u64.wrap (ap+(IntKind.u64.wrap (2 * aA)))),(wrap64 (am+1)),yq,yq,H',⟨yom5 HJ1 HK2 HK3 ao HK5⟩,⟨yhb⟩⟩
       by_cases c23 : (rd l0 aa) < 0
       ·
        rw [za4 c23] at H
        have aK:=yD c23
        clear c23
        obtain ⟨aC,A24,H⟩:=ybi H
        have H' := zm H
        clear H
        obtain ⟨ia2,ib2,ic2,id2⟩:=comb_table.inn A24.out
        have hcl2:=(HB.out.cell (zb W0 _ (comb_table.look hbn.out A24.out))).trans (comb_table.look hbn.out A24.out)
        go_wp2
        go_roundg k5
        case measure=>exact yom5 HJ1 HK2 HK3 ao HK5
        case rel=>exact ⟨(wrap64 (aj - af)),(IntKind.u64.wrap (ap+aC)),(wrap64 (aa+1)),yq,yq,yq,H',⟨yom5 HJ1 HK2 HK3 ao HK5⟩,⟨yhb⟩⟩
       rw [za5 c23] at H
       have aK:=yG c23
       clear c23
       have H' := zm H
       clear H
       go_wp2
       go_roundg k5
       case measure=>exact yom5 HJ1 HK2 HK3 ao HK5
       case rel=>exact ⟨(wrap64 (aj - af)),(ap),(wrap64 (aa+1)),yq,yq,yq,H',⟨yom5 HJ1 HK2 HK3 ao HK5⟩,⟨yhb⟩⟩
    simp only [zM,zN] at H
    obtain ⟨rfl,rfl⟩:=H
    go_wp2
    go_ret2
    exact ⟨ye,zJ hb0 yhb⟩
mutual
def cpack_pulses.j0 : Nat→List Int→Int→Bool→Option (Bool)
 | 0,_,_,_=>none
 | k+1,x0,x2,x23=>if x23=true then (some false) else (cpack_pulses.l0 k x2 x0 (x0.length : Int) 0)
def cpack_pulses.l0 : Nat→Int→List Int→Int→Int→Option (Bool)
 | 0,_,_,_,_=>none
 | k+1,x2,x24,x25,x26=>if x26 < x25 then (if 0≤x26 then (if x26 < (x24.length : Int) then (cpack_pulses.l0 k (wrap64 (x2 - (mx (rd x24 x26) (wrap64 (-(rd x24 x26)))))) x24 x25 (wrap64 (x26+1))) else (none)) else (none)) else (some (x2 == 0))
end
def cpack_pulses.f (k : Nat) (l0 : List Int) (a1 : Int) (a2 : Int) : Option (Bool):=(comb_Index.f k l0).bind fun ai=>(if ai.2=0 then (cpack_pulses.j0 k l0 a2 ((l0.length : Int) != a1)) else (cpack_pulses.j0 k l0 a2 true))
theorem cpack_pulses.mono_l : ∀ k,(∀ y0 y1 y2,LeO (cpack_pulses.j0 k y0 y1 y2) (cpack_pulses.j0 (k+1) y0 y1 y2))∧(∀ y0 y1 y2 y3,LeO (cpack_pulses.l0 k y0 y1 y2 y3) (cpack_pulses.l0 (k+1) y0 y1 y2 y3))
 | 0=>⟨fun _ _ _ r h=>by simp [cpack_pulses.j0] at h,fun _ _ _ _ r h=>by simp [cpack_pulses.l0] at h⟩
 | k+1=>by
  obtain ⟨ih0,ih1⟩:=cpack_pulses.mono_l k
  have i0:=@comb_Index.mono
  refine ⟨?_, ?_⟩
  ·
   intro y0 y1 y2
   unfold cpack_pulses.j0
   exact yLm
  intro y0 y1 y2 y3
  unfold cpack_pulses.l0
  exact yLm
theorem cpack_pulses.mono : ∀ a0 a1 a2 k,LeO (cpack_pulses.f k a0 a1 a2) (cpack_pulses.f (k+1) a0 a1 a2):=by
 intro a0 a1 a2 k
 obtain ⟨ih0,ih1⟩:=cpack_pulses.mono_l k
 have i0:=@comb_Index.mono
 unfold cpack_pulses.f
 exact yLm
theorem cpack_pulses.calls (k : Nat) (A0 : Option Addr) (c0 : Nat) (l0 : List Int) (a1 : Int) (a2 : Int) (r : Bool) (w : World) (hr0 : Kd.C (Kd.int .i64) w A0 l0.length l0) (hc0 : l0.length≤c0) (h : cpack_pulses.f k l0 a1 a2=some r) :
  Calls Try.prog 44 #[.slice A0 l0.length c0, .int .i64 a1, .int .i64 a2] w fun e w' => e=.returned (.bool r)∧Below w.heap.size w w' := by
 have HR0:=zm hr0;have HC0:=zm hc0;clear hr0 hc0;have HB:=zm (zY w.heap.size w);have H:=h
 unfold cpack_pulses.f at H
 clear h
 obtain ⟨⟨am,aj⟩,A4,H⟩:=ybi H
 try dsimp only at H
 have HC5:=zm H;clear H
 go_enter Try.func44,Try.ntmps44
 go_upto_region 2 with (first|((with_reducible refine zK (f:=33) rfl ?_);refine ygl 13 Try.func33 #[.slice A0 l0.length c0] ?_;(with_reducible refine (comb_Index.calls k _ _ l0 am aj _ ?ak HC0.out A4.out).mono ?_);(case ak=>exact yce HR0.out);rintro e w6 ⟨rfl,hb⟩;refine ⟨_,rfl, ?_⟩;replace HB:=ybs hb;(try clear hb)))
 (try simp only [Act.put,za9,zb0,zb1])
 go_cut [23] (fun v23 wc => ∃ (kq : Nat) (ac : Bool),v23=.bool ac∧Aside0 (cpack_pulses.j0 kq l0 a2 ac=some r)∧Aside0 (kq≤k)∧Aside0 (Below w.heap.size w wc))
 case first =>
  have H:=HC5.out;clear HC5
  by_cases c7 : aj=0
  ·
   rw [za4 c7] at H
   obtain ⟨ag,ao⟩:=yE c7
   clear c7
   (first|rw [ag]|(simp only [i64_w,i32_w];rw [ag])|skip)
   have H' := zm H
   clear H
   go_wp2
   go_meet
   case rel=>exact ⟨_,(((l0.length : Int) != a1)),yq,H',⟨yo⟩,⟨yhb⟩⟩
  rw [za5 c7] at H
  obtain ⟨ag,ao⟩:=yF c7
  (first|rw [ag]|(simp only [i64_w,i32_w];rw [ag])|skip)
  have H' := zm H
  clear H
  go_wp2
  go_meet
  case rel=>exact ⟨_,(true),yq,H',⟨yo⟩,⟨yhb⟩⟩
 case rest =>
  clear HC5
  obtain ⟨kq,ac,rfl,HA,HJ4,HB⟩:=hcut
  obtain ⟨kj4,rfl⟩:=ysu kq (fun h=>by subst h;exact absurd HA.out (by simp [cpack_pulses.j0]))
  have H:=HA.out;clear HA
  simp only [cpack_pulses.j0] at H
  by_cases c8 : ac=true
  ·
   subst c8
   rw [za4 rfl] at H
   obtain rfl:=zO H
   go_wp2
   go_ret
   exact ⟨ye,yhb⟩
  replace c8:=za3.mpr c8
  subst c8
  rw [ynf] at H
  have H' := zm H
  clear H
  go_wp2
  go_loopg [2,26] kj4 (fun kq v2 v26 w' => ∃ (ah : Int) (aa : Int),v2=.int .i64 ah∧v26=.int .i64 aa∧Aside0 (cpack_pulses.l0 kq ah l0 (l0.length : Int) aa=some r)∧Aside0 (kq≤kj4)∧Aside0 (Below w.heap.size w w'))
  case atStart=>exact ⟨(a2),(0),yq,yq,H',⟨zX _⟩,⟨yhb⟩⟩
  case round =>
   clear H'
   obtain ⟨ah,aa,rfl,rfl,HA,HK2,HB⟩:=hrel
   obtain ⟨k2,rfl⟩:=ysu gk (fun h=>by subst h;exact absurd HA.out (by simp [cpack_pulses.l0]))
   have H:=HA.out;clear HA
   simp only [cpack_pulses.l0] at H
   replace H:=yId H
   obtain ⟨ap,H⟩ | ⟨ap,H⟩:=H
   ·
    obtain ⟨c10,H⟩:=yif H
    have av : decide (0≤aa)=true:=decide_eq_true c10
    clear c10
    obtain ⟨c11,H⟩:=yif H
    have aw : decide (aa < (l0.length : Int))=true:=decide_eq_true c11
    clear c11
    obtain ⟨al,ae⟩ : ∃ j_ : Int,(mx (rd l0 aa) (wrap64 (-(rd l0 aa))))=j_:=⟨_,rfl⟩
    (first|rw [ae] at H|simp only [ae] at H)
    have aq : (if (rd l0 aa) < (wrap64 (-(rd l0 aa))) then (wrap64 (-(rd l0 aa))) else (rd l0 aa))=al:=ae
    have H' := zm H
    clear H
    obtain ⟨⟨ax,au,af⟩,ay,az⟩:=yat (zb7 HR0.out aa)
    cases au
    replace af:=yhx HB af
    go_wp2
    go_roundg k2
    case measure=>exact yom2 HJ4 HK2
    case rel=>exact ⟨(wrap64 (ah - (al))),(wrap64 (aa+1)),(by first|rfl|(simp;done)|(simp only [← ae] <;> (first|rfl|simp))|(simp [*];done)),yq,H',⟨yom2 HJ4 HK2⟩,⟨yhb⟩⟩
   obtain rfl:=zO H
   go_wp2
   go_ret
   exact ⟨ye,yhb⟩
mutual
def cpack_Right.j0 : Nat→List (List Int)→Bool→Bool→List (List Int)→List (List (List Int))→Option (Bool)
 | 0,_,_,_,_,_=>none
 | k+1,x7,x29,bT,bU,aU=>if x29=true then (some false) else (cpack_Right.l0 k x7 aU (aU.length : Int) 0)
def cpack_Right.l0 : Nat→List (List Int)→List (List (List Int))→Int→Int→Option (Bool)
 | 0,_,_,_,_=>none
 | k+1,x7,x31,x32,x33=>if x33 < x32 then (if 0≤x33 then (if x33 < (x31.length : Int) then (if ((rd_L2 x31 x33).length : Int)=5 then (cpack_Right.l1 k x7 x33 x31 x32 x33 (rd_L2 x31 x33) ((rd_L2 x31 x33).length : Int) 0) else (some false)) else (none)) else (none)) else (some true)
def cpack_Right.l1 : Nat→List (List Int)→Int→List (List (List Int))→Int→Int→List (List Int)→Int→Int→Option (Bool)
 | 0,_,_,_,_,_,_,_,_=>none
 | k+1,x7,x9,x31,x32,x33,x41,x42,x43=>if x43 < x42 then (if 0≤x43 then (if x43 < (x41.length : Int) then ((band_Width.f x43).bind fun aH=>(if 0≤x9 then (if x9 < (x7.length : Int) then (if x43 < ((rd_L1 x7 x9).length : Int) then ((cpack_pulses.f k (rd_L1 x41 x43) aH (rd (rd_L1 x7 x9) x43)).bind fun bp=>(if bp=true then (cpack_Right.l1 k x7 x9 x31 x32 x33 x41 x42 (wrap64 (x43+1))) else (some false))) else (none)) else (none)) else (none))) else (none)) else (none)) else (cpack_Right.l0 k x7 x31 x32 (wrap64 (x33+1)))
end
def cpack_Right.f (k : Nat) (a0 : Int) (a1 : Int) (ay : Bool) (al : List (List Int)) (ah : List (List (List Int))) : Option (Bool):=(alloc_Pulses.f k a0 a1 al).bind fun aX=>(if aX.2=0 then (cpack_Right.j0 k aX.1 ((ah.length : Int) != a1) ay al ah) else (cpack_Right.j0 k aX.1 true ay al ah))
theorem cpack_Right.mono_l : ∀ k,(∀ y0 y1 y2 y3 y4,LeO (cpack_Right.j0 k y0 y1 y2 y3 y4) (cpack_Right.j0 (k+1) y0 y1 y2 y3 y4))∧(∀ y0 y1 y2 y3,LeO (cpack_Right.l0 k y0 y1 y2 y3) (cpack_Right.l0 (k+1) y0 y1 y2 y3))∧(∀ y0 y1 y2 y3 y4 y5 y6 y7,LeO (cpack_Right.l1 k y0 y1 y2 y3 y4 y5 y6 y7) (cpack_Right.l1 (k+1) y0 y1 y2 y3 y4 y5 y6 y7))
 | 0=>⟨fun _ _ _ _ _ r h=>by simp [cpack_Right.j0] at h,fun _ _ _ _ r h=>by simp [cpack_Right.l0] at h,fun _ _ _ _ _ _ _ _ r h=>by simp [cpack_Right.l1] at h⟩
 | k+1=>by
  obtain ⟨ih0,ih1,ih2⟩:=cpack_Right.mono_l k
  have i0:=@alloc_Pulses.mono;have i1:=@cpack_pulses.mono
  refine ⟨?_, ?_, ?_⟩
  ·
   intro y0 y1 y2 y3 y4
   unfold cpack_Right.j0
   exact yLm
  ·
   intro y0 y1 y2 y3
   unfold cpack_Right.l0
   exact yLm
  intro y0 y1 y2 y3 y4 y5 y6 y7
  unfold cpack_Right.l1
  exact yLm
theorem cpack_Right.mono : ∀ a0 a1 a2 a3 a4 k,LeO (cpack_Right.f k a0 a1 a2 a3 a4) (cpack_Right.f (k+1) a0 a1 a2 a3 a4):=by
 intro a0 a1 a2 a3 a4 k
 obtain ⟨ih0,ih1,ih2⟩:=cpack_Right.mono_l k
 have i0:=@alloc_Pulses.mono;have i1:=@cpack_pulses.mono
 unfold cpack_Right.f
 exact yLm
def cpack_Right.T12 : Bool × List (List Nat × List Nat):=(true, [([], []),([], []),([1], [1]),([], []),([], []),([3,4], [3,4]),([5], [5]),([], []),([6,7], [6,7]),([8], [8]),([0,2,9,2], [0,2,9]),([10], [10])])
def cpack_Right.B12 : List Nat := [0,0,2,0,0,24,56,0,248,504,1023,2047]
theorem cpack_Right.tab12 : rtab .any (opsOf Try.f15 12)=cpack_Right.T12:=by kernel_rfl
theorem cpack_Right.bits12 : waitsOk cpack_Right.T12.2 cpack_Right.B12=true:=by kernel_rfl
theorem cpack_Right.calls (k : Nat) (a0 : Int) (a1 : Int) (ay : Bool) (aK : Option Addr) (aM : Nat) (al : List (List Int)) (aY : Option Addr) (aW : Nat) (ah : List (List (List Int))) (r : Bool) (w : World) (hr2_1 : Kd.C (Kd.slice 3 (Kd.int .i64)) w aK al.length al) (hc2_1 : al.length≤aM) (hr2_2 : Kd.C (Kd.slice 49 (Kd.slice 3 (Kd.int .i64))) w aY ah.length ah) (hc2_2 : ah.length≤aW) (h : cpack_Right.f k a0 a1 ay al ah=some r) :
  Calls Try.prog 15 #[.int .i64 a0, .int .i64 a1, .agg #[.bool ay, .slice aK al.length aM, .slice aY ah.length aW]] w fun e w' => e=.returned (.bool r)∧Below w.heap.size w w' := by
 have hu25:=Try.underlying25;have bI:=zm hr2_1;have bJ:=zm hc2_1;clear hr2_1 hc2_1;have bj:=zm hr2_2;have b4:=zm hc2_2;clear hr2_2 hc2_2;have HB:=zm (zY w.heap.size w);have H:=h
 unfold cpack_Right.f at H
 clear h
 obtain ⟨⟨aj,bK⟩,A4,H⟩:=ybi H
 try dsimp only at H
 have HC5:=zm H;clear H
 go_enter Try.func15,Try.ntmps15
 go_upto_region 2 with (first|((with_reducible refine zL (N:=5) rfl ?_);(try (refine gate_guard (by rfl) ?_;dsimp only));refine ybx 5 #[.bool ay, .slice aK al.length aM, .slice aY ah.length aW] 25 ?_;intro aZ hg w6 hbox hb;have ac:=zm (hbox);have b5:=ygw hg;have b6:=ygw hg;replace HB:=ybs hb;clear hb hbox hg;obtain ⟨bq,br,bs,bu,bv,bw⟩:=yc3 ac)|((with_reducible refine zK (f:=30) rfl ?_);refine ygl 18 Try.func30 #[.int .i64 a0, .int .i64 a1, .slice aK al.length aM] ?_;(with_reducible refine (alloc_Pulses.calls k a0 a1 _ _ al aj bK _ ?aI bJ.out A4.out).mono ?_);(case aI=>exact ycb bI);rintro e w8 ⟨bx,rfl,ho0,hb⟩;refine ⟨_,rfl, ?_⟩;have bk:=zm (Kd.S_lower ho0 (zE yhb));replace ac:=ybb ac hb;replace HB:=ybs hb;(try clear hb);(try clear ho0)))
 (try simp only [Act.put,za9,zb0,zb1])
 go_cut [29] (fun v29 wc => ∃ (kq : Nat) (aV : Bool),v29=.bool aV∧Aside0 (cpack_Right.j0 kq aj aV ay al ah=some r)∧Aside0 (kq≤k)∧Aside0 (Kd.S (Kd.slice 3 (Kd.int .i64)) 49 wc w.heap.size (fun _=>True) bx aj)∧Aside0 (wc.heap[aZ]? = some (.cells #[.bool ay,(.slice aK al.length aM),(.slice aY ah.length aW)] 25 (0,0)))∧Aside0 (Below w.heap.size w wc))
 case first =>
  have H:=HC5.out;clear HC5
  by_cases c9 : bK=0
  ·
   rw [za4 c9] at H
   obtain ⟨a7,bV⟩:=yE c9
   clear c9
   (first|rw [a7]|(simp only [i64_w,i32_w];rw [a7])|skip)
   have H' := zm H
   clear H
   obtain ⟨_,_,_,_,_,_⟩:=yc3 ac
   go_wp2
   go_meet
   case rel=>exact ⟨_,(((ah.length : Int) != a1)),yq,H',⟨yo⟩,⟨yr bk⟩,⟨yk ac⟩,⟨yhb⟩⟩
  rw [za5 c9] at H
  obtain ⟨a7,bV⟩:=yF c9
  (first|rw [a7]|(simp only [i64_w,i32_w];rw [a7])|skip)
  have H' := zm H
  clear H
  go_wp2
  go_meet
  case rel=>exact ⟨_,(true),yq,H',⟨yo⟩,⟨yr bk⟩,⟨yk ac⟩,⟨yhb⟩⟩
 case rest =>
  clear HC5
  try clear bq
  try clear br
  try clear bs
  try clear bu
  try clear bv
  try clear bw
  obtain ⟨kq,aV,rfl,HA,HJ4,ai,ac,HB⟩:=hcut
  obtain ⟨kj4,rfl⟩:=ysu kq (fun h=>by subst h;exact absurd HA.out (by simp [cpack_Right.j0]))
  have H:=HA.out;clear HA
  simp only [cpack_Right.j0] at H
  by_cases c11 : aV=true
  ·
   subst c11
   rw [za4 rfl] at H
   obtain rfl:=zO H
   go_wp2
   go_ret
   exact ⟨ye,yhb⟩
  replace c11:=za3.mpr c11
  subst c11
  rw [ynf] at H
  have H' := zm H
  clear H
  obtain ⟨ba,bb,bc,bd,bf,bg⟩:=yc3 ac
  go_wp2
  go_loopg [33] kj4 (fun kq v33 w' => ∃ (aa : Int),v33=.int .i64 aa∧Aside0 (cpack_Right.l0 kq aj ah (ah.length : Int) aa=some r)∧Aside0 (kq≤kj4)∧Aside0 (Kd.S (Kd.slice 3 (Kd.int .i64)) 49 w' w.heap.size (fun _=>True) bx aj)∧Aside0 (w'.heap[aZ]? = some (.cells #[.bool ay,(.slice aK al.length aM),(.slice aY ah.length aW)] 25 (0,0)))∧Aside0 (Below w.heap.size w w'))
  case atStart=>exact ⟨(0),yq,H',⟨zX _⟩,⟨yr ai⟩,⟨yk ac⟩,⟨yhb⟩⟩
  case round =>
   clear H'
   try clear ba
   try clear bb
   try clear bc
   try clear bd
   try clear bf
   try clear bg
   obtain ⟨aa,rfl,HA,HK2,ai,ac,HB⟩:=hrel
   obtain ⟨k2,rfl⟩:=ysu gk (fun h=>by subst h;exact absurd HA.out (by simp [cpack_Right.l0]))
   have H:=HA.out;clear HA
   simp only [cpack_Right.l0] at H
   replace H:=yId H
   obtain ⟨bl,H⟩ | ⟨bl,H⟩:=H
   ·
    obtain ⟨c14,H⟩:=yif H
    have bL : decide (0≤aa)=true:=decide_eq_true c14
    clear c14
    obtain ⟨c15,H⟩:=yif H
    have bM : decide (aa < (ah.length : Int))=true:=decide_eq_true c15
    clear c15
    by_cases c16 : ((rd_L2 ah aa).length : Int)=5
    ·
     rw [za4 c16] at H
     obtain ⟨bm,bn⟩:=yE c16
     clear c16
     have H' := zm H
     clear H
     obtain ⟨⟨bo,bz,bA,bB,ak,am,ao⟩,bN,bO⟩:=yat (at_L2 bj.out aa)
     cases bB
     replace ak:=yhx HB ak
     have az:=zm ao;have bh:=zm am;clear ao am
     go_wp2
     go_loopg [43] k2 (fun kq v43 w' => ∃ (ae : Int),v43=.int .i64 ae∧Aside0 (cpack_Right.l1 kq aj aa ah (ah.length : Int) aa (rd_L2 ah aa) ((rd_L2 ah aa).length : Int) ae=some r)∧Aside0 (kq≤k2)∧Aside0 (Kd.S (Kd.slice 3 (Kd.int .i64)) 49 w' w.heap.size (fun _=>True) bx aj)∧Aside0 (w'.heap[aZ]? = some (.cells #[.bool ay,(.slice aK al.length aM),(.slice (some bo) ah.length aW)] 25 (0,0)))∧Aside0 (Below w.heap.size w w'))
     case atStart=>exact ⟨(0),yq,H',⟨zX _⟩,⟨yr ai⟩,⟨yk ac⟩,⟨yhb⟩⟩
     case round =>
      clear H'
      try clear bl
      try clear bL
      try clear bM
      try clear bm
      try clear bn
      try clear ak
      try clear bN
      try clear bO
      obtain ⟨ae,rfl,HA,HK3,ai,ac,HB⟩:=hrel
      obtain ⟨k3,rfl⟩:=ysu gk (fun h=>by subst h;exact absurd HA.out (by simp [cpack_Right.l1]))
      have H:=HA.out;clear HA
      simp only [cpack_Right.l1] at H
      replace H:=yId H
      obtain ⟨bP,H⟩ | ⟨bP,H⟩:=H
      ·
       obtain ⟨c18,H⟩:=yif H
       have b7 : decide (0≤ae)=true:=decide_eq_true c18
       clear c18
       obtain ⟨c19,H⟩:=yif H
       have b8 : decide (ae < ((rd_L2 ah aa).length : Int))=true:=decide_eq_true c19
       clear c19
       obtain ⟨aH,A20,H⟩:=ybi H
       obtain ⟨c21,H⟩:=yif H
       have b9 : decide (0≤aa)=true:=decide_eq_true c21
       clear c21
       obtain ⟨c22,H⟩:=yif H
       have ca : decide (aa < (aj.length : Int))=true:=decide_eq_true c22
       clear c22
       obtain ⟨c23,H⟩:=yif H
       have cb : decide (ae < ((rd_L1 aj aa).length : Int))=true:=decide_eq_true c23
       clear c23
       obtain ⟨bp,A24,H⟩:=ybi H
       by_cases c25 : bp=true
       ·
        subst c25
        rw [za4 rfl] at H
        have H' := zm H
        clear H
        obtain ⟨⟨bQ,aN,aQ,bC,ap,aq,au⟩,bW,bX⟩:=yat (at_L1 az.out ae)
        cases bC
        replace ap:=yhx HB ap
        have aA:=zm au;have aC:=zm aq;clear au aq
        try go_wp2
        replace ai:=zm (Kd.S_drew ai.out)
        replace ac:=zm (zj ac.out)
        replace HB:=zm (zf HB.out)
        obtain ⟨cf,cg,bR⟩:=zV ai.out
        (first|subst bR|(injection bR with f1_ f2_ f3_;have f4_:=f1_.symm;have f5_:=f3_.symm;clear f1_ f2_ f3_;subst f4_;subst f5_))
        have aD : 0≤(aa : Int):=yt
        have aE : aa < (aj.length : Int):=yt
        obtain ⟨a8,bD,aT,bE,av,aw,ax⟩:=at_L1 (zS ai.out).2.2 aa aD aE
        cases bE
        obtain ⟨ce179,hce179,hMe179,hcc179⟩:=Kd.S_get ai.out [] aa aD (by first|exact aE|exact yt|(have e_:=(zS ai.out).1;omega))
        obtain ⟨ve179_0,rfl,ge179_0⟩:=hMe179
        have hv179_0:=hcc179 0 _ rfl
        rw [Nat.add_zero,show ((Kd.slice 3 (Kd.int .i64))).sz=1 from rfl,Nat.mul_one] at hv179_0
        replace hv179_0:=zO (hv179_0.symm.trans av)
        rw [hv179_0] at ge179_0
        have ag:=zm (show Kd.R (Kd.int .i64) 3 _ _ _ _ (rd_L1 aj aa) from ge179_0)
        clear hv179_0 ge179_0 hcc179 hce179;have af:=zm ax;have bi:=zm aw;clear ax aw
        replace aD:=zP aD
        replace aE:=zP aE
        obtain ⟨aJ,bF,aG,bY,bZ⟩:=yai af ae
        cases bF
        refine yst (fun w' => w'.cell? (a8.add (aa).toNat)=some (.slice (some aJ) (rd_L1 aj aa).length aT)∧w'.cell? (aJ.add (ae).toNat)=some (.int .i64 (rd (rd_L1 aj aa) ae))) [] 12 cpack_Right.tab12 cpack_Right.bits12 (fun hHeld HT_ HW_ => ?_)
        generalize wr.drew=w26 at ai ac HB ag af av aG hHeld ⊢
        refine yp 0 48 HT_ ?_
        refine yp 1 49 HT_ ?_
        refine yp 3 51 HT_ ?_
        refine yp 4 52 HT_ ?_
        refine yp 5 53 HT_ ?_
        refine yp 7 55 HT_ ?_
        refine yl 6 54 HT_ HW_ hHeld ?_
        refine yp 8 56 HT_ ?_
        refine yl 9 57 HT_ HW_ hHeld ?_
        refine yw 2 50 HT_ (fun K hK => ?_)
        refine ygs Try.func32 #[.int .i64 ae] ?_
        with_reducible refine (band_Width.calls ae aH _ A20.out).mono ?_
        rintro e w28 ⟨rfl,hb⟩
        have bG:=yhs hb hHeld.1
        have bH:=yhs hb hHeld.2
        refine ⟨_,rfl, ?_⟩
        replace ai:=ySb ai hb
        replace ag:=yRb ag hb
        replace ac:=ybb ac hb
        replace af:=yCb af hb
        replace HB:=ybs hb
        (try clear hb)
        refine hK.out _ _ yH (fun hHeld => ?_)
        clear hK K
        refine ym (some 50) ?_
        refine yw 10 58 HT_ (fun K hK => ?_)
        refine ygs Try.func44 #[.slice aN (rd_L1 (rd_L2 ah aa) ae).length aQ, .int .i64 aH, .int .i64 (rd (rd_L1 aj aa) ae)] ?_
        with_reducible refine (cpack_pulses.calls k3 _ _ (rd_L1 (rd_L2 ah aa) ae) aH (rd (rd_L1 aj aa) ae) true _ ?aI ?a9 A24.out).mono ?_
        (case aI=>exact ycb aA)
        (case a9=>exact aC.out)
        rintro e w29 ⟨rfl,hb⟩
        have bG:=yhs hb hHeld.1
        have bH:=yhs hb hHeld.2
        refine ⟨_,rfl, ?_⟩
        replace ai:=ySb ai hb
        replace ag:=yRb ag hb
        replace ac:=ybb ac hb
        replace af:=yCb af hb
        replace HB:=ybs hb
        (try clear hb)
        refine hK.out _ _ yH (fun hHeld => ?_)
        clear hK K
        refine ym (some 58) ?_
        refine yp 11 59 HT_ ?_
        refine done_ (done_of HT_.out (by kernel_rfl)) ?_
        try go_wp2
        go_roundg k3
        case measure=>exact yom3 HJ4 HK2 HK3
        case rel=>exact ⟨(wrap64 (ae+1)),yq,H',⟨yom3 HJ4 HK2 HK3⟩,⟨yr ai⟩,⟨yk ac⟩,⟨yhb⟩⟩
       replace c25:=za3.mpr c25
       subst c25
       rw [ynf] at H
       obtain rfl:=zO H
       obtain ⟨⟨bQ,aN,aQ,bC,ap,aq,au⟩,bW,bX⟩:=yat (at_L1 az.out ae)
       cases bC
       replace ap:=yhx HB ap
       have aA:=zm au;have aC:=zm aq;clear au aq
       try go_wp2
       replace ai:=zm (Kd.S_drew ai.out)
       replace ac:=zm (zj ac.out)
       replace HB:=zm (zf HB.out)
       obtain ⟨ch,ci,bS⟩:=zV ai.out
       (first|subst bS|(injection bS with f1_ f2_ f3_;have f4_:=f1_.symm;have f5_:=f3_.symm;clear f1_ f2_ f3_;subst f4_;subst f5_))
       have aD : 0≤(aa : Int):=yt
       have aE : aa < (aj.length : Int):=yt
       obtain ⟨a8,bD,aT,bE,av,aw,ax⟩:=at_L1 (zS ai.out).2.2 aa aD aE
       cases bE
       obtain ⟨ce179,hce179,hMe179,hcc179⟩:=Kd.S_get ai.out [] aa aD (by first|exact aE|exact yt|(have e_:=(zS ai.out).1;omega))
       obtain ⟨ve179_0,rfl,ge179_0⟩:=hMe179
       have hv179_0:=hcc179 0 _ rfl
       rw [Nat.add_zero,show ((Kd.slice 3 (Kd.int .i64))).sz=1 from rfl,Nat.mul_one] at hv179_0
       replace hv179_0:=zO (hv179_0.symm.trans av)
       rw [hv179_0] at ge179_0
       have ag:=zm (show Kd.R (Kd.int .i64) 3 _ _ _ _ (rd_L1 aj aa) from ge179_0)
       clear hv179_0 ge179_0 hcc179 hce179;have af:=zm ax;have bi:=zm aw;clear ax aw
       replace aD:=zP aD
       replace aE:=zP aE
       obtain ⟨aJ,bF,aG,bY,bZ⟩:=yai af ae
       cases bF
       refine yst (fun w' => w'.cell? (a8.add (aa).toNat)=some (.slice (some aJ) (rd_L1 aj aa).length aT)∧w'.cell? (aJ.add (ae).toNat)=some (.int .i64 (rd (rd_L1 aj aa) ae))) [] 12 cpack_Right.tab12 cpack_Right.bits12 (fun hHeld HT_ HW_ => ?_)
       generalize wr.drew=w30 at ai ac HB ag af av aG hHeld ⊢
       refine yp 0 48 HT_ ?_
       refine yp 1 49 HT_ ?_
       refine yp 3 51 HT_ ?_
       refine yp 4 52 HT_ ?_
       refine yp 5 53 HT_ ?_
       refine yp 7 55 HT_ ?_
       refine yl 6 54 HT_ HW_ hHeld ?_
       refine yp 8 56 HT_ ?_
       refine yl 9 57 HT_ HW_ hHeld ?_
       refine yw 2 50 HT_ (fun K hK => ?_)
       refine ygs Try.func32 #[.int .i64 ae] ?_
       with_reducible refine (band_Width.calls ae aH _ A20.out).mono ?_
       rintro e w32 ⟨rfl,hb⟩
       have bG:=yhs hb hHeld.1
       have bH:=yhs hb hHeld.2
       refine ⟨_,rfl, ?_⟩
       replace ai:=ySb ai hb
       replace ag:=yRb ag hb
       replace ac:=ybb ac hb
       replace af:=yCb af hb
       replace HB:=ybs hb
       (try clear hb)
       refine hK.out _ _ yH (fun hHeld => ?_)
       clear hK K
       refine ym (some 50) ?_
       refine yw 10 58 HT_ (fun K hK => ?_)
       refine ygs Try.func44 #[.slice aN (rd_L1 (rd_L2 ah aa) ae).length aQ, .int .i64 aH, .int .i64 (rd (rd_L1 aj aa) ae)] ?_
       with_reducible refine (cpack_pulses.calls k3 _ _ (rd_L1 (rd_L2 ah aa) ae) aH (rd (rd_L1 aj aa) ae) false _ ?aI ?a9 A24.out).mono ?_
       (case aI=>exact ycb aA)
       (case a9=>exact aC.out)
       rintro e w33 ⟨rfl,hb⟩
       have bG:=yhs hb hHeld.1
       have bH:=yhs hb hHeld.2
       refine ⟨_,rfl, ?_⟩
       replace ai:=ySb ai hb
       replace ag:=yRb ag hb
       replace ac:=ybb ac hb
       replace af:=yCb af hb
       replace HB:=ybs hb
       (try clear hb)
       refine hK.out _ _ yH (fun hHeld => ?_)
       clear hK K
       refine ym (some 58) ?_
       refine yp 11 59 HT_ ?_
       refine done_ (done_of HT_.out (by kernel_rfl)) ?_
       try go_wp2
       go_ret
       exact ⟨ye,yhb⟩
      have H' := zm H
      clear H
      go_wp2
      go_roundg k3
      case measure=>exact yom3 HJ4 HK2 HK3
      case rel=>exact ⟨(wrap64 (aa+1)),yq,H',⟨yom3 HJ4 HK2 HK3⟩,⟨yr ai⟩,⟨yk ac⟩,⟨yhb⟩⟩
    rw [za5 c16] at H
    obtain ⟨bm,bn⟩:=yF c16
    obtain rfl:=zO H
    obtain ⟨⟨bo,bz,bA,bB,ak,am,ao⟩,bN,bO⟩:=yat (at_L2 bj.out aa)
    cases bB
    replace ak:=yhx HB ak
    have az:=zm ao;have bh:=zm am;clear ao am
    go_wp2
    go_ret
    exact ⟨ye,yhb⟩
   obtain rfl:=zO H
   go_wp2
   go_ret
   exact ⟨ye,yhb⟩
def coder_New.f  : Option (Int × Int × List Int):=some (0,4294967295,([] : List Int))
theorem coder_New.calls  (r1 : Int) (r2 : Int) (r3 : List Int) (w : World) (h : coder_New.f  = some (r1,r2,r3)) :
  Calls Try.prog 27 #[] w fun e w' => ∃ v2_ : Value,e=.returned (.agg #[.int .u64 r1, .int .u32 r2,v2_])∧Kd.R (Kd.int .u8) 5 w' w.heap.size (fun _=>True) v2_ r3∧Below w.heap.size w w' := by
 have hu54:=Try.underlying54;have HB:=zm (zY w.heap.size w);have H:=h
 unfold coder_New.f at H
 clear h
 simp only [zM,zN] at H
 obtain ⟨rfl,rfl,rfl⟩:=H
 go_enter Try.func27,Try.ntmps27
 go_wp2_with (first|((with_reducible refine zL (N:=0) rfl ?_);refine ybx 0 #[.int .u64 0, .int .u32 0, .slice none 0 0] 54 ?_;intro ac hg w1 hbox hb;have aa:=zm (hbox);have ae:=ygw hg;have af:=ygw hg;replace HB:=ybs hb;clear hb hbox hg;obtain ⟨_,_,_,_,_,_⟩:=yc3 aa))
 refine za1 (zb2 rfl _ _ ac 54 #[.int .u64 0, .int .u32 4294967295, .slice none 0 0] (0,0) _ rfl (ykp aa) Try.underlying54 rfl (by kernel_rfl)) rfl ?_
 exact ⟨_,ye,yn,yhb⟩
def coder_RightEnc.f (af : Int) (ac : Int) (aa : List Int) : Option (Bool):=if af≤4294967295 then (if ac ≥ 16777216 then (some (decide ((aa.length : Int)≤4000))) else (some false)) else (some false)
theorem coder_RightEnc.calls (af : Int) (ac : Int) (ag : Option Addr) (ah : Nat) (aa : List Int) (r : Bool) (w : World) (hr0_2 : Kd.C (Kd.int .u8) w ag aa.length aa) (hc0_2 : aa.length≤ah) (h : coder_RightEnc.f af ac aa=some r) :
  Calls Try.prog 91 #[.agg #[.int .u64 af, .int .u32 ac, .slice ag aa.length ah]] w fun e w' => e=.returned (.bool r)∧Below w.heap.size w w' := by
 have hu54:=Try.underlying54;have ao:=zm hr0_2;have ap:=zm hc0_2;clear hr0_2 hc0_2;have HB:=zm (zY w.heap.size w);have H:=h
 unfold coder_RightEnc.f at H
 clear h
 replace H:=yId H
 obtain ⟨al,H⟩ | ⟨al,H⟩:=H
 ·
  by_cases c3 : ac ≥ 16777216
  ·
   rw [za4 c3] at H
   have am:=yDl c3
   clear c3
   obtain rfl:=zO H
   go_enter Try.func91,Try.ntmps91
   go_wp2_with (first|((with_reducible refine zL (N:=1) rfl ?_);(try (refine gate_guard (by rfl) ?_;dsimp only));refine ybx 1 #[.int .u64 af, .int .u32 ac, .slice ag aa.length ah] 54 ?_;intro ai hg w4 hbox hb;have ae:=zm (hbox);have aj:=ygw hg;have ak:=ygw hg;replace HB:=ybs hb;clear hb hbox hg;obtain ⟨_,_,_,_,_,_⟩:=yc3 ae))
   go_ret
   exact ⟨ye,yhb⟩
  rw [za5 c3] at H
  have am:=yGl c3
  clear c3
  obtain rfl:=zO H
  go_enter Try.func91,Try.ntmps91
  go_wp2_with (first|((with_reducible refine zL (N:=1) rfl ?_);(try (refine gate_guard (by rfl) ?_;dsimp only));refine ybx 1 #[.int .u64 af, .int .u32 ac, .slice ag aa.length ah] 54 ?_;intro ai hg w6 hbox hb;have ae:=zm (hbox);have aj:=ygw hg;have ak:=ygw hg;replace HB:=ybs hb;clear hb hbox hg;obtain ⟨_,_,_,_,_,_⟩:=yc3 ae))
  go_ret
  exact ⟨ye,yhb⟩
 obtain rfl:=zO H
 go_enter Try.func91,Try.ntmps91
 go_wp2_with (first|((with_reducible refine zL (N:=1) rfl ?_);(try (refine gate_guard (by rfl) ?_;dsimp only));refine ybx 1 #[.int .u64 af, .int .u32 ac, .slice ag aa.length ah] 54 ?_;intro ai hg w8 hbox hb;have ae:=zm (hbox);have aj:=ygw hg;have ak:=ygw hg;replace HB:=ybs hb;clear hb hbox hg;obtain ⟨_,_,_,_,_,_⟩:=yc3 ae))
 go_ret
 exact ⟨ye,yhb⟩
def coder_own.f (af : Int) (ag : Int) (ae : List Int) : Option (Int × Int × List Int):=(coder_RightEnc.f af ag ae).bind fun aD=>(if aD=true then ((some (([] : List Int) : List Int)).bind fun aj=>(if aj.length+ae.length < 140737488355328 then (some (af,ag,(aj ++ ae))) else (none))) else ((coder_New.f).bind fun ao=>(some (ao.1,ao.2.1,ao.2.2))))
theorem coder_own.calls (af : Int) (ag : Int) (al : Option Addr) (am : Nat) (ae : List Int) (r1 : Int) (r2 : Int) (r3 : List Int) (w : World) (hr0_2 : Kd.C (Kd.int .u8) w al ae.length ae) (hc0_2 : ae.length≤am) (h : coder_own.f af ag ae=some (r1,r2,r3)) :
  Calls Try.prog 63 #[.agg #[.int .u64 af, .int .u32 ag, .slice al ae.length am]] w fun e w' => ∃ v2_ : Value,e=.returned (.agg #[.int .u64 r1, .int .u32 r2,v2_])∧Kd.R (Kd.int .u8) 5 w' w.heap.size (fun _=>True) v2_ r3∧Below w.heap.size w w' := by
 have hu54:=Try.underlying54;have ap:=zm hr0_2;have ay:=zm hc0_2;clear hr0_2 hc0_2;have HB:=zm (zY w.heap.size w);have H:=h
 unfold coder_own.f at H
 clear h
 obtain ⟨aD,A2,H⟩:=ybi H
 by_cases c3 : aD=true
 ·
  subst c3
  rw [za4 rfl] at H
  obtain ⟨aj,aq⟩ : ∃ y_ : List Int,y_=(([] : List Int)):=⟨_,rfl⟩
  replace H : (if aj.length+ae.length < 140737488355328 then (some (af,ag,(aj ++ ae))) else (none))=some (r1,r2,r3):=yrw aq H
  have az:=zm aq;clear aq
  obtain ⟨c4,H⟩:=yif H
  have LMc4:=zm c4;clear c4
  obtain ⟨aE,au⟩ : ∃ y_ : List Int,y_=(aj ++ ae):=⟨_,rfl⟩
  replace H : (some (af,ag,aE))=some (r1,r2,r3):=yrw au H
  have aG:=zm au;clear au
  simp only [zM,zN] at H
  obtain ⟨rfl,rfl,rfl⟩:=H
  go_enter Try.func63,Try.ntmps63
  go_wp2_with (first|((with_reducible refine zL (N:=1) rfl ?_);refine ybx 1 #[.int .u64 af, .int .u32 ag, .slice al ae.length am] 54 ?_;intro aH hg w5 hbox hb;have aa:=zm (hbox);have aI:=ygw hg;have aJ:=ygw hg;replace HB:=ybs hb;clear hb hbox hg)|((with_reducible refine zL (N:=2) rfl ?_);refine ybx 2 #[.int .u64 0, .int .u32 0, .slice none 0 0] 54 ?_;intro av hg w6 hbox hb;have ac:=zm (hbox);have aK:=ygw hg;have aM:=ygw hg;replace HB:=ybs hb;have ah:=ynl aa hg;have ai:=yng aa hg;replace aa:=ybb aa hb;clear hb hbox hg;have:=ah.out;have:=ai.out;obtain ⟨_,_,_,_,_,_⟩:=yc3 aa)|((with_reducible refine zK (f:=91) rfl ?_);refine ygl 4 Try.func91 #[.agg #[.int .u64 af, .int .u32 ag, .slice al ae.length am]] ?_;(with_reducible refine (coder_RightEnc.calls af ag _ _ ae true _ ?aw ay.out A2.out).mono ?_);(case aw=>exact ycb ap);rintro e w9 ⟨rfl,hb⟩;refine ⟨_,rfl, ?_⟩;replace aa:=ybb aa hb;replace ac:=ybb ac hb;replace HB:=ybs hb;(try clear hb))|((with_reducible refine zL (N:=7) rfl ?_);refine Kd.R_lit (Kd.int .u8) _ 5 ?hg (N:=7) ?hd (xs:=([] : List Int)) (inner := []) (ok:=fun _=>True) (okp:=fun _=>True) ?hr ?hp (fun _ hk=>hk) trivial (zY _ _) (zX _) (by simp) ?_;(case hd=>rfl);(case hg=>rfl);(case hr=>first|(go_simp;done)|(go_simp;rfl));(case hp=>exact (Reps.none _ _));intro aU w10 ax hb hg_ hnew_;clear hg_ hnew_;(first|rw [← az.out] at ax|(simp only [Int.reduceToNat] at ax;rw [← az.out] at ax));have ak:=zm (za0 ax (zE yhb));replace aa:=ybb aa hb;replace ac:=ybb ac hb;replace HB:=ybs hb;clear hb ax;obtain ⟨_,_,_,_,_,_⟩:=yc3 aa)|((with_reducible refine zb9 (b:=.append) (xs := #[.tmp 7, .tmp 9]) rfl ?_);at_builtin;refine Kd.R_append_rows (Kd.int .u8) (w0:=w) w.heap.size rfl (.tmp 7) (.tmp 9) 28 5 (.int .u8 0) 1 rfl Try.underlying28 info5 rfl (by decide) (by omega) aU aj ae _ _ _ (fun _=>True) (fun _=>False) rfl rfl ?aO ?aR (fun _ _ h=>h) (fun _ h=>h.elim) ?aF ?aB ?aS ?aL ?_;(case aR=>exact ycb ap);(case aB=>exact yhb);(case aF=>exact (fun _ _=>trivial));(case aO=>exact (yr ak));(case aS=>exact (zE yhb));(case aL=>have:=LMc4.out;omega);intro a8 w13 ho hb hg hat;rw [← aG.out] at ho;replace aa:=zm (zc3 (yk aa) hg (zu ak.out aa.out (by decide)));replace ac:=zm (zc3 (yk ac) hg (zu ak.out ac.out (by decide)));replace HB:=zm (hb);have aA:=zm (ho);clear ak;clear ho hb hg hat;obtain ⟨aV,aW,aX⟩:=zT aA.out;subst aX;obtain ⟨_,_,_,_,_,_⟩:=yc3 aa;obtain ⟨_,_,_,_,_,_⟩:=yc3 ac))
  refine za1 (zb2 rfl _ _ av 54 #[.int .u64 af, .int .u32 ag, .slice aV aE.length aW] (0,0) _ rfl (ykp ac) Try.underlying54 rfl (by kernel_rfl)) rfl ?_
  exact ⟨_,ye,yR2 aA aa ac,yhb⟩
 replace c3:=za3.mpr c3
 subst c3
 rw [ynf] at H
 obtain ⟨⟨aN,aQ,aT⟩,A17,H⟩:=ybi H
 try dsimp only at H
 simp only [zM,zN] at H
 obtain ⟨rfl,rfl,rfl⟩:=H
 go_enter Try.func63,Try.ntmps63
 go_wp2_with (first|((with_reducible refine zL (N:=1) rfl ?_);refine ybx 1 #[.int .u64 af, .int .u32 ag, .slice al ae.length am] 54 ?_;intro aH hg w18 hbox hb;have aa:=zm (hbox);have aI:=ygw hg;have aJ:=ygw hg;replace HB:=ybs hb;clear hb hbox hg)|((with_reducible refine zL (N:=2) rfl ?_);refine ybx 2 #[.int .u64 0, .int .u32 0, .slice none 0 0] 54 ?_;intro av hg w19 hbox hb;have ac:=zm (hbox);have aK:=ygw hg;have aM:=ygw hg;replace HB:=ybs hb;have ah:=ynl aa hg;have ai:=yng aa hg;replace aa:=ybb aa hb;clear hb hbox hg;have:=ah.out;have:=ai.out;obtain ⟨_,_,_,_,_,_⟩:=yc3 aa)|((with_reducible refine zK (f:=91) rfl ?_);refine ygl 4 Try.func91 #[.agg #[.int .u64 af, .int .u32 ag, .slice al ae.length am]] ?_;(with_reducible refine (coder_RightEnc.calls af ag _ _ ae false _ ?aw ay.out A2.out).mono ?_);(case aw=>exact ycb ap);rintro e w22 ⟨rfl,hb⟩;refine ⟨_,rfl, ?_⟩;replace aa:=ybb aa hb;replace ac:=ybb ac hb;replace HB:=ybs hb;(try clear hb))|((with_reducible refine zK (f:=27) rfl ?_);refine ygl 6 Try.func27 #[] ?_;(with_reducible refine (coder_New.calls  aN aQ aT _ A17.out).mono ?_);rintro e w23 ⟨a9,rfl,ho0,hb⟩;refine ⟨_,rfl, ?_⟩;have aC:=zm (za0 ho0 (zE yhb));replace aa:=ybb aa hb;replace ac:=ybb ac hb;replace HB:=ybs hb;(try clear hb);(try clear ho0);obtain ⟨_,_,_,_,_,_⟩:=yc3 ac;obtain ⟨aY,aZ,a7⟩:=zT aC.out;subst a7))
 refine za1 (zb2 rfl _ _ av 54 #[.int .u64 aN, .int .u32 aQ, .slice aY aT.length aZ] (0,0) _ rfl (ykp ac) Try.underlying54 rfl (by kernel_rfl)) rfl ?_
 exact ⟨_,ye,yR1 aC ac,yhb⟩
def coder_Finish.f (aj : Int) (ak : Int) (af : List Int) : Option (List Int):=(coder_own.f aj ak af).bind fun ag=>((some (([(ag.1 / 16777216) % 256,(ag.1 / 65536) % 256,(ag.1 / 256) % 256,(ag.1) % 256] : List Int) : List Int)).bind fun ah=>(if ag.2.2.length+ah.length < 140737488355328 then (some (ag.2.2 ++ ah)) else (none)))
theorem coder_Finish.calls (aj : Int) (ak : Int) (aq : Option Addr) (au : Nat) (af : List Int) (r : List Int) (w : World) (hr0_2 : Kd.C (Kd.int .u8) w aq af.length af) (hc0_2 : af.length≤au) (h : coder_Finish.f aj ak af=some r) :
  Calls Try.prog 35 #[.agg #[.int .u64 aj, .int .u32 ak, .slice aq af.length au]] w fun e w' => ∃ v0_ : Value,e=.returned (v0_)∧Kd.R (Kd.int .u8) 5 w' w.heap.size (fun _=>True) v0_ r∧Below w.heap.size w w' := by
 have hu54:=Try.underlying54;have aw:=zm hr0_2;have ax:=zm hc0_2;clear hr0_2 hc0_2;have HB:=zm (zY w.heap.size w);have H:=h
 unfold coder_Finish.f at H
 clear h
 obtain ⟨⟨aa,ay,al⟩,A2,H⟩:=ybi H
 try dsimp only at H
 obtain ⟨ah,ao⟩ : ∃ y_ : List Int,y_=(([(aa / 16777216) % 256,(aa / 65536) % 256,(aa / 256) % 256,(aa) % 256] : List Int)):=⟨_,rfl⟩
 replace H : (if al.length+ah.length < 140737488355328 then (some (al ++ ah)) else (none))=some r:=yrw ao H
 have av:=zm ao;clear ao
 obtain ⟨c3,H⟩:=yif H
 have LMc3:=zm c3;clear c3
 obtain ⟨aE,ap⟩ : ∃ y_ : List Int,y_=(al ++ ah):=⟨_,rfl⟩
 replace H : (some aE)=some r:=yrw ap H
 have az:=zm ap;clear ap
 obtain rfl:=zO H
 go_enter Try.func35,Try.ntmps35
 go_wp2_with (first|((with_reducible refine zL (N:=1) rfl ?_);refine ybx 1 #[.int .u64 aj, .int .u32 ak, .slice aq af.length au] 54 ?_;intro aA hg w4 hbox hb;have ac:=zm (hbox);have aJ:=ygw hg;have aK:=ygw hg;replace HB:=ybs hb;clear hb hbox hg;obtain ⟨_,_,_,_,_,_⟩:=yc3 ac)|((with_reducible refine zK (f:=63) rfl ?_);refine ygl 4 Try.func63 #[.agg #[.int .u64 aj, .int .u32 ak, .slice aq af.length au]] ?_;(with_reducible refine (coder_own.calls aj ak _ _ af aa ay al _ ?aC ax.out A2.out).mono ?_);(case aC=>exact ycb aw);rintro e w6 ⟨aM,rfl,ho0,hb⟩;refine ⟨_,rfl, ?_⟩;have ae:=zm (za0 ho0 (zE yhb));replace ac:=ybb ac hb;replace HB:=ybs hb;(try clear hb);(try clear ho0);obtain ⟨_,_,_,_,_,_⟩:=yc3 ac;obtain ⟨Ao8,co8,eo8⟩:=zT ae.out;subst eo8)|((with_reducible refine zL (N:=22) rfl ?_);refine Kd.R_lit (Kd.int .u8) _ 5 ?hg (N:=22) ?hd (xs:=([(aa / 16777216) % 256,(aa / 65536) % 256,(aa / 256) % 256,(aa) % 256] : List Int)) (inner := [.int .u8 ((aa / 16777216) % 256), .int .u8 ((aa / 65536) % 256), .int .u8 ((aa / 256) % 256), .int .u8 ((aa) % 256)]) (ok:=fun _=>True) (okp:=fun _=>True) ?hr ?hp (fun _ hk=>hk) trivial (zY _ _) (zX _) (by simp) ?_;(case hd=>rfl);(case hg=>rfl);(case hr=>first|(go_simp;done)|(go_simp;rfl));(case hp=>exact (Reps.one (show Kd.M (Kd.int .u8) _ _ _ ((aa / 16777216) % 256) [.int .u8 ((aa / 16777216) % 256)] from rfl) (Reps.one (show Kd.M (Kd.int .u8) _ _ _ ((aa / 65536) % 256) [.int .u8 ((aa / 65536) % 256)] from rfl) (Reps.one (show Kd.M (Kd.int .u8) _ _ _ ((aa / 256) % 256) [.int .u8 ((aa / 256) % 256)] from rfl) (Reps.one (show Kd.M (Kd.int .u8) _ _ _ ((aa) % 256) [.int .u8 ((aa) % 256)] from rfl) (Reps.none _ _))))));intro aN w9 am hb hg_ hnew_;clear hg_ hnew_;(first|rw [← av.out] at am|(simp only [Int.reduceToNat] at am;rw [← av.out] at am));have ai:=zm (za0 (Kd.R_new' am (Kd.R_lt (yR1 ae ac))) (zE yhb));replace ae:=zm (za6 (yR1 ae ac) (zW am) hb);replace ac:=zm (zF (g:=aA) (o:=.cells #[.int .u64 aa, .int .u32 ay, .slice Ao8 al.length co8] 54 (0,0)) (ykp ac) hb);replace HB:=ybs hb;clear hb am;obtain ⟨aG,aH,aI⟩:=zT ai.out;subst aI)|((with_reducible refine zb9 (b:=.append) (xs := #[.tmp 6, .tmp 22]) rfl ?_);at_builtin;refine Kd.R_append_rows (Kd.int .u8) (w0:=w) w.heap.size rfl (.tmp 6) (.tmp 22) 28 5 (.int .u8 0) 1 rfl Try.underlying28 info5 rfl (by decide) (by omega) (.slice Ao8 al.length co8) al ah _ _ _ (fun k_=>some k_≠(.slice aG ah.length aH : Value).ownBlock) (fun _=>False) rfl rfl ?aO ?aR (fun _ _ h=>h) (fun _ h=>h.elim) ?aF ?aB ?aS ?aL ?_;(case aR=>exact yce (zQ ai.out).2.2);(case aB=>exact yhb);(case aF=>exact (fun k_ hk=>zc2 (Kd.R_lt (yr ai)) k_ hk));(case aO=>exact (yR0 ae));(case aS=>exact (zE yhb));(case aL=>have:=LMc3.out;omega);intro aQ w11 ho hb hg hat;rw [← az.out] at ho;replace ac:=zm (zc3 (yk ac) hg (zu ae.out ac.out (by decide)));replace ai:=zm (zc0 (ok:=(fun _=>True)) (yr ai) hg hat);replace HB:=zm (hb);have aD:=zm (ho);clear ae;clear ho hb hg hat))
 go_ret
 exact ⟨_,ye,yR0 aD,yhb⟩
def coder_carry.l0 : Nat→List Int→Int→Option (List Int)
 | 0,_,_=>none
 | k+1,x0,x2=>if x2 ≥ 0 then (if 0≤x2 then (if x2 < (x0.length : Int) then ((some (x0.set (x2 : Int).toNat (((rd x0 x2)+1) % 256) : List Int)).bind fun ag=>(if (rd ag x2)=0 then (coder_carry.l0 k ag (wrap64 (x2 - 1))) else (some ag))) else (none)) else (none)) else (some x0)
def coder_carry.f (k : Nat) (l0 : List Int) : Option (List Int):=coder_carry.l0 k l0 (wrap64 ((l0.length : Int) - 1))
theorem coder_carry.mono_l : ∀ k,(∀ y0 y1,LeO (coder_carry.l0 k y0 y1) (coder_carry.l0 (k+1) y0 y1))
 | 0=>fun _ _ r h=>by simp [coder_carry.l0] at h
 | k+1=>by
  have ih0:=coder_carry.mono_l k
  ·
   intro y0 y1
   unfold coder_carry.l0
   exact yLm
theorem coder_carry.mono : ∀ a0 k,LeO (coder_carry.f k a0) (coder_carry.f (k+1) a0):=by
 intro a0 k
 have ih0:=coder_carry.mono_l k
 unfold coder_carry.f
 exact yLm
theorem coder_carry.calls (k : Nat) (P0_ : Nat→Prop) (ai : Value) (l0 : List Int) (r : List Int) (w0 w : World) (hB : Below w0.heap.size w0 w) (ho0 : Kd.R (Kd.int .u8) 5 w w0.heap.size P0_ ai l0) (h : coder_carry.f k l0=some r) :
  Calls Try.prog 66 #[ai] w fun e w' => e=.returned (.tuple #[])∧Kd.R (Kd.int .u8) 5 w' w0.heap.size (fun k_=>(P0_ k_∨w.heap.size≤k_)) ai r∧Below w0.heap.size w0 w'∧Kept w w' (fun k_=>P0_ k_):=by
 have HO0:=zm (show Kd.R (Kd.int .u8) 5 w w0.heap.size (fun k_=>(P0_ k_∨w.heap.size≤k_)) ai l0 from zG ho0 (fun k_ hk=>(.inl hk)))
 have HK:=zm (Kept.refl w (fun k_=>P0_ k_))
 have HW0:=zm hB.size;have HB:=zm hB;clear hB;have H:=h
 unfold coder_carry.f at H
 clear h
 have H' := zm H
 clear H
 obtain ⟨Ao2,co2,eo2⟩:=zT HO0.out
 subst eo2
 go_enter Try.func66,Try.ntmps66
 go_wp2
 go_step3
 go_wp2
 go_step3
 go_wp2
 go_loopg [2] k (fun kq v2 w' => ∃ (af : List Int) (aa : Int),v2=.int .i64 aa∧Aside0 (coder_carry.l0 kq af aa=some r)∧Aside0 (kq≤k)∧Aside0 (Kd.R (Kd.int .u8) 5 w' w0.heap.size (fun k_=>(P0_ k_∨w.heap.size≤k_)) (.slice Ao2 l0.length co2) af)∧Aside0 (Kept w w' (fun k_=>P0_ k_))∧Aside0 (Below w0.heap.size w0 w'))
 case atStart=>exact ⟨(l0),(wrap64 ((l0.length : Int) - 1)),yq,H',⟨zX _⟩,⟨yr HO0⟩,⟨by repeat (first|(with_reducible first|exact HK.out|apply zb5|apply zb4|apply zb6)|exact HK.out)⟩,⟨yhb⟩⟩
 case round =>
  clear H'
  obtain ⟨af,aa,rfl,HA,HK1,ac,HK,HB⟩:=hrel
  have ah:=(zQ ac.out).1
  rw [ah] at ac
  (try simp only [ah])
  obtain ⟨k1,rfl⟩:=ysu gk (fun h=>by subst h;exact absurd HA.out (by simp [coder_carry.l0]))
  have H:=HA.out;clear HA
  simp only [coder_carry.l0] at H
  replace H:=yIl H
  obtain ⟨az,H⟩ | ⟨az,H⟩:=H
  ·
   obtain ⟨c4,H⟩:=yif H
   have aG : decide (0≤aa)=true:=decide_eq_true c4
   clear c4
   obtain ⟨c5,H⟩:=yif H
   have aH : decide (aa < (af.length : Int))=true:=decide_eq_true c5
   clear c5
   obtain ⟨ag,ao⟩ : ∃ y_ : List Int,y_=(af.set (aa : Int).toNat (((rd af aa)+1) % 256)):=⟨_,rfl⟩
   replace H : (if (rd ag aa)=0 then (coder_carry.l0 k1 ag (wrap64 (aa - 1))) else (some ag))=some r:=yrw ao H
   have am:=zm ao;clear ao
   by_cases c7 : (rd ag aa)=0
   ·
    rw [za4 c7] at H
    obtain ⟨aA,aC⟩:=yE c7
    clear c7
    have H' := zm H
    clear H
    obtain ⟨⟨aw,aq,aj⟩,aD,aE⟩:=yat (zb7 (zQ ac.out).2.2 aa)
    cases aq
    have p6 : 0≤(aa : Int):=yt
    have q6 : (aa : Int) < ((af.length : Int) : Int):=yt
    obtain ⟨go6,co6,eo6,gb6,gl6,cl6,HG6⟩:=Kd.R_form ac.out (by omega)
    (first|cases eo6|(injection eo6 with ea_ en_ ec_;(first|subst ea_|(injection ea_ with ea_;subst ea_));subst ec_;clear en_))
    have GB6:=zm gb6;have GG6:=zm HG6;clear gb6 gl6 HG6
    have HMgo6:=zm (show (P0_ go6∨w.heap.size≤go6) from (ac.out.1 _ rfl))
    (first|simp only [add_plain] at aj|skip)
    obtain ⟨ax,ay⟩:=Kd.R_celln 0 ac.out (aa : Int) p6 q6
    replace p6:=zP p6
    replace q6:=zP q6
    have HP8:=Kd.R_putg ac.out (aa : Int) (((rd af aa)+1) % 256)
    go_wp2_with (first|((with_reducible refine zb8 (t:=5) (p:=15) rfl ?_);refine za2 (t:=5) (p:=15) (v := ?vo_w9) (w1:=(wr.setCell ⟨go6,(aa : Int).toNat,none⟩ (.int .u8 (((rd af aa)+1) % 256)))) ?hg ?ho ?hn ?hr ?_;(case ho=>rfl);(case hg=>rfl);(case hn=>rfl);(case hr=>first|(go_simp;done)|(go_simp;rfl));intro w9 hw;have hg : wr.grownBy w9 (some go6):=(by rw [hw];exact HP8.2);have hp_ : Kd.R (Kd.int .u8) 5 w9 w0.heap.size (fun k_=>(P0_ k_∨w.heap.size≤k_)) (.slice (some ⟨go6,0,none⟩) af.length co2) ag:=(by rw [hw,am.out];exact HP8.1);clear HP8;replace HB:=zm ((by rw [hw];exact zk (HB.out) GB6.out : Below w0.heap.size w0 w9));replace HK:=zm (Kept.of_grown (S:=(fun k_=>P0_ k_)) hg (by repeat (first|(with_reducible first|exact HK.out|apply zb5|apply zb4|apply zb6)|exact HK.out)) (fun k_ e_=>(ac.out.1 k_ e_)));replace ac:=zm (hp_);clear hg hw hp_;have ak : 0≤(aa : Int):=yt;have al : aa < (ag.length : Int):=(by have h_ : (aa : Int) < ((af.length : Int) : Int):=yt;first|(have e_:=(zQ ac.out).1;omega)|simpa only [am.out,List.length_set] using h_);have ql202 : ((aa : Int) < ((af.length : Int) : Int))=True:=zP (yt);obtain ⟨ap,au,ae⟩:=zb7 (zQ ac.out).2.2 aa ak al;obtain rfl : (⟨go6,0,none⟩ : Addr)=ap:=(by injection au);(first|simp only [add_plain] at ae|simp only [add_at] at ae|simp only [Addr.add,Nat.zero_add] at ae|skip);replace ak:=zP ak;replace al:=zP al))
    (try simp only [← ah])
    go_roundg k1
    case measure=>exact yom1 HK1
    case rel=>exact ⟨(ag),(wrap64 (aa - 1)),yq,H',⟨yom1 HK1⟩,⟨by (try simp only [ah]);(with_reducible repeat (first|apply zo|apply zp|apply zq));exact ac.out⟩,⟨by repeat (first|(with_reducible first|exact HK.out|apply zb5|apply zb4|apply zb6)|exact HK.out)⟩,⟨yhb⟩⟩
   rw [za5 c7] at H
   obtain ⟨aA,aC⟩:=yF c7
   obtain rfl:=zO H
   obtain ⟨⟨aw,aq,aj⟩,aD,aE⟩:=yat (zb7 (zQ ac.out).2.2 aa)
   cases aq
   have p6 : 0≤(aa : Int):=yt
   have q6 : (aa : Int) < ((af.length : Int) : Int):=yt
   obtain ⟨go6,co6,eo6,gb6,gl6,cl6,HG6⟩:=Kd.R_form ac.out (by omega)
   (first|cases eo6|(injection eo6 with ea_ en_ ec_;(first|subst ea_|(injection ea_ with ea_;subst ea_));subst ec_;clear en_))
   have GB6:=zm gb6;have GG6:=zm HG6;clear gb6 gl6 HG6
   have HMgo6:=zm (show (P0_ go6∨w.heap.size≤go6) from (ac.out.1 _ rfl))
   (first|simp only [add_plain] at aj|skip)
   obtain ⟨ax,ay⟩:=Kd.R_celln 0 ac.out (aa : Int) p6 q6
   replace p6:=zP p6
   replace q6:=zP q6
   have av:=Kd.R_putg ac.out (aa : Int) (((rd af aa)+1) % 256)
   go_wp2_with (first|((with_reducible refine zb8 (t:=5) (p:=15) rfl ?_);refine za2 (t:=5) (p:=15) (v := ?vo_w11) (w1:=(wr.setCell ⟨go6,(aa : Int).toNat,none⟩ (.int .u8 (((rd af aa)+1) % 256)))) ?hg ?ho ?hn ?hr ?_;(case ho=>rfl);(case hg=>rfl);(case hn=>rfl);(case hr=>first|(go_simp;done)|(go_simp;rfl));intro w11 hw;have hg : wr.grownBy w11 (some go6):=(by rw [hw];exact av.2);have hp_ : Kd.R (Kd.int .u8) 5 w11 w0.heap.size (fun k_=>(P0_ k_∨w.heap.size≤k_)) (.slice (some ⟨go6,0,none⟩) af.length co2) ag:=(by rw [hw,am.out];exact av.1);clear av;replace HB:=zm ((by rw [hw];exact zk (HB.out) GB6.out : Below w0.heap.size w0 w11));replace HK:=zm (Kept.of_grown (S:=(fun k_=>P0_ k_)) hg (by repeat (first|(with_reducible first|exact HK.out|apply zb5|apply zb4|apply zb6)|exact HK.out)) (fun k_ e_=>(ac.out.1 k_ e_)));replace ac:=zm (hp_);clear hg hw hp_;have ak : 0≤(aa : Int):=yt;have al : aa < (ag.length : Int):=(by have h_ : (aa : Int) < ((af.length : Int) : Int):=yt;first|(have e_:=(zQ ac.out).1;omega)|simpa only [am.out,List.length_set] using h_);have ql202 : ((aa : Int) < ((af.length : Int) : Int))=True:=zP (yt);obtain ⟨ap,au,ae⟩:=zb7 (zQ ac.out).2.2 aa ak al;obtain rfl : (⟨go6,0,none⟩ : Addr)=ap:=(by injection au);(first|simp only [add_plain] at ae|simp only [add_at] at ae|simp only [Addr.add,Nat.zero_add] at ae|skip);replace ak:=zP ak;replace al:=zP al))
   first|go_end0|((try simp only [Exit.inBlock,Exit.then]);refine za1 (results_none rfl _ _ _) rfl ?_)
   exact ⟨ye,(by first|exact (yr ac)|(simp only [ah];exact (yr ac))),yhb,by repeat (first|(with_reducible first|exact HK.out|apply zb5|apply zb4|apply zb6)|exact HK.out)⟩
  obtain rfl:=zO H
  go_wp2
  first|go_end0|((try simp only [Exit.inBlock,Exit.then]);refine za1 (results_none rfl _ _ _) rfl ?_)
  exact ⟨ye,(by first|exact (yr ac)|(simp only [ah];exact (yr ac))),yhb,by repeat (first|(with_reducible first|exact HK.out|apply zb5|apply zb4|apply zb6)|exact HK.out)⟩
mutual
def coder_Put.j0 : Nat→Int→Int→Int→List Int→Option (Int × Int × List Int × Int)
 | 0,_,_,_,_=>none
 | k+1,x10,ay,aI,az=>coder_Put.l0 k x10 ay aI az
def coder_Put.l0 : Nat→Int→Int→Int→List Int→Option (Int × Int × List Int × Int)
 | 0,_,_,_,_=>none
 | k+1,x10,ay,aI,az=>if x10 < 16777216 then (if az.length < 140737488355328 then (coder_Put.l0 k ((x10 * 256) % 4294967296) (Go.bits .and .u64 (IntKind.u64.wrap (ay * 256)) 4294967295) aI (az ++ [(ay / 16777216) % 256])) else (none)) else (some (ay,x10,az,0))
end
def coder_Put.f (k : Nat) (aA : Int) (aC : Int) (aw : List Int) (a1 : Int) (a2 : Int) (a3 : Int) : Option (Int × Int × List Int × Int):=(coder_own.f aA aC aw).bind fun ao=>((coder_fair.f a1 a2 a3).bind fun b6=>(if b6=true then (if (ao.2.2.length : Int) ≥ 3996 then (some (ao.1,ao.2.1,ao.2.2,3)) else ((coder_part.f ao.2.1 a1 a2 a3).bind fun aJ=>(if (IntKind.u64.wrap (ao.1+aJ.2)) > 4294967295 then ((coder_carry.f k ao.2.2).bind fun aW=>(coder_Put.j0 k aJ.1 (Go.bits .and .u64 (IntKind.u64.wrap (ao.1+aJ.2)) 4294967295) ao.2.1 aW)) else (coder_Put.j0 k aJ.1 (IntKind.u64.wrap (ao.1+aJ.2)) ao.2.1 ao.2.2)))) else (some (ao.1,ao.2.1,ao.2.2,1))))
theorem coder_Put.mono_l : ∀ k,(∀ y0 y1 y2 y3,LeO (coder_Put.j0 k y0 y1 y2 y3) (coder_Put.j0 (k+1) y0 y1 y2 y3))∧(∀ y0 y1 y2 y3,LeO (coder_Put.l0 k y0 y1 y2 y3) (coder_Put.l0 (k+1) y0 y1 y2 y3))
 | 0=>⟨fun _ _ _ _ r h=>by simp [coder_Put.j0] at h,fun _ _ _ _ r h=>by simp [coder_Put.l0] at h⟩
 | k+1=>by
  obtain ⟨ih0,ih1⟩:=coder_Put.mono_l k
  have i0:=@coder_carry.mono
  refine ⟨?_, ?_⟩
  ·
   intro y0 y1 y2 y3
   unfold coder_Put.j0
   exact yLm
  intro y0 y1 y2 y3
  unfold coder_Put.l0
  exact yLm
theorem coder_Put.mono : ∀ a0 a1 a2 a3 a4 a5 k,LeO (coder_Put.f k a0 a1 a2 a3 a4 a5) (coder_Put.f (k+1) a0 a1 a2 a3 a4 a5):=by
 intro a0 a1 a2 a3 a4 a5 k
 obtain ⟨ih0,ih1⟩:=coder_Put.mono_l k
 have i0:=@coder_carry.mono
 unfold coder_Put.f
 exact yLm
theorem coder_Put.calls (k : Nat) (aA : Int) (aC : Int) (aK : Option Addr) (aM : Nat) (aw : List Int) (a1 : Int) (a2 : Int) (a3 : Int) (r1 : Int) (r2 : Int) (r3 : List Int) (r4 : Int) (w : World) (hr0_2 : Kd.C (Kd.int .u8) w aK aw.length aw) (hc0_2 : aw.length≤aM) (h : coder_Put.f k aA aC aw a1 a2 a3=some (r1,r2,r3,r4)) :
  Calls Try.prog 26 #[.agg #[.int .u64 aA, .int .u32 aC, .slice aK aw.length aM], .int .i64 a1, .int .i64 a2, .int .i64 a3] w fun e w' => ∃ v2_ : Value,e=.returned (.tuple #[.agg #[.int .u64 r1, .int .u32 r2,v2_], .int .i64 r4])∧Kd.R (Kd.int .u8) 5 w' w.heap.size (fun _=>True) v2_ r3∧Below w.heap.size w w' := by
 have hu54:=Try.underlying54;have aT:=zm hr0_2;have aU:=zm hc0_2;clear hr0_2 hc0_2;have HB:=zm (zY w.heap.size w);have H:=h
 unfold coder_Put.f at H
 clear h
 obtain ⟨⟨ax,ap,aj⟩,A5,H⟩:=ybi H
 try dsimp only at H
 obtain ⟨b6,A6,H⟩:=ybi H
 by_cases c7 : b6=true
 ·
  subst c7
  rw [za4 rfl] at H
  by_cases c8 : (aj.length : Int) ≥ 3996
  ·
   rw [za4 c8] at H
   have ca:=yDl c8
   have cb : decide (3996≤aj.length)=true:=decide_eq_true (by omega)
   clear c8
   simp only [zM,zN] at H
   obtain ⟨rfl,rfl,rfl,rfl⟩:=H
   go_enter Try.func26,Try.ntmps26
   go_wp2_with (first|((with_reducible refine zL (N:=4) rfl ?_);refine ybx 4 #[.int .u64 aA, .int .u32 aC, .slice aK aw.length aM] 54 ?_;intro ak hg w9 hbox hb;have aa:=zm (hbox);have bX:=ygw hg;have bY:=ygw hg;replace HB:=ybs hb;clear hb hbox hg)|((with_reducible refine zL (N:=8) rfl ?_);refine ybx 8 #[.int .u64 0, .int .u32 0, .slice none 0 0] 54 ?_;intro av hg w10 hbox hb;have ac:=zm (hbox);have bZ:=ygw hg;have b4:=ygw hg;replace HB:=ybs hb;have ag:=ynl aa hg;have ah:=yng aa hg;replace aa:=ybb aa hb;clear hb hbox hg;have:=ag.out;have:=ah.out;obtain ⟨aX,aY,aZ,a7,a8,a9⟩:=yc3 aa)|((with_reducible refine zK (f:=63) rfl ?_);refine ygl 13 Try.func63 #[.agg #[.int .u64 aA, .int .u32 aC, .slice aK aw.length aM]] ?_;(with_reducible refine (coder_own.calls aA aC _ _ aw ax ap aj _ ?aD aU.out A5.out).mono ?_);(case aD=>exact ycb aT);rintro e w13 ⟨cf,rfl,ho0,hb⟩;refine ⟨_,rfl, ?_⟩;have ae:=zm (za0 ho0 (zE yhb));replace aa:=ybb aa hb;replace ac:=ybb ac hb;replace HB:=ybs hb;(try clear hb);(try clear ho0);obtain ⟨ba,bb,bc,bd,bf,bg⟩:=yc3 aa;obtain ⟨bh,bi,cl⟩:=zT ae.out;subst cl)|((with_reducible refine zb8 (t:=54) (p:=4) rfl ?_);refine za2 (t:=54) (p:=4) (v := ?vo_w16) (w1:=(((w13.setCell ⟨ak,0,none⟩ (.int .u64 ax)).setCell ⟨ak,1,none⟩ (.int .u32 ap)).setCell ⟨ak,2,none⟩ (.slice bh aj.length bi))) ?hg ?ho ?hn ?hr ?_;(case ho=>rfl);(case hg=>rfl);(case hn=>rfl);(case hr=>first|(go_simp;done)|(go_simp;rfl));intro w16 hw;replace ae : Aside0 (Kd.R (Kd.int .u8) 5 w16 w.heap.size (fun _=>True) (.slice bh aj.length bi) aj):=⟨(by rw [hw];exact (yR1 ae aa))⟩;replace aa : Aside0 (w16.heap[ak]? = some (.cells #[.int .u64 ax, .int .u32 ap, .slice bh aj.length bi] 54 (0,0))):=⟨(by rw [hw];exact (ykp aa))⟩;replace ac : Aside0 (w16.heap[av]? = some (.cells #[.int .u64 0, .int .u32 0, .slice none 0 0] 54 (0,0))):=⟨(by rw [hw];exact (yk ac))⟩;replace HB : Aside0 (Below w.heap.size w w16):=⟨(by rw [hw];exact yhb)⟩;clear hw)|((with_reducible refine zK (f:=64) rfl ?_);refine ygl 17 Try.func64 #[.int .i64 a1, .int .i64 a2, .int .i64 a3] ?_;(with_reducible refine (coder_fair.calls a1 a2 a3 true _ A6.out).mono ?_);rintro e w' ⟨rfl,⟨nd,rfl⟩⟩;refine ⟨_,rfl, ?_⟩;(try (rw [drewN_self w16];generalize hq_ : World.drewN w16 _=w16;replace ae:=yRq hq_ ae;replace aa:=ykq hq_ aa;replace ac:=ykq hq_ ac;replace HB:=ysq hq_;clear hq_));obtain ⟨bj,bk,bl,bm,bn,bo⟩:=yc3 aa;obtain ⟨bp,bq,br,bs,bu,bv⟩:=yc3 ac))
   refine za1 (results_ct rfl _ _ av 54 #[.int .u64 ax, .int .u32 ap, .slice bh aj.length bi] (0,0) _ rfl (ykp ac) Try.underlying54 rfl (by kernel_rfl)) rfl ?_
   exact ⟨_,ye,yR1 ae ac,yhb⟩
  rw [za5 c8] at H
  have ca:=yGl c8
  have cb : decide (3996≤aj.length)=false:=decide_eq_false (by omega)
  clear c8
  obtain ⟨⟨b7,aQ⟩,A19,H⟩:=ybi H
  try dsimp only at H
  have b8:=zm H;clear H
  go_enter Try.func26,Try.ntmps26
  go_upto_if 41 with (first|((with_reducible refine zL (N:=4) rfl ?_);refine ybx 4 #[.int .u64 aA, .int .u32 aC, .slice aK aw.length aM] 54 ?_;intro ak hg w21 hbox hb;have aa:=zm (hbox);have bX:=ygw hg;have bY:=ygw hg;replace HB:=ybs hb;clear hb hbox hg)|((with_reducible refine zL (N:=8) rfl ?_);refine ybx 8 #[.int .u64 0, .int .u32 0, .slice none 0 0] 54 ?_;intro av hg w22 hbox hb;have ac:=zm (hbox);have bZ:=ygw hg;have b4:=ygw hg;replace HB:=ybs hb;have ag:=ynl aa hg;have ah:=yng aa hg;replace aa:=ybb aa hb;clear hb hbox hg;have:=ag.out;have:=ah.out;obtain ⟨bw,bx,bz,bA,bB,bC⟩:=yc3 aa)|((with_reducible refine zK (f:=63) rfl ?_);refine ygl 13 Try.func63 #[.agg #[.int .u64 aA, .int .u32 aC, .slice aK aw.length aM]] ?_;(with_reducible refine (coder_own.calls aA aC _ _ aw ax ap aj _ ?aD aU.out A5.out).mono ?_);(case aD=>exact ycb aT);rintro e w25 ⟨cf,rfl,ho0,hb⟩;refine ⟨_,rfl, ?_⟩;have ae:=zm (za0 ho0 (zE yhb));replace aa:=ybb aa hb;replace ac:=ybb ac hb;replace HB:=ybs hb;(try clear hb);(try clear ho0);obtain ⟨bD,bE,bF,bG,bH,bI⟩:=yc3 aa;obtain ⟨aE,aG,cm⟩:=zT ae.out;subst cm)|((with_reducible refine zb8 (t:=54) (p:=4) rfl ?_);refine za2 (t:=54) (p:=4) (v := ?vo_w28) (w1:=(((w25.setCell ⟨ak,0,none⟩ (.int .u64 ax)).setCell ⟨ak,1,none⟩ (.int .u32 ap)).setCell ⟨ak,2,none⟩ (.slice aE aj.length aG))) ?hg ?ho ?hn ?hr ?_;(case ho=>rfl);(case hg=>rfl);(case hn=>rfl);(case hr=>first|(go_simp;done)|(go_simp;rfl));intro w28 hw;replace ae : Aside0 (Kd.R (Kd.int .u8) 5 w28 w.heap.size (fun _=>True) (.slice aE aj.length aG) aj):=⟨(by rw [hw];exact (yR1 ae aa))⟩;replace aa : Aside0 (w28.heap[ak]? = some (.cells #[.int .u64 ax, .int .u32 ap, .slice aE aj.length aG] 54 (0,0))):=⟨(by rw [hw];exact (ykp aa))⟩;replace ac : Aside0 (w28.heap[av]? = some (.cells #[.int .u64 0, .int .u32 0, .slice none 0 0] 54 (0,0))):=⟨(by rw [hw];exact (yk ac))⟩;replace HB : Aside0 (Below w.heap.size w w28):=⟨(by rw [hw];exact yhb)⟩;clear hw)|((with_reducible refine zK (f:=64) rfl ?_);refine ygl 17 Try.func64 #[.int .i64 a1, .int .i64 a2, .int .i64 a3] ?_;(with_reducible refine (coder_fair.calls a1 a2 a3 true _ A6.out).mono ?_);rintro e w' ⟨rfl,⟨nd,rfl⟩⟩;refine ⟨_,rfl, ?_⟩;(try (rw [drewN_self w28];generalize hq_ : World.drewN w28 _=w28;replace ae:=yRq hq_ ae;replace aa:=ykq hq_ aa;replace ac:=ykq hq_ ac;replace HB:=ysq hq_;clear hq_));obtain ⟨bJ,bK,bL,bM,bN,bO⟩:=yc3 aa)|((with_reducible refine zK (f:=65) rfl ?_);refine ygl 31 Try.func65 #[.int .u32 ap, .int .i64 a1, .int .i64 a2, .int .i64 a3] ?_;(with_reducible refine (coder_part.calls ap a1 a2 a3 b7 aQ _ A19.out).mono ?_);rintro e w' ⟨rfl,⟨nd,rfl⟩⟩;refine ⟨_,rfl, ?_⟩;(try (rw [drewN_self w28];generalize hq_ : World.drewN w28 _=w28;replace ae:=yRq hq_ ae;replace aa:=ykq hq_ aa;replace ac:=ykq hq_ ac;replace HB:=ysq hq_;clear hq_));obtain ⟨bP,bQ,bR,bS,bT,bU⟩:=yc3 aa))
  (try simp only [Act.put,za9,zb0,zb1])
  go_cut [] (fun wc => ∃ (kq : Nat) (aq : Int) (au : List Int) (al : Value),Aside0 (coder_Put.j0 kq b7 aq ap au=some (r1,r2,r3,r4))∧Aside0 (kq≤k)∧Aside0 (Kd.R (Kd.int .u8) 5 wc w.heap.size (fun _=>True) al au)∧Aside0 (wc.heap[ak]? = some (.cells #[.int .u64 aq, .int .u32 ap,al] 54 (0,0)))∧Aside0 (wc.heap[av]? = some (.cells #[.int .u64 0, .int .u32 0,(.slice none 0 0)] 54 (0,0)))∧Aside0 (Below w.heap.size w wc))
  case first =>
   have H:=b8.out;clear b8
   replace H:=yIs H
   obtain ⟨aN,H⟩ | ⟨aN,H⟩:=H
   ·
    (first|rw [aN]|(simp only [i64_w,i32_w];rw [aN])|skip)
    obtain ⟨aW,A32,H⟩:=ybi H
    have H' := zm H
    clear H
    have:=ag.out
    have:=ah.out
    obtain ⟨_,_,_,_,_,_⟩:=yc3 aa
    go_wp2_with (first|((with_reducible refine zb8 (t:=51) (p:=45) rfl ?_);refine za2 (t:=51) (p:=45) (v := ?vo_w35) (w1:=((w28.setCell ⟨ak,0,none⟩ (.int .u64 (IntKind.u64.wrap (ax+aQ)))).setCell ⟨ak,0,none⟩ (.int .u64 (Go.bits .and .u64 (IntKind.u64.wrap (ax+aQ)) 4294967295)))) ?hg ?ho ?hn ?hr ?_;(case ho=>rfl);(case hg=>rfl);(case hn=>rfl);(case hr=>first|(go_simp;done)|(go_simp;rfl));intro w35 hw;replace ae : Aside0 (Kd.R (Kd.int .u8) 5 w35 w.heap.size (fun _=>True) (.slice aE aj.length aG) aj):=⟨(by rw [hw];exact (yR1 ae aa))⟩;replace aa : Aside0 (w35.heap[ak]? = some (.cells #[.int .u64 (Go.bits .and .u64 (IntKind.u64.wrap (ax+aQ)) 4294967295), .int .u32 ap, .slice aE aj.length aG] 54 (0,0))):=⟨(by rw [hw];exact (ykp aa))⟩;replace ac : Aside0 (w35.heap[av]? = some (.cells #[.int .u64 0, .int .u32 0, .slice none 0 0] 54 (0,0))):=⟨(by rw [hw];exact (yk ac))⟩;replace HB : Aside0 (Below w.heap.size w w35):=⟨(by rw [hw];exact yhb)⟩;clear hw;obtain ⟨_,_,_,_,_,_⟩:=yc3 aa)|((with_reducible refine zK (f:=66) rfl ?_);refine ygl 48 Try.func66 #[.slice aE aj.length aG] ?_;(with_reducible refine (coder_carry.calls k (fun k_=>some k_=(.slice aE aj.length aG : Value).ownBlock) (.slice aE aj.length aG) aj aW w _ ?aD ?cg A32.out).mono ?_);(case aD=>exact yhb);(case cg=>exact Kd.R_tight rfl ae.out);rintro e w37 ⟨rfl,hy0,hb,hkp⟩;refine ⟨_,rfl, ?_⟩;replace aa:=zm (blk_kept (yk aa) hkp (fun hs_=>(fun e_=>(zu ae.out aa.out (by decide)) e_) hs_));replace ac:=zm (blk_kept (yk ac) hkp (fun hs_=>(fun e_=>(zu ae.out ac.out (by decide)) e_) hs_));replace ae:=zm (Kd.R_reok rfl hy0 (fun k_ e_=>ae.out.1 k_ e_));replace HB:=zm (hb);(try clear hb);(try clear hkp);(try clear hy0)))
    go_meet
    case rel=>exact ⟨_,(Go.bits .and .u64 (IntKind.u64.wrap (ax+aQ)) 4294967295),(aW),(.slice aE aj.length aG),H',⟨yo⟩,⟨yr ae⟩,⟨yk aa⟩,⟨yk ac⟩,⟨yhb⟩⟩
   (first|rw [aN]|(simp only [i64_w,i32_w];rw [aN])|skip)
   have H' := zm H
   clear H
   go_wp2
   go_meet
   case rel=>exact ⟨_,(IntKind.u64.wrap (ax+aQ)),(aj),(.slice aE aj.length aG),H',⟨yo⟩,⟨yR1 ae aa⟩,⟨ykp aa⟩,⟨yk ac⟩,⟨yhb⟩⟩
  case rest =>
   clear b8
   try clear ca
   try clear cb
   try clear aX
   try clear aY
   try clear aZ
   try clear ba
   try clear bb
   try clear bc
   try clear bj
   try clear bk
   try clear bl
   try clear bp
   try clear bq
   try clear br
   try clear bw
   try clear bx
   try clear bz
   try clear bD
   try clear bE
   try clear bF
   try clear bJ
   try clear bK
   try clear bL
   try clear bP
   try clear bQ
   try clear bR
   try clear a7
   try clear a8
   try clear a9
   try clear bd
   try clear bf
   try clear bg
   try clear bm
   try clear bn
   try clear bo
   try clear bs
   try clear bu
   try clear bv
   try clear bA
   try clear bB
   try clear bC
   try clear bG
   try clear bH
   try clear bI
   try clear bM
   try clear bN
   try clear bO
   try clear bS
   try clear bT
   try clear bU
   obtain ⟨kq,aq,au,al,HA,ch,ai,aa,ac,HB⟩:=hcut
   obtain ⟨ci,rfl⟩:=ysu kq (fun h=>by subst h;exact absurd HA.out (by simp [coder_Put.j0]))
   have H:=HA.out;clear HA
   simp only [coder_Put.j0] at H
   have H' := zm H
   clear H
   go_wp2
   go_loopg [10] ci (fun kq v10 w' => ∃ (aH : Int) (af : Int) (am : List Int) (al : Value),v10=.int .u32 aH∧Aside0 (coder_Put.l0 kq aH af ap am=some (r1,r2,r3,r4))∧Aside0 (kq≤ci)∧Aside0 (Kd.R (Kd.int .u8) 5 w' w.heap.size (fun _=>True) al am)∧Aside0 (w'.heap[ak]? = some (.cells #[.int .u64 af, .int .u32 ap,al] 54 (0,0)))∧Aside0 (w'.heap[av]? = some (.cells #[.int .u64 0, .int .u32 0,(.slice none 0 0)] 54 (0,0)))∧Aside0 (Below w.heap.size w w'))
   case atStart=>exact ⟨(b7),(aq),(au),(al),yq,H',⟨zX _⟩,⟨yr ai⟩,⟨yk aa⟩,⟨yk ac⟩,⟨yhb⟩⟩
   case round =>
    clear H'
    obtain ⟨aH,af,am,al,rfl,HA,HK2,ai,aa,ac,HB⟩:=hrel
    obtain ⟨k2,rfl⟩:=ysu gk (fun h=>by subst h;exact absurd HA.out (by simp [coder_Put.l0]))
    have H:=HA.out;clear HA
    simp only [coder_Put.l0] at H
    replace H:=yId H
    obtain ⟨cj,H⟩ | ⟨cj,H⟩:=H
    ·
     obtain ⟨c39,H⟩:=yif H
     have LMc39:=zm c39;clear c39
     obtain ⟨b9,aV⟩ : ∃ y_ : List Int,y_=(am ++ [(af / 16777216) % 256]):=⟨_,rfl⟩
     replace H : (coder_Put.l0 k2 ((aH * 256) % 4294967296) (Go.bits .and .u64 (IntKind.u64.wrap (af * 256)) 4294967295) ap b9)=some (r1,r2,r3,r4):=yrw aV H
     have ck:=zm aV;clear aV
     have H' := zm H
     clear H
     have:=ag.out
     have:=ah.out
     obtain ⟨_,_,_,_,_,_⟩:=yc3 aa
     go_wp2_with (first|((with_reducible refine zb9 (b:=.append) (xs := #[.tmp 52, .tmp 57]) rfl ?_);at_builtin;refine Kd.R_append (Kd.int .u8) (w0:=w) w.heap.size rfl (.tmp 52) (.tmp 57) 28 5 (.int .u8 0) 1 rfl Try.underlying28 info5 rfl (by decide) (by omega) al am ((af / 16777216) % 256) [.int .u8 ((af / 16777216) % 256)] (fun _=>True) (fun _=>False) rfl rfl ?aP (fun _ hk=>hk.elim) ?aF ?aO ?aB ?aS ?aL ?_;(case aP=>exact rfl);(case aB=>exact yhb);(case aF=>exact (fun _ _=>trivial));(case aO=>exact (yr ai));(case aS=>exact (zE yhb));(case aL=>have:=LMc39.out;omega);intro cv w42 ho hb hg hat;rw [← ck.out] at ho;replace aa:=zm (zc3 (yk aa) hg (zu ai.out aa.out (by decide)));replace ac:=zm (zc3 (yk ac) hg (zu ai.out ac.out (by decide)));replace HB:=zm (hb);have b5:=zm (ho);clear ai;clear ho hb hg hat;obtain ⟨cn,co,cp⟩:=zT b5.out;subst cp;obtain ⟨_,_,_,_,_,_⟩:=yc3 aa))
     go_roundg k2
     case measure=>exact yom2 ch HK2
     case rel=>exact ⟨((aH * 256) % 4294967296),(Go.bits .and .u64 (IntKind.u64.wrap (af * 256)) 4294967295),(b9),(.slice cn b9.length co),yq,H',⟨yom2 ch HK2⟩,⟨yR1 b5 aa⟩,⟨ykp aa⟩,⟨yk ac⟩,⟨yhb⟩⟩
    simp only [zM,zN] at H
    obtain ⟨rfl,rfl,rfl,rfl⟩:=H
    have:=ag.out
    have:=ah.out
    obtain ⟨_,_,_,_,_,_⟩:=yc3 aa
    obtain ⟨_,_,_,_,_,_⟩:=yc3 ac
    obtain ⟨cq,cr,ct⟩:=zT ai.out
    subst ct
    go_wp2
    refine za1 (results_ct rfl _ _ av 54 #[.int .u64 af, .int .u32 aH, .slice cq am.length cr] (0,0) _ rfl (ykp ac) Try.underlying54 rfl (by kernel_rfl)) rfl ?_
    exact ⟨_,ye,yR2 ai aa ac,yhb⟩
 replace c7:=za3.mpr c7
 subst c7
 rw [ynf] at H
 simp only [zM,zN] at H
 obtain ⟨rfl,rfl,rfl,rfl⟩:=H
 go_enter Try.func26,Try.ntmps26
 go_wp2_with (first|((with_reducible refine zL (N:=4) rfl ?_);refine ybx 4 #[.int .u64 aA, .int .u32 aC, .slice aK aw.length aM] 54 ?_;intro ak hg w49 hbox hb;have aa:=zm (hbox);have bX:=ygw hg;have bY:=ygw hg;replace HB:=ybs hb;clear hb hbox hg)|((with_reducible refine zL (N:=8) rfl ?_);refine ybx 8 #[.int .u64 0, .int .u32 0, .slice none 0 0] 54 ?_;intro av hg w50 hbox hb;have ac:=zm (hbox);have bZ:=ygw hg;have b4:=ygw hg;replace HB:=ybs hb;have ag:=ynl aa hg;have ah:=yng aa hg;replace aa:=ybb aa hb;clear hb hbox hg;have:=ag.out;have:=ah.out;obtain ⟨_,_,_,_,_,_⟩:=yc3 aa)|((with_reducible refine zK (f:=63) rfl ?_);refine ygl 13 Try.func63 #[.agg #[.int .u64 aA, .int .u32 aC, .slice aK aw.length aM]] ?_;(with_reducible refine (coder_own.calls aA aC _ _ aw ax ap aj _ ?aD aU.out A5.out).mono ?_);(case aD=>exact ycb aT);rintro e w53 ⟨cf,rfl,ho0,hb⟩;refine ⟨_,rfl, ?_⟩;have ae:=zm (za0 ho0 (zE yhb));replace aa:=ybb aa hb;replace ac:=ybb ac hb;replace HB:=ybs hb;(try clear hb);(try clear ho0);obtain ⟨_,_,_,_,_,_⟩:=yc3 aa;obtain ⟨bV,bW,cu⟩:=zT ae.out;subst cu)|((with_reducible refine zb8 (t:=54) (p:=4) rfl ?_);refine za2 (t:=54) (p:=4) (v := ?vo_w56) (w1:=(((w53.setCell ⟨ak,0,none⟩ (.int .u64 ax)).setCell ⟨ak,1,none⟩ (.int .u32 ap)).setCell ⟨ak,2,none⟩ (.slice bV aj.length bW))) ?hg ?ho ?hn ?hr ?_;(case ho=>rfl);(case hg=>rfl);(case hn=>rfl);(case hr=>first|(go_simp;done)|(go_simp;rfl));intro w56 hw;replace ae : Aside0 (Kd.R (Kd.int .u8) 5 w56 w.heap.size (fun _=>True) (.slice bV aj.length bW) aj):=⟨(by rw [hw];exact (yR1 ae aa))⟩;replace aa : Aside0 (w56.heap[ak]? = some (.cells #[.int .u64 ax, .int .u32 ap, .slice bV aj.length bW] 54 (0,0))):=⟨(by rw [hw];exact (ykp aa))⟩;replace ac : Aside0 (w56.heap[av]? = some (.cells #[.int .u64 0, .int .u32 0, .slice none 0 0] 54 (0,0))):=⟨(by rw [hw];exact (yk ac))⟩;replace HB : Aside0 (Below w.heap.size w w56):=⟨(by rw [hw];exact yhb)⟩;clear hw)|((with_reducible refine zK (f:=64) rfl ?_);refine ygl 17 Try.func64 #[.int .i64 a1, .int .i64 a2, .int .i64 a3] ?_;(with_reducible refine (coder_fair.calls a1 a2 a3 false _ A6.out).mono ?_);rintro e w' ⟨rfl,⟨nd,rfl⟩⟩;refine ⟨_,rfl, ?_⟩;(try (rw [drewN_self w56];generalize hq_ : World.drewN w56 _=w56;replace ae:=yRq hq_ ae;replace aa:=ykq hq_ aa;replace ac:=ykq hq_ ac;replace HB:=ysq hq_;clear hq_));obtain ⟨_,_,_,_,_,_⟩:=yc3 aa;obtain ⟨_,_,_,_,_,_⟩:=yc3 ac))
 refine za1 (results_ct rfl _ _ av 54 #[.int .u64 ax, .int .u32 ap, .slice bV aj.length bW] (0,0) _ rfl (ykp ac) Try.underlying54 rfl (by kernel_rfl)) rfl ?_
 exact ⟨_,ye,yR1 ae ac,yhb⟩
mutual
def coder_PutNum.j0 : Nat→Int→Int→Bool→Int→Int→List Int→Option (Int × Int × List Int × Int)
 | 0,_,_,_,_,_,_=>none
 | k+1,x1,x2,x26,av,aw,ax=>if x26=true then (some (av,aw,ax,1)) else ((coder_halves.f x2).bind fun aC=>(if aC.2=0 then (none) else ((coder_Put.f k av aw ax (wrap64 (Int.tdiv (wrap64 (x1)) aC.2)) (wrap64 ((wrap64 (Int.tdiv (wrap64 (x1)) aC.2))+1)) aC.1).bind fun aD=>(if aD.2.2.2=0 then (coder_PutNum.j1 k aC.2 (Int.tmod (wrap64 (x1)) aC.2) aD.2.2.2 (decide (aC.2 > 1)) av aw ax aD.1 aD.2.1 aD.2.2.1) else (coder_PutNum.j1 k aC.2 (Int.tmod (wrap64 (x1)) aC.2) aD.2.2.2 false av aw ax aD.1 aD.2.1 aD.2.2.1)))))
def coder_PutNum.j1 : Nat→Int→Int→Int→Bool→Int→Int→List Int→Int→Int→List Int→Option (Int × Int × List Int × Int)
 | 0,_,_,_,_,_,_,_,_,_,_=>none
 | k+1,x9,x11,x13,x55,av,aw,ax,bC,bD,bE=>if x55=true then ((coder_Put.f k bC bD bE x11 (wrap64 (x11+1)) x9).bind fun bn=>(if bn.2.2.2=0 then (some (bn.1,bn.2.1,bn.2.2.1,0)) else (some (av,aw,ax,bn.2.2.2)))) else (if x13=0 then (some (bC,bD,bE,0)) else (some (av,aw,ax,x13)))
end
def coder_PutNum.f (k : Nat) (aQ : Int) (aT : Int) (aH : List Int) (a1 : Int) (a2 : Int) : Option (Int × Int × List Int × Int):=(coder_own.f aQ aT aH).bind fun aE=>(if a2 < 1 then (coder_PutNum.j0 k a1 a2 true aE.1 aE.2.1 aE.2.2) else (if a2 > 4294967296 then (coder_PutNum.j0 k a1 a2 true aE.1 aE.2.1 aE.2.2) else (coder_PutNum.j0 k a1 a2 (decide (a1 ≥ a2)) aE.1 aE.2.1 aE.2.2)))
theorem coder_PutNum.mono_l : ∀ k,(∀ y0 y1 y2 y3 y4 y5,LeO (coder_PutNum.j0 k y0 y1 y2 y3 y4 y5) (coder_PutNum.j0 (k+1) y0 y1 y2 y3 y4 y5))∧(∀ y0 y1 y2 y3 y4 y5 y6 y7 y8 y9,LeO (coder_PutNum.j1 k y0 y1 y2 y3 y4 y5 y6 y7 y8 y9) (coder_PutNum.j1 (k+1) y0 y1 y2 y3 y4 y5 y6 y7 y8 y9))
 | 0=>⟨fun _ _ _ _ _ _ r h=>by simp [coder_PutNum.j0] at h,fun _ _ _ _ _ _ _ _ _ _ r h=>by simp [coder_PutNum.j1] at h⟩
 | k+1=>by
  obtain ⟨ih0,ih1⟩:=coder_PutNum.mono_l k
  have i0:=@coder_Put.mono
  refine ⟨?_, ?_⟩
  ·
   intro y0 y1 y2 y3 y4 y5
   unfold coder_PutNum.j0
   exact yLm
  intro y0 y1 y2 y3 y4 y5 y6 y7 y8 y9
  unfold coder_PutNum.j1
  exact yLm
theorem coder_PutNum.mono : ∀ a0 a1 a2 a3 a4 k,LeO (coder_PutNum.f k a0 a1 a2 a3 a4) (coder_PutNum.f (k+1) a0 a1 a2 a3 a4):=by
 intro a0 a1 a2 a3 a4 k
 obtain ⟨ih0,ih1⟩:=coder_PutNum.mono_l k
 have i0:=@coder_Put.mono
 unfold coder_PutNum.f
 exact yLm
theorem coder_PutNum.calls (k : Nat) (aQ : Int) (aT : Int) (bM : Option Addr) (bN : Nat) (aH : List Int) (a1 : Int) (a2 : Int) (r1 : Int) (r2 : Int) (r3 : List Int) (r4 : Int) (w : World) (hr0_2 : Kd.C (Kd.int .u8) w bM aH.length aH) (hc0_2 : aH.length≤bN) (h : coder_PutNum.f k aQ aT aH a1 a2=some (r1,r2,r3,r4)) :
  Calls Try.prog 34 #[.agg #[.int .u64 aQ, .int .u32 aT, .slice bM aH.length bN], .int .u64 a1, .int .u64 a2] w fun e w' => ∃ v2_ : Value,e=.returned (.tuple #[.agg #[.int .u64 r1, .int .u32 r2,v2_], .int .i64 r4])∧Kd.R (Kd.int .u8) 5 w' w.heap.size (fun _=>True) v2_ r3∧Below w.heap.size w w' := by
 have hu54:=Try.underlying54;have bO:=zm hr0_2;have bP:=zm hc0_2;clear hr0_2 hc0_2;have HB:=zm (zY w.heap.size w);have H:=h
 unfold coder_PutNum.f at H
 clear h
 obtain ⟨⟨aI,aJ,az⟩,A4,H⟩:=ybi H
 try dsimp only at H
 have HC5:=zm H;clear H
 go_enter Try.func34,Try.ntmps34
 go_upto_region 2 with (first|((with_reducible refine zL (N:=3) rfl ?_);refine ybx 3 #[.int .u64 aQ, .int .u32 aT, .slice bM aH.length bN] 54 ?_;intro bF hg w6 hbox hb;have ac:=zm (hbox);have cf:=ygw hg;have cg:=ygw hg;replace HB:=ybs hb;clear hb hbox hg)|((with_reducible refine zL (N:=6) rfl ?_);refine ybx 6 #[.int .u64 0, .int .u32 0, .slice none 0 0] 54 ?_;intro aG hg w7 hbox hb;have af:=zm (hbox);have ch:=ygw hg;have ci:=ygw hg;replace HB:=ybs hb;have ag:=ynl ac hg;have ah:=yng ac hg;replace ac:=ybb ac hb;clear hb hbox hg;have:=ag.out;have:=ah.out;obtain ⟨bq,br,bs,bu,bv,bw⟩:=yc3 ac)|(go_at_call 63;(with_reducible refine (coder_own.calls aQ aT _ _ aH aI aJ az _ ?aj bP.out A4.out).mono ?_);(case aj=>exact ycb bO);rintro e w10 ⟨co,rfl,ho0,hb⟩;have aK:=zm (za0 ho0 (zE yhb));replace ac:=ybb ac hb;replace af:=ybb af hb;replace HB:=ybs hb;(try clear hb);(try clear ho0);obtain ⟨aW,aX,aY,aZ,a7,a8⟩:=yc3 ac;obtain ⟨aU,aV,bQ⟩:=zT aK.out;subst bQ))
 repeat (go_quiet (first|((with_reducible refine zL (N:=3) rfl ?_);refine ybx 3 #[.int .u64 aQ, .int .u32 aT, .slice bM aH.length bN] 54 ?_;intro bF hg w6 hbox hb;have ac:=zm (hbox);have cf:=ygw hg;have cg:=ygw hg;replace HB:=ybs hb;clear hb hbox hg)|((with_reducible refine zL (N:=6) rfl ?_);refine ybx 6 #[.int .u64 0, .int .u32 0, .slice none 0 0] 54 ?_;intro aG hg w7 hbox hb;have af:=zm (hbox);have ch:=ygw hg;have ci:=ygw hg;replace HB:=ybs hb;have ag:=ynl ac hg;have ah:=yng ac hg;replace ac:=ybb ac hb;clear hb hbox hg;have:=ag.out;have:=ah.out;obtain ⟨bq,br,bs,bu,bv,bw⟩:=yc3 ac)|(go_at_call 63;(with_reducible refine (coder_own.calls aQ aT _ _ aH aI aJ az _ ?aj bP.out A4.out).mono ?_);(case aj=>exact ycb bO);rintro e w10 ⟨co,rfl,ho0,hb⟩;have aK:=zm (za0 ho0 (zE yhb));replace ac:=ybb ac hb;replace af:=ybb af hb;replace HB:=ybs hb;(try clear hb);(try clear ho0);obtain ⟨aW,aX,aY,aZ,a7,a8⟩:=yc3 ac;obtain ⟨aU,aV,bQ⟩:=zT aK.out;subst bQ));go_upto_region 2 with (first|((with_reducible refine zL (N:=3) rfl ?_);refine ybx 3 #[.int .u64 aQ, .int .u32 aT, .slice bM aH.length bN] 54 ?_;intro bF hg w6 hbox hb;have ac:=zm (hbox);have cf:=ygw hg;have cg:=ygw hg;replace HB:=ybs hb;clear hb hbox hg)|((with_reducible refine zL (N:=6) rfl ?_);refine ybx 6 #[.int .u64 0, .int .u32 0, .slice none 0 0] 54 ?_;intro aG hg w7 hbox hb;have af:=zm (hbox);have ch:=ygw hg;have ci:=ygw hg;replace HB:=ybs hb;have ag:=ynl ac hg;have ah:=yng ac hg;replace ac:=ybb ac hb;clear hb hbox hg;have:=ag.out;have:=ah.out;obtain ⟨bq,br,bs,bu,bv,bw⟩:=yc3 ac)|(go_at_call 63;(with_reducible refine (coder_own.calls aQ aT _ _ aH aI aJ az _ ?aj bP.out A4.out).mono ?_);(case aj=>exact ycb bO);rintro e w10 ⟨co,rfl,ho0,hb⟩;have aK:=zm (za0 ho0 (zE yhb));replace ac:=ybb ac hb;replace af:=ybb af hb;replace HB:=ybs hb;(try clear hb);(try clear ho0);obtain ⟨aW,aX,aY,aZ,a7,a8⟩:=yc3 ac;obtain ⟨aU,aV,bQ⟩:=zT aK.out;subst bQ)))
 (try simp only [Act.put,za9,zb0,zb1])
 go_cut [26] (fun v26 wc => ∃ (kq : Nat) (bG : Bool),v26=.bool bG∧Aside0 (coder_PutNum.j0 kq a1 a2 bG aI aJ az=some (r1,r2,r3,r4))∧Aside0 (kq≤k)∧Aside0 (Kd.R (Kd.int .u8) 5 wc w.heap.size (fun _=>True) (.slice aU az.length aV) az)∧Aside0 (wc.heap[bF]? = some (.cells #[.int .u64 aI, .int .u32 aJ,(.slice aU az.length aV)] 54 (0,0)))∧Aside0 (wc.heap[aG]? = some (.cells #[.int .u64 0, .int .u32 0,(.slice none 0 0)] 54 (0,0)))∧Aside0 (Below w.heap.size w wc))
 case first =>
  have H:=HC5.out;clear HC5
  replace H:=yId H
  obtain ⟨bo,H⟩ | ⟨bo,H⟩:=H
  ·
   (first|rw [bo]|(simp only [i64_w,i32_w];rw [bo])|skip)
   have H' := zm H
   clear H
   go_wp2
   repeat (go_quiet (fail);try go_wp2)
   go_meet
   case rel=>exact ⟨_,(true),yq,H',⟨yo⟩,⟨yR1 aK ac⟩,⟨ykp ac⟩,⟨yk af⟩,⟨yhb⟩⟩
  (first|rw [bo]|(simp only [i64_w,i32_w];rw [bo])|skip)
  replace H:=yIs H
  obtain ⟨cp,H⟩ | ⟨cp,H⟩:=H
  ·
   have H' := zm H
   clear H
   go_wp2
   repeat (go_quiet (fail);try go_wp2)
   go_meet
   case rel=>exact ⟨_,(true),yq,H',⟨yo⟩,⟨yR1 aK ac⟩,⟨ykp ac⟩,⟨yk af⟩,⟨yhb⟩⟩
  have H' := zm H
  clear H
  go_wp2
  repeat (go_quiet (fail);try go_wp2)
  go_meet
  case rel=>exact ⟨_,(decide (a1 ≥ a2)),yq,H',⟨yo⟩,⟨yR1 aK ac⟩,⟨ykp ac⟩,⟨yk af⟩,⟨yhb⟩⟩
 case rest =>
  clear HC5
  try clear aW
  try clear aX
  try clear aY
  try clear bq
  try clear br
  try clear bs
  try clear aZ
  try clear a7
  try clear a8
  try clear bu
  try clear bv
  try clear bw
  obtain ⟨kq,bG,rfl,HA,HJ4,aa,ac,af,HB⟩:=hcut
  obtain ⟨kj4,rfl⟩:=ysu kq (fun h=>by subst h;exact absurd HA.out (by simp [coder_PutNum.j0]))
  have H:=HA.out;clear HA
  simp only [coder_PutNum.j0] at H
  by_cases c15 : bG=true
  ·
   subst c15
   rw [za4 rfl] at H
   simp only [zM,zN] at H
   obtain ⟨rfl,rfl,rfl,rfl⟩:=H
   have:=ag.out
   have:=ah.out
   obtain ⟨bW,bX,bY,bZ,b4,b5⟩:=yc3 ac
   obtain ⟨b6,b7,b8,b9,ca,cb⟩:=yc3 af
   go_wp2
   repeat (go_quiet (fail);try go_wp2)
   refine za1 (results_ct rfl _ _ aG 54 #[.int .u64 aI, .int .u32 aJ, .slice aU az.length aV] (0,0) _ rfl (ykp af) Try.underlying54 rfl (by kernel_rfl)) rfl ?_
   exact ⟨_,ye,yR1 aa af,yhb⟩
  replace c15:=za3.mpr c15
  subst c15
  rw [ynf] at H
  obtain ⟨⟨bH,ap⟩,A19,H⟩:=ybi H
  try dsimp only at H
  obtain ⟨c20,H⟩:=yie H
  obtain ⟨cq,cr⟩:=yF c20
  obtain ⟨⟨aM,aN,aA,bI⟩,A21,H⟩:=ybi H
  try dsimp only at H
  have cl:=zm H;clear H
  go_upto_region 7 with (first|(go_at_call 76;(with_reducible refine (coder_halves.calls a2 bH ap _ A19.out).mono ?_);rintro e w' ⟨rfl,⟨nd,rfl⟩⟩;(try exact yww);have:=ag.out;have:=ah.out;obtain ⟨a9,ba,bb,bc,bd,bf⟩:=yc3 ac)|(go_at_call 26;(with_reducible refine (coder_Put.calls kj4 aI aJ _ _ az (wrap64 (Int.tdiv (wrap64 (a1)) ap)) (wrap64 ((wrap64 (Int.tdiv (wrap64 (a1)) ap))+1)) bH aM aN aA bI _ ?aj ?aq A21.out).mono ?_);(case aj=>exact yce (zQ aa.out).2.2);(case aq=>exact (zQ aa.out).2.1);rintro e w25 ⟨ct,rfl,ho0,hb⟩;have au:=zm (za0 (Kd.R_new' ho0 (Kd.R_lt (yr aa))) (zE yhb));replace aa:=zm (za6 (yr aa) (zW ho0) hb);replace ac:=ybb ac hb;replace af:=ybb af hb;replace HB:=ybs hb;(try clear hb);(try clear ho0))|((with_reducible refine zL (N:=12) rfl ?_);refine ybx 12 #[.int .u64 0, .int .u32 0, .slice none 0 0] 54 ?_;intro bR hg w26 hbox hb;replace aa:=yRb aa hb;replace au:=yRb au hb;have ai:=zm (hbox);have cj:=ygw hg;have ck:=ygw hg;replace HB:=ybs hb;have ak:=ynl ac hg;have al:=yng ac hg;replace ac:=ybb ac hb;have am:=ynl af hg;have ao:=yng af hg;replace af:=ybb af hb;clear hb hbox hg;have:=al.out;have:=ak.out;have:=ao.out;have:=am.out;obtain ⟨bg,bh,bi,bj,bk,bl⟩:=yc3 ai;obtain ⟨bJ,bK,bS⟩:=zT au.out;subst bS))
  repeat (go_quiet (first|(go_at_call 76;(with_reducible refine (coder_halves.calls a2 bH ap _ A19.out).mono ?_);rintro e w' ⟨rfl,⟨nd,rfl⟩⟩;(try exact yww);have:=ag.out;have:=ah.out;obtain ⟨a9,ba,bb,bc,bd,bf⟩:=yc3 ac)|(go_at_call 26;(with_reducible refine (coder_Put.calls kj4 aI aJ _ _ az (wrap64 (Int.tdiv (wrap64 (a1)) ap)) (wrap64 ((wrap64 (Int.tdiv (wrap64 (a1)) ap))+1)) bH aM aN aA bI _ ?aj ?aq A21.out).mono ?_);(case aj=>exact yce (zQ aa.out).2.2);(case aq=>exact (zQ aa.out).2.1);rintro e w25 ⟨ct,rfl,ho0,hb⟩;have au:=zm (za0 (Kd.R_new' ho0 (Kd.R_lt (yr aa))) (zE yhb));replace aa:=zm (za6 (yr aa) (zW ho0) hb);replace ac:=ybb ac hb;replace af:=ybb af hb;replace HB:=ybs hb;(try clear hb);(try clear ho0))|((with_reducible refine zL (N:=12) rfl ?_);refine ybx 12 #[.int .u64 0, .int .u32 0, .slice none 0 0] 54 ?_;intro bR hg w26 hbox hb;replace aa:=yRb aa hb;replace au:=yRb au hb;have ai:=zm (hbox);have cj:=ygw hg;have ck:=ygw hg;replace HB:=ybs hb;have ak:=ynl ac hg;have al:=yng ac hg;replace ac:=ybb ac hb;have am:=ynl af hg;have ao:=yng af hg;replace af:=ybb af hb;clear hb hbox hg;have:=al.out;have:=ak.out;have:=ao.out;have:=am.out;obtain ⟨bg,bh,bi,bj,bk,bl⟩:=yc3 ai;obtain ⟨bJ,bK,bS⟩:=zT au.out;subst bS));go_upto_region 7 with (first|(go_at_call 76;(with_reducible refine (coder_halves.calls a2 bH ap _ A19.out).mono ?_);rintro e w' ⟨rfl,⟨nd,rfl⟩⟩;(try exact yww);have:=ag.out;have:=ah.out;obtain ⟨a9,ba,bb,bc,bd,bf⟩:=yc3 ac)|(go_at_call 26;(with_reducible refine (coder_Put.calls kj4 aI aJ _ _ az (wrap64 (Int.tdiv (wrap64 (a1)) ap)) (wrap64 ((wrap64 (Int.tdiv (wrap64 (a1)) ap))+1)) bH aM aN aA bI _ ?aj ?aq A21.out).mono ?_);(case aj=>exact yce (zQ aa.out).2.2);(case aq=>exact (zQ aa.out).2.1);rintro e w25 ⟨ct,rfl,ho0,hb⟩;have au:=zm (za0 (Kd.R_new' ho0 (Kd.R_lt (yr aa))) (zE yhb));replace aa:=zm (za6 (yr aa) (zW ho0) hb);replace ac:=ybb ac hb;replace af:=ybb af hb;replace HB:=ybs hb;(try clear hb);(try clear ho0))|((with_reducible refine zL (N:=12) rfl ?_);refine ybx 12 #[.int .u64 0, .int .u32 0, .slice none 0 0] 54 ?_;intro bR hg w26 hbox hb;replace aa:=yRb aa hb;replace au:=yRb au hb;have ai:=zm (hbox);have cj:=ygw hg;have ck:=ygw hg;replace HB:=ybs hb;have ak:=ynl ac hg;have al:=yng ac hg;replace ac:=ybb ac hb;have am:=ynl af hg;have ao:=yng af hg;replace af:=ybb af hb;clear hb hbox hg;have:=al.out;have:=ak.out;have:=ao.out;have:=am.out;obtain ⟨bg,bh,bi,bj,bk,bl⟩:=yc3 ai;obtain ⟨bJ,bK,bS⟩:=zT au.out;subst bS)))
  (try simp only [Act.put,za9,zb0,zb1])
  go_cut [55] (fun v55 wc => ∃ (kq : Nat) (bm : Bool),v55=.bool bm∧Aside0 (coder_PutNum.j1 kq ap (Int.tmod (wrap64 (a1)) ap) bI bm aI aJ az aM aN aA=some (r1,r2,r3,r4))∧Aside0 (kq≤kj4)∧Aside0 (Kd.R (Kd.int .u8) 5 wc w.heap.size (fun k_=>some k_≠((.slice bJ aA.length bK) : Value).ownBlock) (.slice aU az.length aV) az)∧Aside0 (Kd.R (Kd.int .u8) 5 wc w.heap.size (fun k_=>some k_≠((.slice aU az.length aV) : Value).ownBlock) (.slice bJ aA.length bK) aA)∧Aside0 (wc.heap[bF]? = some (.cells #[.int .u64 aI, .int .u32 aJ,(.slice aU az.length aV)] 54 (0,0)))∧Aside0 (wc.heap[aG]? = some (.cells #[.int .u64 0, .int .u32 0,(.slice none 0 0)] 54 (0,0)))∧Aside0 (wc.heap[bR]? = some (.cells #[.int .u64 aM, .int .u32 aN,(.slice bJ aA.length bK)] 54 (0,0)))∧Aside0 (Below w.heap.size w wc))
  case first =>
   have H:=cl.out;clear cl
   by_cases c31 : bI=0
   ·
    rw [za4 c31] at H
    obtain ⟨bp,cu⟩:=yE c31
    clear c31
    (first|rw [bp]|(simp only [i64_w,i32_w];rw [bp])|skip)
    have H' := zm H
    clear H
    go_wp2
    repeat (go_quiet (fail);try go_wp2)
    go_meet
    case rel=>exact ⟨_,(decide (ap > 1)),yq,H',⟨yom1 HJ4⟩,⟨yR1 aa ai⟩,⟨yR1 au ai⟩,⟨yk ac⟩,⟨yk af⟩,⟨ykp ai⟩,⟨yhb⟩⟩
   rw [za5 c31] at H
   obtain ⟨bp,cu⟩:=yF c31
   (first|rw [bp]|(simp only [i64_w,i32_w];rw [bp])|skip)
   have H' := zm H
   clear H
   go_wp2
   repeat (go_quiet (fail);try go_wp2)
   go_meet
   case rel=>exact ⟨_,(false),yq,H',⟨yom1 HJ4⟩,⟨yR1 aa ai⟩,⟨yR1 au ai⟩,⟨yk ac⟩,⟨yk af⟩,⟨ykp ai⟩,⟨yhb⟩⟩
  case rest =>
   clear cl
   try clear c20
   try clear cq
   try clear cr
   try clear bW
   try clear bX
   try clear bY
   try clear b6
   try clear b7
   try clear b8
   try clear a9
   try clear ba
   try clear bb
   try clear bg
   try clear bh
   try clear bi
   try clear bZ
   try clear b4
   try clear b5
   try clear b9
   try clear ca
   try clear cb
   try clear bc
   try clear bd
   try clear bf
   try clear bj
   try clear bk
   try clear bl
   obtain ⟨kq,bm,rfl,HA,cB,aa,ae,ac,af,ai,HB⟩:=hcut
   obtain ⟨bL,rfl⟩:=ysu kq (fun h=>by subst h;exact absurd HA.out (by simp [coder_PutNum.j1]))
   have H:=HA.out;clear HA
   simp only [coder_PutNum.j1] at H
   by_cases c32 : bm=true
   ·
    subst c32
    rw [za4 rfl] at H
    obtain ⟨⟨bx,bz,bA,bB⟩,A33,H⟩:=ybi H
    try dsimp only at H
    by_cases c34 : bB=0
    ·
     rw [za4 c34] at H
     obtain ⟨cv,cw⟩:=yE c34
     clear c34
     simp only [zM,zN] at H
     obtain ⟨rfl,rfl,rfl,rfl⟩:=H
     have:=al.out
     have:=ak.out
     have:=ao.out
     have:=am.out
     obtain ⟨_,_,_,_,_,_⟩:=yc3 ai
     go_wp2_with (first|(go_at_call 26;(with_reducible refine (coder_Put.calls bL aM aN _ _ aA (Int.tmod (wrap64 (a1)) ap) (wrap64 ((Int.tmod (wrap64 (a1)) ap)+1)) ap bx bz bA bB _ ?aj ?aq A33.out).mono ?_);(case aj=>exact yce (zQ ae.out).2.2);(case aq=>exact (zQ ae.out).2.1);rintro e w38 ⟨bT,rfl,ho0,hb⟩;have ay:=zm (za0 (Kd.R_new' (Kd.R_new' ho0 (Kd.R_lt (yr aa))) (Kd.R_lt (yr ae))) (zE yhb));replace aa:=zm (za6 (yr aa) (zW ho0) hb);replace ae:=zm (za6 (yr ae) (zW ho0) hb);replace ac:=ybb ac hb;replace af:=ybb af hb;replace ai:=ybb ai hb;replace HB:=ybs hb;(try clear hb);(try clear ho0);obtain ⟨_,_,_,_,_,_⟩:=yc3 ai;obtain ⟨cm,cn,bU⟩:=zT ay.out;subst bU;have:=ah.out;have:=ag.out;obtain ⟨_,_,_,_,_,_⟩:=yc3 af))
     repeat (go_quiet (first|(go_at_call 26;(with_reducible refine (coder_Put.calls bL aM aN _ _ aA (Int.tmod (wrap64 (a1)) ap) (wrap64 ((Int.tmod (wrap64 (a1)) ap)+1)) ap bx bz bA bB _ ?aj ?aq A33.out).mono ?_);(case aj=>exact yce (zQ ae.out).2.2);(case aq=>exact (zQ ae.out).2.1);rintro e w38 ⟨bT,rfl,ho0,hb⟩;have ay:=zm (za0 (Kd.R_new' (Kd.R_new' ho0 (Kd.R_lt (yr aa))) (Kd.R_lt (yr ae))) (zE yhb));replace aa:=zm (za6 (yr aa) (zW ho0) hb);replace ae:=zm (za6 (yr ae) (zW ho0) hb);replace ac:=ybb ac hb;replace af:=ybb af hb;replace ai:=ybb ai hb;replace HB:=ybs hb;(try clear hb);(try clear ho0);obtain ⟨_,_,_,_,_,_⟩:=yc3 ai;obtain ⟨cm,cn,bU⟩:=zT ay.out;subst bU;have:=ah.out;have:=ag.out;obtain ⟨_,_,_,_,_,_⟩:=yc3 af));try go_wp2_with (first|(go_at_call 26;(with_reducible refine (coder_Put.calls bL aM aN _ _ aA (Int.tmod (wrap64 (a1)) ap) (wrap64 ((Int.tmod (wrap64 (a1)) ap)+1)) ap bx bz bA bB _ ?aj ?aq A33.out).mono ?_);(case aj=>exact yce (zQ ae.out).2.2);(case aq=>exact (zQ ae.out).2.1);rintro e w38 ⟨bT,rfl,ho0,hb⟩;have ay:=zm (za0 (Kd.R_new' (Kd.R_new' ho0 (Kd.R_lt (yr aa))) (Kd.R_lt (yr ae))) (zE yhb));replace aa:=zm (za6 (yr aa) (zW ho0) hb);replace ae:=zm (za6 (yr ae) (zW ho0) hb);replace ac:=ybb ac hb;replace af:=ybb af hb;replace ai:=ybb ai hb;replace HB:=ybs hb;(try clear hb);(try clear ho0);obtain ⟨_,_,_,_,_,_⟩:=yc3 ai;obtain ⟨cm,cn,bU⟩:=zT ay.out;subst bU;have:=ah.out;have:=ag.out;obtain ⟨_,_,_,_,_,_⟩:=yc3 af)))
     refine za1 (results_ct rfl _ _ aG 54 #[.int .u64 bx, .int .u32 bz, .slice cm bA.length cn] (0,0) _ rfl (ykp af) Try.underlying54 rfl (by kernel_rfl)) rfl ?_
     exact ⟨_,ye,yR2 ay ai af,yhb⟩
    rw [za5 c34] at H
    obtain ⟨cv,cw⟩:=yF c34
    simp only [zM,zN] at H
    obtain ⟨rfl,rfl,rfl,rfl⟩:=H
    have:=al.out
    have:=ak.out
    have:=ao.out
    have:=am.out
    obtain ⟨_,_,_,_,_,_⟩:=yc3 ai
    go_wp2_with (first|(go_at_call 26;(with_reducible refine (coder_Put.calls bL aM aN _ _ aA (Int.tmod (wrap64 (a1)) ap) (wrap64 ((Int.tmod (wrap64 (a1)) ap)+1)) ap bx bz bA bB _ ?aj ?aq A33.out).mono ?_);(case aj=>exact yce (zQ ae.out).2.2);(case aq=>exact (zQ ae.out).2.1);rintro e w46 ⟨bT,rfl,ho0,hb⟩;have ay:=zm (za0 (Kd.R_new' (Kd.R_new' ho0 (Kd.R_lt (yr aa))) (Kd.R_lt (yr ae))) (zE yhb));replace aa:=zm (za6 (yr aa) (zW ho0) hb);replace ae:=zm (za6 (yr ae) (zW ho0) hb);replace ac:=ybb ac hb;replace af:=ybb af hb;replace ai:=ybb ai hb;replace HB:=ybs hb;(try clear hb);(try clear ho0);obtain ⟨_,_,_,_,_,_⟩:=yc3 ai;obtain ⟨cx,cy,bV⟩:=zT ay.out;subst bV;have:=ag.out;have:=ah.out;obtain ⟨_,_,_,_,_,_⟩:=yc3 ac;obtain ⟨_,_,_,_,_,_⟩:=yc3 af))
    repeat (go_quiet (first|(go_at_call 26;(with_reducible refine (coder_Put.calls bL aM aN _ _ aA (Int.tmod (wrap64 (a1)) ap) (wrap64 ((Int.tmod (wrap64 (a1)) ap)+1)) ap bx bz bA bB _ ?aj ?aq A33.out).mono ?_);(case aj=>exact yce (zQ ae.out).2.2);(case aq=>exact (zQ ae.out).2.1);rintro e w46 ⟨bT,rfl,ho0,hb⟩;have ay:=zm (za0 (Kd.R_new' (Kd.R_new' ho0 (Kd.R_lt (yr aa))) (Kd.R_lt (yr ae))) (zE yhb));replace aa:=zm (za6 (yr aa) (zW ho0) hb);replace ae:=zm (za6 (yr ae) (zW ho0) hb);replace ac:=ybb ac hb;replace af:=ybb af hb;replace ai:=ybb ai hb;replace HB:=ybs hb;(try clear hb);(try clear ho0);obtain ⟨_,_,_,_,_,_⟩:=yc3 ai;obtain ⟨cx,cy,bV⟩:=zT ay.out;subst bV;have:=ag.out;have:=ah.out;obtain ⟨_,_,_,_,_,_⟩:=yc3 ac;obtain ⟨_,_,_,_,_,_⟩:=yc3 af));try go_wp2_with (first|(go_at_call 26;(with_reducible refine (coder_Put.calls bL aM aN _ _ aA (Int.tmod (wrap64 (a1)) ap) (wrap64 ((Int.tmod (wrap64 (a1)) ap)+1)) ap bx bz bA bB _ ?aj ?aq A33.out).mono ?_);(case aj=>exact yce (zQ ae.out).2.2);(case aq=>exact (zQ ae.out).2.1);rintro e w46 ⟨bT,rfl,ho0,hb⟩;have ay:=zm (za0 (Kd.R_new' (Kd.R_new' ho0 (Kd.R_lt (yr aa))) (Kd.R_lt (yr ae))) (zE yhb));replace aa:=zm (za6 (yr aa) (zW ho0) hb);replace ae:=zm (za6 (yr ae) (zW ho0) hb);replace ac:=ybb ac hb;replace af:=ybb af hb;replace ai:=ybb ai hb;replace HB:=ybs hb;(try clear hb);(try clear ho0);obtain ⟨_,_,_,_,_,_⟩:=yc3 ai;obtain ⟨cx,cy,bV⟩:=zT ay.out;subst bV;have:=ag.out;have:=ah.out;obtain ⟨_,_,_,_,_,_⟩:=yc3 ac;obtain ⟨_,_,_,_,_,_⟩:=yc3 af)))
    refine za1 (results_ct rfl _ _ aG 54 #[.int .u64 aI, .int .u32 aJ, .slice aU az.length aV] (0,0) _ rfl (ykp af) Try.underlying54 rfl (by kernel_rfl)) rfl ?_
    exact ⟨_,ye,yR2 aa ai af,yhb⟩
   replace c32:=za3.mpr c32
   subst c32
   rw [ynf] at H
   by_cases c52 : bI=0
   ·
    rw [za4 c52] at H
    obtain ⟨cz,cA⟩:=yE c52
    clear c52
    simp only [zM,zN] at H
    obtain ⟨rfl,rfl,rfl,rfl⟩:=H
    have:=al.out
    have:=ak.out
    have:=ao.out
    have:=am.out
    obtain ⟨_,_,_,_,_,_⟩:=yc3 ai
    have:=ah.out
    have:=ag.out
    obtain ⟨_,_,_,_,_,_⟩:=yc3 af
    go_wp2
    repeat (go_quiet (fail);try go_wp2)
    refine za1 (results_ct rfl _ _ aG 54 #[.int .u64 aM, .int .u32 aN, .slice bJ aA.length bK] (0,0) _ rfl (ykp af) Try.underlying54 rfl (by kernel_rfl)) rfl ?_
    exact ⟨_,ye,yR1 ae af,yhb⟩
   rw [za5 c52] at H
   obtain ⟨cz,cA⟩:=yF c52
   simp only [zM,zN] at H
   obtain ⟨rfl,rfl,rfl,rfl⟩:=H
   have:=ag.out
   have:=ah.out
   have:=ak.out
   have:=al.out
   obtain ⟨_,_,_,_,_,_⟩:=yc3 ac
   have:=am.out
   have:=ao.out
   obtain ⟨_,_,_,_,_,_⟩:=yc3 af
   go_wp2
   repeat (go_quiet (fail);try go_wp2)
   refine za1 (results_ct rfl _ _ aG 54 #[.int .u64 aI, .int .u32 aJ, .slice aU az.length aV] (0,0) _ rfl (ykp af) Try.underlying54 rfl (by kernel_rfl)) rfl ?_
   exact ⟨_,ye,yR1 aa af,yhb⟩
def gain_put.j0 : Nat→Int→Int→Bool→Int→Int→List Int→Option (Int × Int × List Int × Int)
 | 0,_,_,_,_,_,_=>none
 | k+1,x1,x10,x23,aE,aG,aH=>if x23=true then ((coder_Put.f k aE aG aH (wrap64 (x10+3)) (wrap64 ((wrap64 (x10+3))+1)) 8).bind fun aI=>(some (aI.1,aI.2.1,aI.2.2.1,aI.2.2.2))) else ((coder_Put.f k aE aG aH 7 8 8).bind fun au=>(if au.2.2.2=0 then ((coder_PutNum.f k au.1 au.2.1 au.2.2.1 (IntKind.u64.wrap (x1)) 45).bind fun aJ=>(some (aJ.1,aJ.2.1,aJ.2.2.1,aJ.2.2.2))) else (some (au.1,au.2.1,au.2.2.1,au.2.2.2))))
def gain_put.f (k : Nat) (ai : Int) (aj : Int) (ae : List Int) (a1 : Int) (a2 : Int) (a3 : Bool) : Option (Int × Int × List Int × Int):=if a3=true then ((coder_PutNum.f k ai aj ae (IntKind.u64.wrap (a1)) 45).bind fun aK=>(some (aK.1,aK.2.1,aK.2.2.1,aK.2.2.2))) else (if (wrap64 (a1 - a2)) ≥ (-3) then (gain_put.j0 k a1 (wrap64 (a1 - a2)) (decide ((wrap64 (a1 - a2))≤3)) ai aj ae) else (gain_put.j0 k a1 (wrap64 (a1 - a2)) false ai aj ae))
theorem gain_put.mono_l : ∀ k,(∀ y0 y1 y2 y3 y4 y5,LeO (gain_put.j0 k y0 y1 y2 y3 y4 y5) (gain_put.j0 (k+1) y0 y1 y2 y3 y4 y5))
 | 0=>fun _ _ _ _ _ _ r h=>by simp [gain_put.j0] at h
 | k+1=>by
  have ih0:=gain_put.mono_l k
  ·
   intro y0 y1 y2 y3 y4 y5
   unfold gain_put.j0
   have i0:=@coder_Put.mono;have i1:=@coder_PutNum.mono
   exact yLm
theorem gain_put.mono : ∀ a0 a1 a2 a3 a4 a5 k,LeO (gain_put.f k a0 a1 a2 a3 a4 a5) (gain_put.f (k+1) a0 a1 a2 a3 a4 a5):=by
 intro a0 a1 a2 a3 a4 a5 k
 have ih0:=gain_put.mono_l k
 unfold gain_put.f
 have i0:=@coder_Put.mono;have i1:=@coder_PutNum.mono
 exact yLm
theorem gain_put.calls (k : Nat) (ai : Int) (aj : Int) (aw : Option Addr) (ax : Nat) (ae : List Int) (a1 : Int) (a2 : Int) (a3 : Bool) (r1 : Int) (r2 : Int) (r3 : List Int) (r4 : Int) (w : World) (hr0_2 : Kd.C (Kd.int .u8) w aw ae.length ae) (hc0_2 : ae.length≤ax) (h : gain_put.f k ai aj ae a1 a2 a3=some (r1,r2,r3,r4)) :
  Calls Try.prog 67 #[.agg #[.int .u64 ai, .int .u32 aj, .slice aw ae.length ax], .int .i64 a1, .int .i64 a2, .bool a3] w fun e w' => ∃ v2_ : Value,e=.returned (.tuple #[.agg #[.int .u64 r1, .int .u32 r2,v2_], .int .i64 r4])∧Kd.R (Kd.int .u8) 5 w' w.heap.size (fun _=>True) v2_ r3∧Below w.heap.size w w' := by
 have hu54:=Try.underlying54;have aM:=zm hr0_2;have aN:=zm hc0_2;clear hr0_2 hc0_2;have HB:=zm (zY w.heap.size w);have H:=h
 unfold gain_put.f at H
 clear h
 by_cases c5 : a3=true
 ·
  subst c5
  rw [za4 rfl] at H
  obtain ⟨⟨bm,bn,bo,bG⟩,A6,H⟩:=ybi H
  try dsimp only at H
  simp only [zM,zN] at H
  obtain ⟨rfl,rfl,rfl,rfl⟩:=H
  go_enter Try.func67,Try.ntmps67
  go_wp2_with (first|((with_reducible refine zL (N:=4) rfl ?_);refine ybx 4 #[.int .u64 ai, .int .u32 aj, .slice aw ae.length ax] 54 ?_;intro aQ hg w7 hbox hb;have aa:=zm (hbox);have bp:=ygw hg;have bq:=ygw hg;replace HB:=ybs hb;clear hb hbox hg)|((with_reducible refine zL (N:=8) rfl ?_);refine ybx 8 #[.int .u64 0, .int .u32 0, .slice none 0 0] 54 ?_;intro av hg w8 hbox hb;have ac:=zm (hbox);have br:=ygw hg;have bs:=ygw hg;replace HB:=ybs hb;have af:=ynl aa hg;have ag:=yng aa hg;replace aa:=ybb aa hb;clear hb hbox hg;have:=af.out;have:=ag.out;obtain ⟨aT,aU,aV,aW,aX,aY⟩:=yc3 aa)|((with_reducible refine zK (f:=34) rfl ?_);refine ygl 46 Try.func34 #[.agg #[.int .u64 ai, .int .u32 aj, .slice aw ae.length ax], .int .u64 (IntKind.u64.wrap (a1)), .int .u64 45] ?_;(with_reducible refine (coder_PutNum.calls k ai aj _ _ ae (IntKind.u64.wrap (a1)) 45 bm bn bo bG _ ?ak aN.out A6.out).mono ?_);(case ak=>exact ycb aM);rintro e w11 ⟨bX,rfl,ho0,hb⟩;refine ⟨_,rfl, ?_⟩;have bf:=zm (za0 ho0 (zE yhb));replace aa:=ybb aa hb;replace ac:=ybb ac hb;replace HB:=ybs hb;(try clear hb);(try clear ho0);obtain ⟨aZ,a7,a8,a9,ba,bb⟩:=yc3 ac;obtain ⟨bH,bI,bJ⟩:=zT bf.out;subst bJ))
  refine za1 (results_ct rfl _ _ av 54 #[.int .u64 bm, .int .u32 bn, .slice bH bo.length bI] (0,0) _ rfl (ykp ac) Try.underlying54 rfl (by kernel_rfl)) rfl ?_
  exact ⟨_,ye,yR1 bf ac,yhb⟩
 replace c5:=za3.mpr c5
 subst c5
 rw [ynf] at H
 have bj:=zm H;clear H
 go_enter Try.func67,Try.ntmps67
 go_upto_region 3 with (first|((with_reducible refine zL (N:=4) rfl ?_);refine ybx 4 #[.int .u64 ai, .int .u32 aj, .slice aw ae.length ax] 54 ?_;intro aQ hg w15 hbox hb;have aa:=zm (hbox);have bp:=ygw hg;have bq:=ygw hg;replace HB:=ybs hb;clear hb hbox hg)|((with_reducible refine zL (N:=8) rfl ?_);refine ybx 8 #[.int .u64 0, .int .u32 0, .slice none 0 0] 54 ?_;intro av hg w16 hbox hb;have ac:=zm (hbox);have br:=ygw hg;have bs:=ygw hg;replace HB:=ybs hb;have af:=ynl aa hg;have ag:=yng aa hg;replace aa:=ybb aa hb;clear hb hbox hg))
 (try simp only [Act.put,za9,zb0,zb1])
 go_cut [23] (fun v23 wc => ∃ (kq : Nat) (ay : Bool),v23=.bool ay∧Aside0 (gain_put.j0 kq a1 (wrap64 (a1 - a2)) ay ai aj ae=some (r1,r2,r3,r4))∧Aside0 (kq≤k)∧Aside0 (wc.heap[aQ]? = some (.cells #[.int .u64 ai, .int .u32 aj,(.slice aw ae.length ax)] 54 (0,0)))∧Aside0 (wc.heap[av]? = some (.cells #[.int .u64 0, .int .u32 0,(.slice none 0 0)] 54 (0,0)))∧Aside0 (Below w.heap.size w wc))
 case first =>
  have H:=bj.out;clear bj
  replace H:=yIl H
  obtain ⟨az,H⟩ | ⟨az,H⟩:=H
  ·
   (first|rw [az]|(simp only [i64_w,i32_w];rw [az])|skip)
   have H' := zm H
   clear H
   go_wp2
   go_meet
   case rel=>exact ⟨_,(decide ((wrap64 (a1 - a2))≤3)),yq,H',⟨yo⟩,⟨yk aa⟩,⟨yk ac⟩,⟨yhb⟩⟩
  (first|rw [az]|(simp only [i64_w,i32_w];rw [az])|skip)
  have H' := zm H
  clear H
  go_wp2
  go_meet
  case rel=>exact ⟨_,(false),yq,H',⟨yo⟩,⟨yk aa⟩,⟨yk ac⟩,⟨yhb⟩⟩
 case rest =>
  clear bj
  try clear aT
  try clear aU
  try clear aV
  try clear aZ
  try clear a7
  try clear a8
  try clear aW
  try clear aX
  try clear aY
  try clear a9
  try clear ba
  try clear bb
  obtain ⟨kq,ay,rfl,HA,bY,aa,ac,HB⟩:=hcut
  obtain ⟨bc,rfl⟩:=ysu kq (fun h=>by subst h;exact absurd HA.out (by simp [gain_put.j0]))
  have H:=HA.out;clear HA
  simp only [gain_put.j0] at H
  by_cases c18 : ay=true
  ·
   subst c18
   rw [za4 rfl] at H
   obtain ⟨⟨bu,bv,bw,bK⟩,A19,H⟩:=ybi H
   try dsimp only at H
   simp only [zM,zN] at H
   obtain ⟨rfl,rfl,rfl,rfl⟩:=H
   have:=af.out
   have:=ag.out
   obtain ⟨_,_,_,_,_,_⟩:=yc3 aa
   go_wp2_with (first|((with_reducible refine zK (f:=26) rfl ?_);refine ygl 30 Try.func26 #[.agg #[.int .u64 ai, .int .u32 aj, .slice aw ae.length ax], .int .i64 (wrap64 ((wrap64 (a1 - a2))+3)), .int .i64 (wrap64 ((wrap64 ((wrap64 (a1 - a2))+3))+1)), .int .i64 8] ?_;(with_reducible refine (coder_Put.calls bc ai aj _ _ ae (wrap64 ((wrap64 (a1 - a2))+3)) (wrap64 ((wrap64 ((wrap64 (a1 - a2))+3))+1)) 8 bu bv bw bK _ ?ak aN.out A19.out).mono ?_);(case ak=>exact ycb aM);rintro e w22 ⟨bZ,rfl,ho0,hb⟩;refine ⟨_,rfl, ?_⟩;have bg:=zm (za0 ho0 (zE yhb));replace aa:=ybb aa hb;replace ac:=ybb ac hb;replace HB:=ybs hb;(try clear hb);(try clear ho0);obtain ⟨_,_,_,_,_,_⟩:=yc3 ac;obtain ⟨bL,bM,bN⟩:=zT bg.out;subst bN))
   refine za1 (results_ct rfl _ _ av 54 #[.int .u64 bu, .int .u32 bv, .slice bL bw.length bM] (0,0) _ rfl (ykp ac) Try.underlying54 rfl (by kernel_rfl)) rfl ?_
   exact ⟨_,ye,yR1 bg ac,yhb⟩
  replace c18:=za3.mpr c18
  subst c18
  rw [ynf] at H
  obtain ⟨⟨aC,aD,aA,bk⟩,A25,H⟩:=ybi H
  try dsimp only at H
  by_cases c26 : bk=0
  ·
   rw [za4 c26] at H
   obtain ⟨bx,bz⟩:=yE c26
   clear c26
   obtain ⟨⟨bA,bB,bC,bO⟩,A27,H⟩:=ybi H
   try dsimp only at H
   simp only [zM,zN] at H
   obtain ⟨rfl,rfl,rfl,rfl⟩:=H
   have:=af.out
   have:=ag.out
   obtain ⟨_,_,_,_,_,_⟩:=yc3 aa
   go_wp2_with (first|((with_reducible refine zK (f:=26) rfl ?_);refine ygl 35 Try.func26 #[.agg #[.int .u64 ai, .int .u32 aj, .slice aw ae.length ax], .int .i64 7, .int .i64 8, .int .i64 8] ?_;(with_reducible refine (coder_Put.calls bc ai aj _ _ ae 7 8 8 aC aD aA bk _ ?ak aN.out A25.out).mono ?_);(case ak=>exact ycb aM);rintro e w30 ⟨bP,rfl,ho0,hb⟩;refine ⟨_,rfl, ?_⟩;have ah:=zm (za0 ho0 (zE yhb));replace aa:=ybb aa hb;replace ac:=ybb ac hb;replace HB:=ybs hb;(try clear hb);(try clear ho0))|((with_reducible refine zL (N:=11) rfl ?_);refine ybx 11 #[.int .u64 0, .int .u32 0, .slice none 0 0] 54 ?_;intro bh hg w31 hbox hb;replace ah:=yRb ah hb;have al:=zm (hbox);have bD:=ygw hg;have bE:=ygw hg;replace HB:=ybs hb;have am:=ynl aa hg;have ao:=yng aa hg;replace aa:=ybb aa hb;have ap:=ynl ac hg;have aq:=yng ac hg;replace ac:=ybb ac hb;clear hb hbox hg;have:=ao.out;have:=am.out;have:=aq.out;have:=ap.out;obtain ⟨_,_,_,_,_,_⟩:=yc3 al;obtain ⟨bl,bd,bQ⟩:=zT ah.out;subst bQ;obtain ⟨_,_,_,_,_,_⟩:=yc3 aa)|((with_reducible refine zK (f:=34) rfl ?_);refine ygl 46 Try.func34 #[.agg #[.int .u64 aC, .int .u32 aD, .slice bl aA.length bd], .int .u64 (IntKind.u64.wrap (a1)), .int .u64 45] ?_;(with_reducible refine (coder_PutNum.calls bc aC aD _ _ aA (IntKind.u64.wrap (a1)) 45 bA bB bC bO _ ?ak ?bF A27.out).mono ?_);(case ak=>refine (zQ (e:=5) (base:=w.heap.size) (ok:=fun k_=>True) (n:=aA.length) (c:=bd) ?_).2.2;exact (yR2 ah al aa));(case bF=>exact (zQ ah.out).2.1);rintro e w37 ⟨b4,rfl,ho0,hb⟩;refine ⟨_,rfl, ?_⟩;have bi:=zm (za0 (Kd.R_new' ho0 (Kd.R_lt (yR2 ah al aa))) (zE yhb));replace ah:=zm (za6 (yR2 ah al aa) (zW ho0) hb);replace aa:=zm (zF (g:=aQ) (o:=.cells #[.int .u64 aC, .int .u32 aD, .slice bl aA.length bd] 54 (0,0)) (ykp aa) hb);replace ac:=ybb ac hb;replace al:=zm (zF (g:=bh) (o:=.cells #[.int .u64 aC, .int .u32 aD, .slice bl aA.length bd] 54 (0,0)) (ykp al) hb);replace HB:=ybs hb;(try clear hb);(try clear ho0);obtain ⟨_,_,_,_,_,_⟩:=yc3 ac;obtain ⟨bR,bS,bT⟩:=zT bi.out;subst bT))
   refine za1 (results_ct rfl _ _ av 54 #[.int .u64 bA, .int .u32 bB, .slice bR bC.length bS] (0,0) _ rfl (ykp ac) Try.underlying54 rfl (by kernel_rfl)) rfl ?_
   exact ⟨_,ye,yR1 bi ac,yhb⟩
  rw [za5 c26] at H
  obtain ⟨bx,bz⟩:=yF c26
  simp only [zM,zN] at H
  obtain ⟨rfl,rfl,rfl,rfl⟩:=H
  have:=af.out
  have:=ag.out
  obtain ⟨_,_,_,_,_,_⟩:=yc3 aa
  go_wp2_with (first|((with_reducible refine zK (f:=26) rfl ?_);refine ygl 35 Try.func26 #[.agg #[.int .u64 ai, .int .u32 aj, .slice aw ae.length ax], .int .i64 7, .int .i64 8, .int .i64 8] ?_;(with_reducible refine (coder_Put.calls bc ai aj _ _ ae 7 8 8 aC aD aA bk _ ?ak aN.out A25.out).mono ?_);(case ak=>exact ycb aM);rintro e w42 ⟨bP,rfl,ho0,hb⟩;refine ⟨_,rfl, ?_⟩;have ah:=zm (za0 ho0 (zE yhb));replace aa:=ybb aa hb;replace ac:=ybb ac hb;replace HB:=ybs hb;(try clear hb);(try clear ho0))|((with_reducible refine zL (N:=11) rfl ?_);refine ybx 11 #[.int .u64 0, .int .u32 0, .slice none 0 0] 54 ?_;intro bh hg w43 hbox hb;replace ah:=yRb ah hb;have al:=zm (hbox);have bD:=ygw hg;have bE:=ygw hg;replace HB:=ybs hb;have am:=ynl aa hg;have ao:=yng aa hg;replace aa:=ybb aa hb;have ap:=ynl ac hg;have aq:=yng ac hg;replace ac:=ybb ac hb;clear hb hbox hg;have:=ao.out;have:=am.out;have:=aq.out;have:=ap.out;obtain ⟨_,_,_,_,_,_⟩:=yc3 al;obtain ⟨bU,bV,bW⟩:=zT ah.out;subst bW;obtain ⟨_,_,_,_,_,_⟩:=yc3 ac))
  refine za1 (results_ct rfl _ _ av 54 #[.int .u64 aC, .int .u32 aD, .slice bU aA.length bV] (0,0) _ rfl (ykp ac) Try.underlying54 rfl (by kernel_rfl)) rfl ?_
  exact ⟨_,ye,yR2 ah al ac,yhb⟩
mutual
def gain_Put.j0 : Nat→List Int→List Int→Bool→Bool→Int→Int→List Int→Int→Int→List Int→Option (Int × Int × List Int × Int)
 | 0,_,_,_,_,_,_,_,_,_,_=>none
 | k+1,x1,x2,x3,x33,ch,ci,cj,aX,aY,aZ=>if x33=true then (some (aX,aY,aZ,1)) else (gain_Put.l0 k x1 x2 x3 0 aX aY aZ ch ci cj)
def gain_Put.l0 : Nat→List Int→List Int→Bool→Int→Int→Int→List Int→Int→Int→List Int→Option (Int × Int × List Int × Int)
 | 0,_,_,_,_,_,_,_,_,_,_=>none
 | k+1,x1,x2,x3,x36,aX,aY,aZ,bo,bp,bq=>if x36 < 5 then (if x3=true then (gain_Put.j2 k x1 x2 x3 x36 0 x36 aX aY aZ bo bp bq) else (if 0≤x36 then (if x36 < (x2.length : Int) then (gain_Put.j2 k x1 x2 x3 x36 (rd x2 x36) x36 aX aY aZ bo bp bq) else (none)) else (none))) else (some (bo,bp,bq,0))
def gain_Put.j2 : Nat→List Int→List Int→Bool→Int→Int→Int→Int→Int→List Int→Int→Int→List Int→Option (Int × Int × List Int × Int)
 | 0,_,_,_,_,_,_,_,_,_,_,_,_=>none
 | k+1,x1,x2,x3,x13,x14,x36,aX,aY,aZ,bo,bp,bq=>if 0≤x13 then (if x13 < (x1.length : Int) then ((gain_put.f k bo bp bq (rd x1 x13) x14 x3).bind fun bH=>(if bH.2.2.2=0 then (gain_Put.l0 k x1 x2 x3 (wrap64 (x36+1)) aX aY aZ bH.1 bH.2.1 bH.2.2.1) else (some (aX,aY,aZ,bH.2.2.2)))) else (none)) else (none)
end
def gain_Put.f (k : Nat) (bb : Int) (bc : Int) (aH : List Int) (l1 : List Int) (l2 : List Int) (a3 : Bool) : Option (Int × Int × List Int × Int):=(coder_Put.f k bb bc aH 0 1 0).bind fun br=>((gain_Right.f k l1).bind fun cY=>(if cY=true then (if a3=true then (gain_Put.j0 k l1 l2 a3 false bb bc aH br.1 br.2.1 br.2.2.1) else ((gain_Right.f k l2).bind fun ck=>(gain_Put.j0 k l1 l2 a3 (!ck) bb bc aH br.1 br.2.1 br.2.2.1))) else (gain_Put.j0 k l1 l2 a3 true bb bc aH br.1 br.2.1 br.2.2.1)))
theorem gain_Put.mono_l : ∀ k,(∀ y0 y1 y2 y3 y4 y5 y6 y7 y8 y9,LeO (gain_Put.j0 k y0 y1 y2 y3 y4 y5 y6 y7 y8 y9) (gain_Put.j0 (k+1) y0 y1 y2 y3 y4 y5 y6 y7 y8 y9))∧(∀ y0 y1 y2 y3 y4 y5 y6 y7 y8 y9,LeO (gain_Put.l0 k y0 y1 y2 y3 y4 y5 y6 y7 y8 y9) (gain_Put.l0 (k+1) y0 y1 y2 y3 y4 y5 y6 y7 y8 y9))∧(∀ y0 y1 y2 y3 y4 y5 y6 y7 y8 y9 y10 y11,LeO (gain_Put.j2 k y0 y1 y2 y3 y4 y5 y6 y7 y8 y9 y10 y11) (gain_Put.j2 (k+1) y0 y1 y2 y3 y4 y5 y6 y7 y8 y9 y10 y11))
 | 0=>⟨fun _ _ _ _ _ _ _ _ _ _ r h=>by simp [gain_Put.j0] at h,fun _ _ _ _ _ _ _ _ _ _ r h=>by simp [gain_Put.l0] at h,fun _ _ _ _ _ _ _ _ _ _ _ _ r h=>by simp [gain_Put.j2] at h⟩
 | k+1=>by
  obtain ⟨ih0,ih1,ih2⟩:=gain_Put.mono_l k
  have i0:=@coder_Put.mono;have i1:=@gain_Right.mono;have i2:=@gain_put.mono
  refine ⟨?_, ?_, ?_⟩
  ·
   intro y0 y1 y2 y3 y4 y5 y6 y7 y8 y9
   unfold gain_Put.j0
   exact yLm
  ·
   intro y0 y1 y2 y3 y4 y5 y6 y7 y8 y9
   unfold gain_Put.l0
   exact yLm
  intro y0 y1 y2 y3 y4 y5 y6 y7 y8 y9 y10 y11
  unfold gain_Put.j2
  exact yLm
theorem gain_Put.mono : ∀ a0 a1 a2 a3 a4 a5 k,LeO (gain_Put.f k a0 a1 a2 a3 a4 a5) (gain_Put.f (k+1) a0 a1 a2 a3 a4 a5):=by
 intro a0 a1 a2 a3 a4 a5 k
 obtain ⟨ih0,ih1,ih2⟩:=gain_Put.mono_l k
 have i0:=@coder_Put.mono;have i1:=@gain_Right.mono;have i2:=@gain_put.mono
 unfold gain_Put.f
 exact yLm
def gain_Put.T11 : Bool × List (List Nat × List Nat):=(true, [([], []),([], []),([], []),([1,2], [1,2]),([3], [3]),([], []),([], []),([0,4,5,6], [0,4,5,6]),([7], [7]),([8], [8]),([8], [8]),([], []),([11,9,7,0,1,2,3,4,5,6,7,8,9,11], [9,11]),([10,12,0,1,2,3,4,5,6,7,8,9,10,11,12], [10])])
def gain_Put.B11 : List Nat := [0,0,0,6,14,0,0,127,255,511,511,0,3071,8191]
theorem gain_Put.tab11 : rtab .any (opsOf Try.f28 11)=gain_Put.T11:=by kernel_rfl
theorem gain_Put.bits11 : waitsOk gain_Put.T11.2 gain_Put.B11=true:=by kernel_rfl
theorem gain_Put.calls (k : Nat) (bb : Int) (bc : Int) (ba : Nat→Prop) (bm : Option Addr) (bn : Nat) (aH : List Int) (A1 : Option Addr) (c1 : Nat) (l1 : List Int) (A2 : Option Addr) (c2 : Nat) (l2 : List Int) (a3 : Bool) (r1 : Int) (r2 : Int) (r3 : List Int) (r4 : Int) (w : World) (dd : Kd.V (Kd.int .u8) 5 w w.heap.size (fun k_=>ba k_) (.slice bm aH.length bn) aH) (hr1 : Kd.C (Kd.int .i64) w A1 l1.length l1) (hc1 : l1.length≤c1) (hr2 : Kd.C (Kd.int .i64) w A2 l2.length l2) (hc2 : l2.length≤c2) (h : gain_Put.f k bb bc aH l1 l2 a3=some (r1,r2,r3,r4)) :
  Calls Try.prog 28 #[.agg #[.int .u64 bb, .int .u32 bc, .slice bm aH.length bn], .slice A1 l1.length c1, .slice A2 l2.length c2, .bool a3] w fun e w' => ∃ v2_ : Value,e=.returned (.tuple #[.agg #[.int .u64 r1, .int .u32 r2,v2_], .int .i64 r4])∧Kd.V (Kd.int .u8) 5 w' w.heap.size (fun k_=>(ba k_∨w.heap.size≤k_)) v2_ r3∧Below w.heap.size w w' := by
 have hu54:=Try.underlying54
 have a7:=zm (show Kd.V (Kd.int .u8) 5 w w.heap.size (fun k_=>(ba k_∨w.heap.size≤k_)) (.slice bm aH.length bn) aH from zy dd (fun k_ hk => .inl hk))
 have HR1:=zm hr1;have HC1:=zm hc1;clear hr1 hc1;have HR2:=zm hr2;have HC2:=zm hc2;clear hr2 hc2;have HB:=zm (zY w.heap.size w);have H:=h
 unfold gain_Put.f at H
 clear h
 obtain ⟨⟨bz,bA,aG,dj⟩,A5,H⟩:=ybi H
 try dsimp only at H
 have HC6:=zm H;clear H
 go_enter Try.func28,Try.ntmps28
 go_upto_region 2 with (first|((with_reducible refine zL (N:=4) rfl ?_);refine ybx 4 #[.int .u64 bb, .int .u32 bc, .slice bm aH.length bn] 54 ?_;intro aI hg w7 hbox hb;replace a7:=yVe a7 hg hb;have ah:=zm (hbox);have dy:=ygw hg;have dz:=ygw hg;replace HB:=ybs hb;clear hb hbox hg)|((with_reducible refine zL (N:=8) rfl ?_);refine ybx 8 #[.int .u64 0, .int .u32 0, .slice none 0 0] 54 ?_;intro aE hg w8 hbox hb;replace a7:=yVe a7 hg hb;have ag:=zm (hbox);have dA:=ygw hg;have dB:=ygw hg;replace HB:=ybs hb;have a8:=ynl ah hg;have a9:=yng ah hg;replace ah:=ybb ah hb;clear hb hbox hg;have:=a8.out;have:=a9.out;obtain ⟨cl,cm,cn,co,cp,cq⟩:=yc3 ah)|((with_reducible refine zK (f:=26) rfl ?_);refine ygl 19 Try.func26 #[.agg #[.int .u64 bb, .int .u32 bc, .slice bm aH.length bn], .int .i64 0, .int .i64 1, .int .i64 0] ?_;(with_reducible refine (coder_Put.calls k bb bc _ _ aH 0 1 0 bz bA aG dj _ ?aK ?bs A5.out).mono ?_);(case aK=>exact yce (zR a7.out).2.2);(case bs=>exact (zR a7.out).2.1);rintro e w11 ⟨dK,rfl,ho0,hb⟩;refine ⟨_,rfl, ?_⟩;replace a7:=zm (za7 (yr a7) (zW ho0) hb);have bF:=zm (za0 (Kd.R_newM (M:=fun k_=>(w.heap.size≤k_)) ho0 (zE yhb) (fun k_ h_=>h_)) (zE yhb));replace ah:=ybb ah hb;replace ag:=ybb ag hb;replace HB:=ybs hb;(try clear hb);(try clear ho0))|((with_reducible refine zL (N:=10) rfl ?_);refine ybx 10 #[.int .u64 0, .int .u32 0, .slice none 0 0] 54 ?_;intro aJ hg w12 hbox hb;replace a7:=yVe a7 hg hb;replace bF:=yRb bF hb;have ai:=zm (hbox);have dC:=ygw hg;have dD:=ygw hg;replace HB:=ybs hb;have bd:=ynl ah hg;have bf:=yng ah hg;replace ah:=ybb ah hb;have bg:=ynl ag hg;have bh:=yng ag hg;replace ag:=ybb ag hb;clear hb hbox hg;have:=bf.out;have:=bd.out;have:=bh.out;have:=bg.out;obtain ⟨cr,ct,cu,cv,cw,cx⟩:=yc3 ai;obtain ⟨aM,aN,dk⟩:=zT bF.out;subst dk))
 (try simp only [Act.put,za9,zb0,zb1])
 go_cut [33] (fun v33 wc => ∃ (kq : Nat) (bJ : Bool),v33=.bool bJ∧Aside0 (gain_Put.j0 kq l1 l2 a3 bJ bb bc aH bz bA aG=some (r1,r2,r3,r4))∧Aside0 (kq≤k)∧Aside0 (Kd.V (Kd.int .u8) 5 wc w.heap.size (fun k_=>(ba k_∨w.heap.size≤k_)∧some k_≠((.slice aM aG.length aN) : Value).ownBlock∧k_≠aI∧k_≠aE∧k_≠aJ) (.slice bm aH.length bn) aH)∧Aside0 (Kd.R (Kd.int .u8) 5 wc w.heap.size (fun k_=>(w.heap.size≤k_)) (.slice aM aG.length aN) aG)∧Aside0 (wc.heap[aI]? = some (.cells #[.int .u64 bb, .int .u32 bc,(.slice bm aH.length bn)] 54 (0,0)))∧Aside0 (wc.heap[aE]? = some (.cells #[.int .u64 0, .int .u32 0,(.slice none 0 0)] 54 (0,0)))∧Aside0 (wc.heap[aJ]? = some (.cells #[.int .u64 bz, .int .u32 bA,(.slice aM aG.length aN)] 54 (0,0)))∧Aside0 (Below w.heap.size w wc))
 case first =>
  have H:=HC6.out;clear HC6
  obtain ⟨cY,A17,H⟩:=ybi H
  by_cases c18 : cY=true
  ·
   subst c18
   rw [za4 rfl] at H
   by_cases c19 : a3=true
   ·
    subst c19
    rw [za4 rfl] at H
    have H' := zm H
    clear H
    go_wp2_with (first|((with_reducible refine zK (f:=62) rfl ?_);refine ygl 23 Try.func62 #[.slice A1 l1.length c1] ?_;(with_reducible refine (gain_Right.calls k _ _ l1 true _ ?aK HC1.out A17.out).mono ?_);(case aK=>exact Kd.C_below HR1.out yhb);rintro e w' ⟨rfl,⟨nd,rfl⟩⟩;refine ⟨_,rfl, ?_⟩))
    go_meet
    case rel=>exact ⟨_,(false),yq,H',⟨yo⟩,⟨yV0 a7⟩,⟨yR1 bF ai⟩,⟨yk ah⟩,⟨yk ag⟩,⟨ykp ai⟩,⟨yhb⟩⟩
   replace c19:=za3.mpr c19
   subst c19
   rw [ynf] at H
   obtain ⟨ck,A20,H⟩:=ybi H
   have H' := zm H
   clear H
   go_wp2_with (first|((with_reducible refine zK (f:=62) rfl ?_);refine ygl 23 Try.func62 #[.slice A1 l1.length c1] ?_;(with_reducible refine (gain_Right.calls k _ _ l1 true _ ?aK HC1.out A17.out).mono ?_);(case aK=>exact Kd.C_below HR1.out yhb);rintro e w' ⟨rfl,⟨nd,rfl⟩⟩;refine ⟨_,rfl, ?_⟩)|(go_at_call 62;(with_reducible refine (gain_Right.calls k _ _ l2 ck _ ?aK HC2.out A20.out).mono ?_);(case aK=>exact Kd.C_below HR2.out yhb);rintro e w' ⟨rfl,⟨nd,rfl⟩⟩))
   go_meet
   case rel=>exact ⟨_,(!ck),yq,H',⟨yo⟩,⟨yV0 a7⟩,⟨yR1 bF ai⟩,⟨yk ah⟩,⟨yk ag⟩,⟨ykp ai⟩,⟨yhb⟩⟩
  replace c18:=za3.mpr c18
  subst c18
  rw [ynf] at H
  have H' := zm H
  clear H
  go_wp2_with (first|((with_reducible refine zK (f:=62) rfl ?_);refine ygl 23 Try.func62 #[.slice A1 l1.length c1] ?_;(with_reducible refine (gain_Right.calls k _ _ l1 false _ ?aK HC1.out A17.out).mono ?_);(case aK=>exact Kd.C_below HR1.out yhb);rintro e w' ⟨rfl,⟨nd,rfl⟩⟩;refine ⟨_,rfl, ?_⟩))
  go_meet
  case rel=>exact ⟨_,(true),yq,H',⟨yo⟩,⟨yV0 a7⟩,⟨yR1 bF ai⟩,⟨yk ah⟩,⟨yk ag⟩,⟨ykp ai⟩,⟨yhb⟩⟩
 case rest =>
  clear HC6
  try clear c1
  try clear c2
  try clear cl
  try clear cm
  try clear cn
  try clear cr
  try clear ct
  try clear cu
  try clear co
  try clear cp
  try clear cq
  try clear cv
  try clear cw
  try clear cx
  obtain ⟨kq,bJ,rfl,HA,HJ5,ae,ac,ah,ag,ai,HB⟩:=hcut
  obtain ⟨kj5,rfl⟩:=ysu kq (fun h=>by subst h;exact absurd HA.out (by simp [gain_Put.j0]))
  have H:=HA.out;clear HA
  simp only [gain_Put.j0] at H
  by_cases c21 : bJ=true
  ·
   subst c21
   rw [za4 rfl] at H
   simp only [zM,zN] at H
   obtain ⟨rfl,rfl,rfl,rfl⟩:=H
   have:=bf.out
   have:=bd.out
   have:=bh.out
   have:=bg.out
   obtain ⟨cy,cz,cA,cB,cC,cD⟩:=yc3 ai
   have:=a9.out
   have:=a8.out
   obtain ⟨cE,cF,cG,cH,cI,cJ⟩:=yc3 ag
   go_wp2
   refine za1 (results_ct rfl _ _ aE 54 #[.int .u64 bz, .int .u32 bA, .slice aM aG.length aN] (0,0) _ rfl (ykp ag) Try.underlying54 rfl (by kernel_rfl)) rfl ?_
   exact ⟨_,ye,zy (Kd.R_V (by (with_reducible repeat (first|apply zo|apply zp|apply zq));exact zG (zH (p:=⟨aE,2,none⟩) (zH (p:=⟨aE,1,none⟩) (zH (p:=⟨aE,0,none⟩) (Kd.R_types ac.out ag.out (by decide)) (fun _ hk=>hk.2) (.int .u64 bz)) (fun _ hk=>hk.2) (.int .u32 bA)) (fun _ hk=>hk.2) (.slice aM aG.length aN)) (fun _ hk=>hk.1))) (fun k_ hk=>by first|exact ⟨(.inr (hk.1)),hk.2⟩|exact (.inr (hk))),yhb⟩
  replace c21:=za3.mpr c21
  subst c21
  rw [ynf] at H
  have H' := zm H
  clear H
  have:=a8.out
  have:=a9.out
  have:=bd.out
  have:=bf.out
  obtain ⟨cK,cL,cM,cN,cO,cP⟩:=yc3 ah
  go_wp2_with (first|((with_reducible refine zL (N:=12) rfl ?_);refine ybx 12 #[.int .u64 0, .int .u32 0, .slice none 0 0] 54 ?_;intro aA hg w30 hbox hb;replace ae:=yVe ae hg hb;replace ac:=yRb ac hb;have ak:=zm (hbox);have dE:=ygw hg;have dF:=ygw hg;replace HB:=ybs hb;have bB:=ynl ah hg;have bC:=yng ah hg;replace ah:=ybb ah hb;have bi:=ynl ag hg;have bj:=yng ag hg;replace ag:=ybb ag hb;have bk:=ynl ai hg;have bl:=yng ai hg;replace ai:=ybb ai hb;clear hb hbox hg;have:=bC.out;have:=bB.out;have:=bj.out;have:=bi.out;have:=bl.out;have:=bk.out;obtain ⟨cQ,cR,cS,cT,cU,cV⟩:=yc3 ak))
  go_loopg [36] kj5 (fun kq v36 w' => ∃ (aC : Int) (aU : Int) (aV : Int) (al : Int) (am : Int) (aj : List Int) (bu : Value),v36=.int .i64 aC∧Aside0 (gain_Put.l0 kq l1 l2 a3 aC bz bA aG al am aj=some (r1,r2,r3,r4))∧Aside0 (kq≤kj5)∧Aside0 (Kd.V (Kd.int .u8) 5 w' w.heap.size (fun k_=>(ba k_∨w.heap.size≤k_)∧some k_≠((.slice aM aG.length aN) : Value).ownBlock∧k_≠aI∧k_≠aE∧k_≠aJ∧k_≠aA) (.slice bm aH.length bn) aH)∧Aside0 (Kd.R (Kd.int .u8) 5 w' w.heap.size (fun k_=>(w.heap.size≤k_)) (.slice aM aG.length aN) aG)∧Aside0 (Kd.V (Kd.int .u8) 5 w' w.heap.size (fun k_=>(ba k_∨w.heap.size≤k_)∧some k_≠((.slice aM aG.length aN) : Value).ownBlock∧k_≠aI∧k_≠aE∧k_≠aJ∧k_≠aA) bu aj)∧Aside0 (w'.heap[aI]? = some (.cells #[.int .u64 bb, .int .u32 bc,(.slice bm aH.length bn)] 54 (0,0)))∧Aside0 (w'.heap[aE]? = some (.cells #[.int .u64 aU, .int .u32 aV,(.slice none 0 0)] 54 (0,0)))∧Aside0 (w'.heap[aJ]? = some (.cells #[.int .u64 bz, .int .u32 bA,(.slice aM aG.length aN)] 54 (0,0)))∧Aside0 (w'.heap[aA]? = some (.cells #[.int .u64 al, .int .u32 am,bu] 54 (0,0)))∧Aside0 (Below w.heap.size w w'))
  case atStart=>exact ⟨(0),(0),(0),(bb),(bc),(aH),(.slice bm aH.length bn),yq,H',⟨zX _⟩,⟨yV0 ae⟩,⟨yR1 ac ak⟩,⟨yV0 ae⟩,⟨yk ah⟩,⟨yk ag⟩,⟨yk ai⟩,⟨ykp ak⟩,⟨yhb⟩⟩
  case round =>
   clear H'
   try clear cy
   try clear cz
   try clear cA
   try clear cE
   try clear cF
   try clear cG
   try clear cK
   try clear cL
   try clear cM
   try clear cQ
   try clear cR
   try clear cS
   try clear cB
   try clear cC
   try clear cD
   try clear cH
   try clear cI
   try clear cJ
   try clear cN
   try clear cO
   try clear cP
   try clear cT
   try clear cU
   try clear cV
   obtain ⟨aC,aU,aV,al,am,aj,bu,rfl,HA,HK2,ae,ac,aa,ah,ag,ai,ak,HB⟩:=hrel
   obtain ⟨k2,rfl⟩:=ysu gk (fun h=>by subst h;exact absurd HA.out (by simp [gain_Put.l0]))
   have H:=HA.out;clear HA
   simp only [gain_Put.l0] at H
   replace H:=yId H
   obtain ⟨cW,H⟩ | ⟨cW,H⟩:=H
   ·
    have cZ:=zm H;clear H
    go_upto_if 40 with (fail)
    go_cut [14] (fun v14 wc => ∃ (kq : Nat) (aW : Int),v14=.int .i64 aW∧Aside0 (gain_Put.j2 kq l1 l2 a3 aC aW aC bz bA aG al am aj=some (r1,r2,r3,r4))∧Aside0 (kq≤k2)∧Aside0 (Kd.V (Kd.int .u8) 5 wc w.heap.size (fun k_=>(ba k_∨w.heap.size≤k_)∧some k_≠((.slice aM aG.length aN) : Value).ownBlock∧k_≠aI∧k_≠aE∧k_≠aJ∧k_≠aA) (.slice bm aH.length bn) aH)∧Aside0 (Kd.R (Kd.int .u8) 5 wc w.heap.size (fun k_=>(w.heap.size≤k_)) (.slice aM aG.length aN) aG)∧Aside0 (Kd.V (Kd.int .u8) 5 wc w.heap.size (fun k_=>(ba k_∨w.heap.size≤k_)∧some k_≠((.slice aM aG.length aN) : Value).ownBlock∧k_≠aI∧k_≠aE∧k_≠aJ∧k_≠aA) bu aj)∧Aside0 (wc.heap[aI]? = some (.cells #[.int .u64 bb, .int .u32 bc,(.slice bm aH.length bn)] 54 (0,0)))∧Aside0 (wc.heap[aE]? = some (.cells #[.int .u64 aU, .int .u32 aV,(.slice none 0 0)] 54 (0,0)))∧Aside0 (wc.heap[aJ]? = some (.cells #[.int .u64 bz, .int .u32 bA,(.slice aM aG.length aN)] 54 (0,0)))∧Aside0 (wc.heap[aA]? = some (.cells #[.int .u64 al, .int .u32 am,bu] 54 (0,0)))∧Aside0 (Below w.heap.size w wc))
    case first =>
     have H:=cZ.out;clear cZ
     by_cases c37 : a3=true
     ·
      subst c37
      rw [za4 rfl] at H
      have H' := zm H
      clear H
      go_wp2
      go_meet
      case rel=>exact ⟨_,(0),yq,H',⟨yom2 HJ5 HK2⟩,⟨yr ae⟩,⟨yr ac⟩,⟨yr aa⟩,⟨yk ah⟩,⟨yk ag⟩,⟨yk ai⟩,⟨yk ak⟩,⟨yhb⟩⟩
     replace c37:=za3.mpr c37
     subst c37
     rw [ynf] at H
     obtain ⟨c38,H⟩:=yif H
     have cX : decide (0≤aC)=true:=decide_eq_true c38
     clear c38
     (first|rw [cX]|(simp only [i64_w,i32_w];rw [cX])|skip)
     obtain ⟨c39,H⟩:=yif H
     have dG : decide (aC < (l2.length : Int))=true:=decide_eq_true c39
     clear c39
     have H' := zm H
     clear H
     obtain ⟨⟨dH,dl,bK⟩,dL,dM⟩:=yat (zb7 HR2.out aC)
     cases dl
     replace bK:=yhx HB bK
     go_wp2
     go_meet
     case rel=>exact ⟨_,(rd l2 aC),yq,H',⟨yom2 HJ5 HK2⟩,⟨yr ae⟩,⟨yr ac⟩,⟨yr aa⟩,⟨yk ah⟩,⟨yk ag⟩,⟨yk ai⟩,⟨yk ak⟩,⟨yhb⟩⟩
    case rest =>
     clear cZ
     try clear cW
     obtain ⟨kq,aW,rfl,HA,de,ae,ac,aa,ah,ag,ai,ak,HB⟩:=hcut
     obtain ⟨bP,rfl⟩:=ysu kq (fun h=>by subst h;exact absurd HA.out (by simp [gain_Put.j2]))
     have H:=HA.out;clear HA
     simp only [gain_Put.j2] at H
     obtain ⟨c40,H⟩:=yif H
     have dI : decide (0≤aC)=true:=decide_eq_true c40
     clear c40
     obtain ⟨c41,H⟩:=yif H
     have dJ : decide (aC < (l1.length : Int))=true:=decide_eq_true c41
     clear c41
     obtain ⟨⟨bv,bw,bD,bE⟩,A42,H⟩:=ybi H
     try dsimp only at H
     by_cases c43 : bE=0
     ·
      rw [za4 c43] at H
      obtain ⟨df,dg⟩:=yE c43
      clear c43
      have H' := zm H
      clear H
      obtain ⟨bL,bM,dm⟩:=zU aa.out
      subst dm
      try go_wp2
      replace ae:=zm (zC ae.out)
      replace ac:=zm (zq ac.out)
      replace aa:=zm (zC aa.out)
      replace ah:=zm (zj ah.out)
      replace ag:=zm (zj ag.out)
      replace ai:=zm (zj ai.out)
      replace ak:=zm (zj ak.out)
      replace HB:=zm (zf HB.out)
      obtain ⟨⟨bI,da,aT⟩,dp,dq⟩:=yat (zb7 HR1.out aC)
      have hw279_0:=aT
      cases da
      replace aT:=yhx HB aT
      refine yst (fun w' => w'.cell? ⟨aA,0,none⟩=some (.int .u64 al)∧w'.cell? ⟨aA,1,none⟩=some (.int .u32 am)∧w'.cell? ⟨aA,2,none⟩=some (.slice bL aj.length bM)∧w'.cell? (bI.add (aC).toNat)=some (.int .i64 (rd l1 aC))) [] 14 gain_Put.tab11 gain_Put.bits11 (fun hHeld HT_ HW_ => ?_)
      generalize wc.drew=w45 at ae ac aa ah ag ai ak HB aT hHeld ⊢
      refine yp 1 47 HT_ ?_
      refine yp 2 48 HT_ ?_
      refine yp 3 49 HT_ ?_
      refine yp 5 51 HT_ ?_
      refine yp 6 52 HT_ ?_
      refine yl 0 46 HT_ HW_ hHeld ?_
      refine yl 4 50 HT_ HW_ hHeld ?_
      refine join_ (σ:=Value × Nat) 2 #[true,true,true,true,true,true,true,true,true,true,true,true,false,false] (fun s_ => [(53, .tuple #[.agg #[.int .u64 bv, .int .u32 bw,s_.1], .int .i64 bE]),(15, .pointer (some ⟨s_.2,0,none⟩)),(45, .tuple #[.agg #[.int .u64 bv, .int .u32 bw,s_.1], .int .i64 bE]),(54, .agg #[.int .u64 bv, .int .u32 bw,s_.1]),(55, .int .i64 bE)]) (fun s_ w' => (w'.cell? ⟨aA,0,none⟩=some (.int .u64 al)∧w'.cell? ⟨aA,1,none⟩=some (.int .u32 am)∧w'.cell? ⟨aA,2,none⟩=some (.slice bL aj.length bM)∧w'.cell? (bI.add (aC).toNat)=some (.int .i64 (rd l1 aC)))∧(Kd.R (Kd.int .u8) 5 w' w.heap.size (fun k_=>(w.heap.size≤k_)∧some k_≠(.slice aM aG.length aN : Value).ownBlock) s_.1 bD)∧(Kd.V (Kd.int .u8) 5 w' w.heap.size (fun k_=>(ba k_∨w.heap.size≤k_)∧some k_≠(s_.1 : Value).ownBlock∧some k_≠(.slice aM aG.length aN : Value).ownBlock∧k_≠aI∧k_≠aE∧k_≠aJ∧k_≠aA∧k_≠s_.2) (.slice bm aH.length bn) aH)∧(Kd.R (Kd.int .u8) 5 w' w.heap.size (fun k_=>(w.heap.size≤k_)∧some k_≠(s_.1 : Value).ownBlock) (.slice aM aG.length aN) aG)∧(Kd.V (Kd.int .u8) 5 w' w.heap.size (fun k_=>(ba k_∨w.heap.size≤k_)∧some k_≠(s_.1 : Value).ownBlock∧some k_≠(.slice aM aG.length aN : Value).ownBlock∧k_≠aI∧k_≠aE∧k_≠aJ∧k_≠aA∧k_≠s_.2) (.slice bL aj.length bM) aj)∧(w'.heap[aI]? = some (.cells #[.int .u64 bb, .int .u32 bc, .slice bm aH.length bn] 54 (0,0)))∧(w'.heap[aE]? = some (.cells #[.int .u64 aU, .int .u32 aV, .slice none 0 0] 54 (0,0)))∧(w'.heap[aJ]? = some (.cells #[.int .u64 bz, .int .u32 bA, .slice aM aG.length aN] 54 (0,0)))∧(w'.heap[aA]? = some (.cells #[.int .u64 al, .int .u32 am, .slice bL aj.length bM] 54 (0,0)))∧(w'.heap[s_.2]? = some (.cells #[.int .u64 0, .int .u32 0, .slice none 0 0] 54 (0,0)))∧(w.heap.size≤s_.2)∧(w.heap.size≤s_.2)∧(aI≠s_.2)∧(s_.2≠aI)∧(aE≠s_.2)∧(s_.2≠aE)∧(aJ≠s_.2)∧(s_.2≠aJ)∧(aA≠s_.2)∧(s_.2≠aA)∧(Below w.heap.size w w')) ?_ ?_
      rotate_left
      ·
       intro hCont
       refine two_ (i:=7) (j:=11) (Ni:=some 53) (Nj:=some 15) #[true,true,true,true,true,true,true,true,false,false,false,false,false,false] #[true,true,true,true,true,true,true,false,false,false,false,true,false,false] rfl rfl rfl rfl (two_of HT_.out (by kernel_rfl)) (by decide) (by decide) (fun K hK => ?_) (fun K hK => ?_)
       ·
        skip
        refine ygs Try.func67 #[.agg #[.int .u64 al, .int .u32 am, .slice bL aj.length bM], .int .i64 (rd l1 aC), .int .i64 aW, .bool a3] ?_
        with_reducible refine (gain_put.calls bP al am _ _ aj (rd l1 aC) aW a3 bv bw bD bE _ ?aK ?bs A42.out).mono ?_
        (case aK=>exact yce (zR aa.out).2.2)
        (case bs=>exact (zR aa.out).2.1)
        rintro e w46 ⟨bG,rfl,ho0,hb⟩
        refine ⟨_,rfl, ?_⟩
        replace ae:=zm (za7 (yr ae) (zW ho0) hb)
        replace aa:=zm (za7 (yr aa) (zW ho0) hb)
        have aQ:=zm (za0 (Kd.R_new' (Kd.R_newM (M:=fun k_=>(w.heap.size≤k_)) ho0 (zE yhb) (fun k_ h_=>h_)) (Kd.R_lt (yr ac))) (zE yhb))
        replace ac:=zm (za6 (yr ac) (zW ho0) hb)
        replace ah:=ybb ah hb
        replace ag:=ybb ag hb
        replace ai:=ybb ai hb
        replace ak:=ybb ak hb
        replace HB:=ybs hb
        (try clear hb)
        (try clear ho0)
        refine hK.out _ _ yH (fun hHeld => ?_)
        clear hK K
        refine ym (some 53) ?_
        refine yp 8 45 HT_ ?_
        refine yp 9 54 HT_ ?_
        refine yp 10 55 HT_ ?_
        refine yw 11 15 HT_ (fun K hK => ?_)
        refine box_step ?hg (N:=15) ?hd (cs := #[.int .u64 0, .int .u32 0, .slice none 0 0]) (t:=54) ?hr ?_;(case hd=>rfl);(case hg=>rfl);(case hr=>first|(go_simp;done)|(go_simp;rfl))
        intro ao hg w47 hbox hb
        replace ae:=yVe ae hg hb
        replace ac:=yRb ac hb
        replace aa:=yVe aa hg hb
        replace aQ:=yRb aQ hb
        have aD:=zm (hbox)
        have az:=ygw hg
        have bx:=ygw hg
        replace HB:=ybs hb
        have aw:=ynl ah hg
        have ax:=yng ah hg
        replace ah:=ybb ah hb
        have ap:=ynl ag hg
        have aq:=yng ag hg
        replace ag:=ybb ag hb
        have au:=ynl ai hg
        have av:=yng ai hg
        replace ai:=ybb ai hb
        have af:=ynl ak hg
        have ay:=yng ak hg
        replace ak:=ybb ak hb
        clear hb hbox hg
        refine hK.out _ _ yH (fun hHeld => ?_)
        clear hK K
        refine ym (some 15) ?_
        exact norm_ (by simp only [putAll,Act.put,za9,zb0,zb1]) (hCont (bG,ao) _ ⟨hHeld,(yR0 aQ),(yV0 ae),(yr ac),(yV0 aa),(yk ah),(yk ag),(yk ai),(yk ak),(yk aD),az.out,bx.out,aw.out,ax.out,ap.out,aq.out,au.out,av.out,af.out,ay.out,yhb⟩)
       skip
       refine box_step ?hg (N:=15) ?hd (cs := #[.int .u64 0, .int .u32 0, .slice none 0 0]) (t:=54) ?hr ?_;(case hd=>rfl);(case hg=>rfl);(case hr=>first|(go_simp;done)|(go_simp;rfl))
       intro ao hg w46 hbox hb
       replace ae:=yVe ae hg hb
       replace ac:=yRb ac hb
       replace aa:=yVe aa hg hb
       have aD:=zm (hbox)
       have az:=ygw hg
       have bx:=ygw hg
       replace HB:=ybs hb
       have aw:=ynl ah hg
       have ax:=yng ah hg
       replace ah:=ybb ah hb
       have ap:=ynl ag hg
       have aq:=yng ag hg
       replace ag:=ybb ag hb
       have au:=ynl ai hg
       have av:=yng ai hg
       replace ai:=ybb ai hb
       have af:=ynl ak hg
       have ay:=yng ak hg
       replace ak:=ybb ak hb
       clear hb hbox hg
       refine hK.out _ _ yH (fun hHeld => ?_)
       clear hK K
       refine ym (some 15) ?_
       refine yw 7 53 HT_ (fun K hK => ?_)
       refine ygs Try.func67 #[.agg #[.int .u64 al, .int .u32 am, .slice bL aj.length bM], .int .i64 (rd l1 aC), .int .i64 aW, .bool a3] ?_
       with_reducible refine (gain_put.calls bP al am _ _ aj (rd l1 aC) aW a3 bv bw bD bE _ ?aK ?bs A42.out).mono ?_
       (case aK=>exact yce (zR aa.out).2.2)
       (case bs=>exact (zR aa.out).2.1)
       rintro e w47 ⟨bG,rfl,ho0,hb⟩
       refine ⟨_,rfl, ?_⟩
       replace ae:=zm (za7 (yr ae) (zW ho0) hb)
       replace aa:=zm (za7 (yr aa) (zW ho0) hb)
       have aQ:=zm (za0 (Kd.R_new' (Kd.R_newM (M:=fun k_=>(w.heap.size≤k_)) ho0 (zE yhb) (fun k_ h_=>h_)) (Kd.R_lt (yr ac))) (zE yhb))
       replace ac:=zm (za6 (yr ac) (zW ho0) hb)
       replace ah:=ybb ah hb
       replace ag:=ybb ag hb
       replace ai:=ybb ai hb
       replace ak:=ybb ak hb
       replace aD:=ybb aD hb
       replace HB:=ybs hb
       (try clear hb)
       (try clear ho0)
       refine hK.out _ _ yH (fun hHeld => ?_)
       clear hK K
       refine ym (some 53) ?_
       refine yp 8 45 HT_ ?_
       refine yp 9 54 HT_ ?_
       refine yp 10 55 HT_ ?_
       exact norm_ (by simp only [putAll,Act.put,za9,zb0,zb1]) (hCont (bG,ao) _ ⟨hHeld,(yR0 aQ),(yV0 ae),(yr ac),(yV0 aa),(yk ah),(yk ag),(yk ai),(yk ak),(yk aD),az.out,bx.out,aw.out,ax.out,ap.out,aq.out,au.out,av.out,af.out,ay.out,yhb⟩)
      rintro ⟨bG,ao⟩ w48 hS_
      try dsimp only at hS_
      obtain ⟨hS_,h0_,h1_,h2_,h3_,h4_,h5_,h6_,h7_,h8_,h9_,bQ,bR,bS,bT,bU,bV,bW,bX,bY,bZ⟩:=hS_
      have n0_:=zm h0_;have n1_:=zm h1_;have n2_:=zm h2_;have n3_:=zm h3_;have n4_:=zm h4_;have n5_:=zm h5_;have n6_:=zm h6_;have n7_:=zm h7_;have n8_:=zm h8_;have n9_:=zm h9_;have b4:=zm bQ;have b5:=zm bR;have b6:=zm bS;have b7:=zm bT;have b8:=zm bU;have b9:=zm bV;have ca:=zm bW;have cb:=zm bX;have cf:=zm bY;have cg:=zm bZ;clear ae ac aa ah ag ai ak HB h0_ h1_ h2_ h3_ h4_ h5_ h6_ h7_ h8_ h9_ bQ bR bS bT bU bV bW bX bY bZ;have aQ:=n0_;have ae:=n1_;have ac:=n2_;have aa:=n3_;have ah:=n4_;have ag:=n5_;have ai:=n6_;have ak:=n7_;have aD:=n8_;have az:=n9_;have bx:=b4;have aw:=b5;have ax:=b6;have ap:=b7;have aq:=b8;have au:=b9;have av:=ca;have af:=cb
      have ay:=cf;have HB:=cg;clear n0_ n1_ n2_ n3_ n4_ n5_ n6_ n7_ n8_ n9_ b4 b5 b6 b7 b8 b9 ca cb cf cg;have hHeld:=hS_
      obtain ⟨db,dc,dh⟩:=zT aQ.out
      (first|subst dh|(injection dh with f1_ f2_ f3_;have f4_:=f1_.symm;have f5_:=f3_.symm;clear f1_ f2_ f3_;subst f4_;subst f5_))
      refine norm_ (a' := ?_) ?_ ?_
      rotate_left
      ·
       simp only [putAll,Act.put,za9,zb0,zb1]
       rfl
      refine yv 12 HT_ (fun K hK => ?_)
      have dN : w48.cell? ⟨ao,0,none⟩=some (.int .u64 0):=(zs aD.out 0).trans rfl
      have hfs49:=zx aD.out 0
      have:=aw.out
      have:=ap.out
      have:=au.out
      have:=af.out
      have:=ax.out
      have:=aq.out
      have:=av.out
      have:=ay.out
      have dO : w48.cell? ⟨ao,1,none⟩=some (.int .u32 0):=(zs aD.out 1).trans rfl
      have hfs50:=zx aD.out 1
      have:=aw.out
      have:=ap.out
      have:=au.out
      have:=af.out
      have:=ax.out
      have:=aq.out
      have:=av.out
      have:=ay.out
      have dP : w48.cell? ⟨ao,2,none⟩=some (.slice none 0 0):=(zs aD.out 2).trans rfl
      have hfs52:=zx aD.out 2
      have:=aw.out
      have:=ap.out
      have:=au.out
      have:=af.out
      have:=ax.out
      have:=aq.out
      have:=av.out
      have:=ay.out
      refine skip_ (w1 := ?_) (by rfl) rfl ?_ ?_
      rotate_left
      ·
       go_simp
       rfl
      refine hK.out _ _ ⟨((zr (p:=⟨ao,_,none⟩) af.out _).trans (((zr (p:=⟨ao,_,none⟩) af.out _).trans (((zr (p:=⟨ao,_,none⟩) af.out _).trans (hHeld.1)))))),((zr (p:=⟨ao,_,none⟩) af.out _).trans (((zr (p:=⟨ao,_,none⟩) af.out _).trans (((zr (p:=⟨ao,_,none⟩) af.out _).trans (hHeld.2.1)))))),((zr (p:=⟨ao,_,none⟩) af.out _).trans (((zr (p:=⟨ao,_,none⟩) af.out _).trans (((zr (p:=⟨ao,_,none⟩) af.out _).trans (hHeld.2.2.1)))))),((zr (p:=⟨ao,_,none⟩) (by first|exact zn (zl (by have:=zb _ _ hw279_0;first|rwa [za] at this|exact this) az.out)|(rw [za];exact zn (zl (by have:=zb _ _ hw279_0;first|rwa [za] at this|exact this) az.out))|(show (Addr.add _ _).block≠_;rw [za];exact zn (zl (by have:=zb _ _ hw279_0;first|rwa [za] at this|exact this) az.out))|(dsimp only;exact zn (zl (by have:=zb _ _ hw279_0;first|rwa [za] at this|exact this) az.out))) _).trans (((zr (p:=⟨ao,_,none⟩) (by first|exact zn (zl (by have:=zb _ _ hw279_0;first|rwa [za] at this|exact this) az.out)|(rw [za];exact zn (zl (by have:=zb _ _ hw279_0;first|rwa [za] at this|exact this) az.out))|(show (Addr.add _ _).block≠_;rw [za];exact zn (zl (by have:=zb _ _ hw279_0;first|rwa [za] at this|exact this) az.out))|(dsimp only;exact zn (zl (by have:=zb _ _ hw279_0;first|rwa [za] at this|exact this) az.out))) _).trans (((zr (p:=⟨ao,_,none⟩) (by first|exact zn (zl (by have:=zb _ _ hw279_0;first|rwa [za] at this|exact this) az.out)|(rw [za];exact zn (zl (by have:=zb _ _ hw279_0;first|rwa [za] at this|exact this) az.out))|(show (Addr.add _ _).block≠_;rw [za];exact zn (zl (by have:=zb _ _ hw279_0;first|rwa [za] at this|exact this) az.out))|(dsimp only;exact zn (zl (by have:=zb _ _ hw279_0;first|rwa [za] at this|exact this) az.out))) _).trans (hHeld.2.2.2))))))⟩ (fun hHeld => ?_)
      clear hK K
      refine yp 13 16 HT_ ?_
      refine done_ (done_of HT_.out (by kernel_rfl)) ?_
      have:=ax.out
      have:=aw.out
      have:=aq.out
      have:=ap.out
      have:=av.out
      have:=au.out
      have:=ay.out
      have:=af.out
      obtain ⟨_,_,_,_,_,_⟩:=yc3 aD
      have:=bC.out
      have:=bB.out
      have:=bj.out
      have:=bi.out
      have:=bl.out
      have:=bk.out
      obtain ⟨_,_,_,_,_,_⟩:=yc3 ak
      try go_wp2
      go_roundg bP
      case measure=>exact yom3 HJ5 HK2 de
      case rel=>exact ⟨(wrap64 (aC+1)),(aU),(aV),(bv),(bw),(bD),(.slice db bD.length dc),yq,H',⟨yom3 HJ5 HK2 de⟩,⟨yV0 ae⟩,⟨yR2 ac aD ak⟩,⟨zy (Kd.R_V (ok:=fun k_=>w.heap.size≤k_∧some k_≠((.slice aM aG.length aN) : Value).ownBlock∧k_≠aI∧k_≠aE∧k_≠aJ∧k_≠aA) (by (with_reducible repeat (first|apply zo|apply zp|apply zq));exact zG (zH (p:=⟨aA,2,none⟩) (zH (p:=⟨aA,1,none⟩) (zH (p:=⟨aA,0,none⟩) (zH (p:=⟨ao,2,none⟩) (zH (p:=⟨ao,1,none⟩) (zH (p:=⟨ao,0,none⟩) (Kd.R_types (Kd.R_types (Kd.R_types (Kd.R_types (Kd.R_types (Kd.R_types aQ.out ah.out (by decide)) ag.out (by decide)) ai.out (by decide)) ak.out (by decide)) aD.out (by decide)) ak.out (by decide)) (fun _ hk=>hk.1.2) (.int .u64 bv)) (fun _ hk=>hk.1.2) (.int .u32 bw)) (fun _ hk=>hk.1.2) (.slice db bD.length dc)) (fun _ hk=>hk.2) (.int .u64 bv)) (fun _ hk=>hk.2) (.int .u32 bw)) (fun _ hk=>hk.2) (.slice db bD.length dc)) (fun _ hk=>⟨hk.1.1.1.1.1.1.1,⟨hk.1.1.1.1.1.1.2,⟨hk.1.1.1.1.1.2,⟨hk.1.1.1.1.2,⟨hk.1.1.1.2,hk.1.1.2⟩⟩⟩⟩⟩))) (fun k_ hk=>by first|exact ⟨(.inr (hk.1)),hk.2⟩|exact (.inr (hk)))⟩,⟨yk ah⟩,⟨yk ag⟩,⟨yk ai⟩,⟨ykp ak⟩,⟨yhb⟩⟩
     rw [za5 c43] at H
     obtain ⟨df,dg⟩:=yF c43
     simp only [zM,zN] at H
     obtain ⟨rfl,rfl,rfl,rfl⟩:=H
     obtain ⟨bN,bO,dr⟩:=zU aa.out
     subst dr
     try go_wp2
     replace ae:=zm (zC ae.out)
     replace ac:=zm (zq ac.out)
     replace aa:=zm (zC aa.out)
     replace ah:=zm (zj ah.out)
     replace ag:=zm (zj ag.out)
     replace ai:=zm (zj ai.out)
     replace ak:=zm (zj ak.out)
     replace HB:=zm (zf HB.out)
     obtain ⟨⟨bI,da,aT⟩,dp,dq⟩:=yat (zb7 HR1.out aC)
     have hw279_0:=aT
     cases da
     replace aT:=yhx HB aT
     refine yst (fun w' => w'.cell? ⟨aA,0,none⟩=some (.int .u64 al)∧w'.cell? ⟨aA,1,none⟩=some (.int .u32 am)∧w'.cell? ⟨aA,2,none⟩=some (.slice bN aj.length bO)∧w'.cell? (bI.add (aC).toNat)=some (.int .i64 (rd l1 aC))) [] 14 gain_Put.tab11 gain_Put.bits11 (fun hHeld HT_ HW_ => ?_)
     generalize wc.drew=w63 at ae ac aa ah ag ai ak HB aT hHeld ⊢
     refine yp 1 47 HT_ ?_
     refine yp 2 48 HT_ ?_
     refine yp 3 49 HT_ ?_
     refine yp 5 51 HT_ ?_
     refine yp 6 52 HT_ ?_
     refine yl 0 46 HT_ HW_ hHeld ?_
     refine yl 4 50 HT_ HW_ hHeld ?_
     refine join_ (σ:=Value × Nat) 2 #[true,true,true,true,true,true,true,true,true,true,true,true,false,false] (fun s_ => [(53, .tuple #[.agg #[.int .u64 bv, .int .u32 bw,s_.1], .int .i64 bE]),(15, .pointer (some ⟨s_.2,0,none⟩)),(45, .tuple #[.agg #[.int .u64 bv, .int .u32 bw,s_.1], .int .i64 bE]),(54, .agg #[.int .u64 bv, .int .u32 bw,s_.1]),(55, .int .i64 bE)]) (fun s_ w' => (w'.cell? ⟨aA,0,none⟩=some (.int .u64 al)∧w'.cell? ⟨aA,1,none⟩=some (.int .u32 am)∧w'.cell? ⟨aA,2,none⟩=some (.slice bN aj.length bO)∧w'.cell? (bI.add (aC).toNat)=some (.int .i64 (rd l1 aC)))∧(Kd.R (Kd.int .u8) 5 w' w.heap.size (fun k_=>(w.heap.size≤k_)∧some k_≠(.slice aM aG.length aN : Value).ownBlock) s_.1 bD)∧(Kd.V (Kd.int .u8) 5 w' w.heap.size (fun k_=>(ba k_∨w.heap.size≤k_)∧some k_≠(s_.1 : Value).ownBlock∧some k_≠(.slice aM aG.length aN : Value).ownBlock∧k_≠aI∧k_≠aE∧k_≠aJ∧k_≠aA∧k_≠s_.2) (.slice bm aH.length bn) aH)∧(Kd.R (Kd.int .u8) 5 w' w.heap.size (fun k_=>(w.heap.size≤k_)∧some k_≠(s_.1 : Value).ownBlock) (.slice aM aG.length aN) aG)∧(Kd.V (Kd.int .u8) 5 w' w.heap.size (fun k_=>(ba k_∨w.heap.size≤k_)∧some k_≠(s_.1 : Value).ownBlock∧some k_≠(.slice aM aG.length aN : Value).ownBlock∧k_≠aI∧k_≠aE∧k_≠aJ∧k_≠aA∧k_≠s_.2) (.slice bN aj.length bO) aj)∧(w'.heap[aI]? = some (.cells #[.int .u64 bb, .int .u32 bc, .slice bm aH.length bn] 54 (0,0)))∧(w'.heap[aE]? = some (.cells #[.int .u64 aU, .int .u32 aV, .slice none 0 0] 54 (0,0)))∧(w'.heap[aJ]? = some (.cells #[.int .u64 bz, .int .u32 bA, .slice aM aG.length aN] 54 (0,0)))∧(w'.heap[aA]? = some (.cells #[.int .u64 al, .int .u32 am, .slice bN aj.length bO] 54 (0,0)))∧(w'.heap[s_.2]? = some (.cells #[.int .u64 0, .int .u32 0, .slice none 0 0] 54 (0,0)))∧(w.heap.size≤s_.2)∧(w.heap.size≤s_.2)∧(aI≠s_.2)∧(s_.2≠aI)∧(aE≠s_.2)∧(s_.2≠aE)∧(aJ≠s_.2)∧(s_.2≠aJ)∧(aA≠s_.2)∧(s_.2≠aA)∧(Below w.heap.size w w')) ?_ ?_
     rotate_left
     ·
      intro hCont
      refine two_ (i:=7) (j:=11) (Ni:=some 53) (Nj:=some 15) #[true,true,true,true,true,true,true,true,false,false,false,false,false,false] #[true,true,true,true,true,true,true,false,false,false,false,true,false,false] rfl rfl rfl rfl (two_of HT_.out (by kernel_rfl)) (by decide) (by decide) (fun K hK => ?_) (fun K hK => ?_)
      ·
       skip
       refine ygs Try.func67 #[.agg #[.int .u64 al, .int .u32 am, .slice bN aj.length bO], .int .i64 (rd l1 aC), .int .i64 aW, .bool a3] ?_
       with_reducible refine (gain_put.calls bP al am _ _ aj (rd l1 aC) aW a3 bv bw bD bE _ ?aK ?bs A42.out).mono ?_
       (case aK=>exact yce (zR aa.out).2.2)
       (case bs=>exact (zR aa.out).2.1)
       rintro e w64 ⟨bG,rfl,ho0,hb⟩
       refine ⟨_,rfl, ?_⟩
       replace ae:=zm (za7 (yr ae) (zW ho0) hb)
       replace aa:=zm (za7 (yr aa) (zW ho0) hb)
       have aQ:=zm (za0 (Kd.R_new' (Kd.R_newM (M:=fun k_=>(w.heap.size≤k_)) ho0 (zE yhb) (fun k_ h_=>h_)) (Kd.R_lt (yr ac))) (zE yhb))
       replace ac:=zm (za6 (yr ac) (zW ho0) hb)
       replace ah:=ybb ah hb
       replace ag:=ybb ag hb
       replace ai:=ybb ai hb
       replace ak:=ybb ak hb
       replace HB:=ybs hb
       (try clear hb)
       (try clear ho0)
       refine hK.out _ _ yH (fun hHeld => ?_)
       clear hK K
       refine ym (some 53) ?_
       refine yp 8 45 HT_ ?_
       refine yp 9 54 HT_ ?_
       refine yp 10 55 HT_ ?_
       refine yw 11 15 HT_ (fun K hK => ?_)
       refine box_step ?hg (N:=15) ?hd (cs := #[.int .u64 0, .int .u32 0, .slice none 0 0]) (t:=54) ?hr ?_;(case hd=>rfl);(case hg=>rfl);(case hr=>first|(go_simp;done)|(go_simp;rfl))
       intro ao hg w65 hbox hb
       replace ae:=yVe ae hg hb
       replace ac:=yRb ac hb
       replace aa:=yVe aa hg hb
       replace aQ:=yRb aQ hb
       have aD:=zm (hbox)
       have az:=ygw hg
       have bx:=ygw hg
       replace HB:=ybs hb
       have aw:=ynl ah hg
       have ax:=yng ah hg
       replace ah:=ybb ah hb
       have ap:=ynl ag hg
       have aq:=yng ag hg
       replace ag:=ybb ag hb
       have au:=ynl ai hg
       have av:=yng ai hg
       replace ai:=ybb ai hb
       have af:=ynl ak hg
       have ay:=yng ak hg
       replace ak:=ybb ak hb
       clear hb hbox hg
       refine hK.out _ _ yH (fun hHeld => ?_)
       clear hK K
       refine ym (some 15) ?_
       exact norm_ (by simp only [putAll,Act.put,za9,zb0,zb1]) (hCont (bG,ao) _ ⟨hHeld,(yR0 aQ),(yV0 ae),(yr ac),(yV0 aa),(yk ah),(yk ag),(yk ai),(yk ak),(yk aD),az.out,bx.out,aw.out,ax.out,ap.out,aq.out,au.out,av.out,af.out,ay.out,yhb⟩)
      skip
      refine box_step ?hg (N:=15) ?hd (cs := #[.int .u64 0, .int .u32 0, .slice none 0 0]) (t:=54) ?hr ?_;(case hd=>rfl);(case hg=>rfl);(case hr=>first|(go_simp;done)|(go_simp;rfl))
      intro ao hg w64 hbox hb
      replace ae:=yVe ae hg hb
      replace ac:=yRb ac hb
      replace aa:=yVe aa hg hb
      have aD:=zm (hbox)
      have az:=ygw hg
      have bx:=ygw hg
      replace HB:=ybs hb
      have aw:=ynl ah hg
      have ax:=yng ah hg
      replace ah:=ybb ah hb
      have ap:=ynl ag hg
      have aq:=yng ag hg
      replace ag:=ybb ag hb
      have au:=ynl ai hg
      have av:=yng ai hg
      replace ai:=ybb ai hb
      have af:=ynl ak hg
      have ay:=yng ak hg
      replace ak:=ybb ak hb
      clear hb hbox hg
      refine hK.out _ _ yH (fun hHeld => ?_)
      clear hK K
      refine ym (some 15) ?_
      refine yw 7 53 HT_ (fun K hK => ?_)
      refine ygs Try.func67 #[.agg #[.int .u64 al, .int .u32 am, .slice bN aj.length bO], .int .i64 (rd l1 aC), .int .i64 aW, .bool a3] ?_
      with_reducible refine (gain_put.calls bP al am _ _ aj (rd l1 aC) aW a3 bv bw bD bE _ ?aK ?bs A42.out).mono ?_
      (case aK=>exact yce (zR aa.out).2.2)
      (case bs=>exact (zR aa.out).2.1)
      rintro e w65 ⟨bG,rfl,ho0,hb⟩
      refine ⟨_,rfl, ?_⟩
      replace ae:=zm (za7 (yr ae) (zW ho0) hb)
      replace aa:=zm (za7 (yr aa) (zW ho0) hb)
      have aQ:=zm (za0 (Kd.R_new' (Kd.R_newM (M:=fun k_=>(w.heap.size≤k_)) ho0 (zE yhb) (fun k_ h_=>h_)) (Kd.R_lt (yr ac))) (zE yhb))
      replace ac:=zm (za6 (yr ac) (zW ho0) hb)
      replace ah:=ybb ah hb
      replace ag:=ybb ag hb
      replace ai:=ybb ai hb
      replace ak:=ybb ak hb
      replace aD:=ybb aD hb
      replace HB:=ybs hb
      (try clear hb)
      (try clear ho0)
      refine hK.out _ _ yH (fun hHeld => ?_)
      clear hK K
      refine ym (some 53) ?_
      refine yp 8 45 HT_ ?_
      refine yp 9 54 HT_ ?_
      refine yp 10 55 HT_ ?_
      exact norm_ (by simp only [putAll,Act.put,za9,zb0,zb1]) (hCont (bG,ao) _ ⟨hHeld,(yR0 aQ),(yV0 ae),(yr ac),(yV0 aa),(yk ah),(yk ag),(yk ai),(yk ak),(yk aD),az.out,bx.out,aw.out,ax.out,ap.out,aq.out,au.out,av.out,af.out,ay.out,yhb⟩)
     rintro ⟨bG,ao⟩ w66 hS_
     try dsimp only at hS_
     obtain ⟨hS_,h0_,h1_,h2_,h3_,h4_,h5_,h6_,h7_,h8_,h9_,bQ,bR,bS,bT,bU,bV,bW,bX,bY,bZ⟩:=hS_
     have n0_:=zm h0_;have n1_:=zm h1_;have n2_:=zm h2_;have n3_:=zm h3_;have n4_:=zm h4_;have n5_:=zm h5_;have n6_:=zm h6_;have n7_:=zm h7_;have n8_:=zm h8_;have n9_:=zm h9_;have b4:=zm bQ;have b5:=zm bR;have b6:=zm bS;have b7:=zm bT;have b8:=zm bU;have b9:=zm bV;have ca:=zm bW;have cb:=zm bX;have cf:=zm bY;have cg:=zm bZ;clear ae ac aa ah ag ai ak HB h0_ h1_ h2_ h3_ h4_ h5_ h6_ h7_ h8_ h9_ bQ bR bS bT bU bV bW bX bY bZ;have aQ:=n0_;have ae:=n1_;have ac:=n2_;have aa:=n3_;have ah:=n4_;have ag:=n5_;have ai:=n6_;have ak:=n7_;have aD:=n8_;have az:=n9_;have bx:=b4;have aw:=b5;have ax:=b6;have ap:=b7;have aq:=b8;have au:=b9;have av:=ca;have af:=cb
     have ay:=cf;have HB:=cg;clear n0_ n1_ n2_ n3_ n4_ n5_ n6_ n7_ n8_ n9_ b4 b5 b6 b7 b8 b9 ca cb cf cg;have hHeld:=hS_
     obtain ⟨dt,du,di⟩:=zT aQ.out
     (first|subst di|(injection di with f1_ f2_ f3_;have f4_:=f1_.symm;have f5_:=f3_.symm;clear f1_ f2_ f3_;subst f4_;subst f5_))
     refine norm_ (a' := ?_) ?_ ?_
     rotate_left
     ·
      simp only [putAll,Act.put,za9,zb0,zb1]
      rfl
     refine yv 12 HT_ (fun K hK => ?_)
     have dQ : w66.cell? ⟨ao,0,none⟩=some (.int .u64 0):=(zs aD.out 0).trans rfl
     have hfs67:=zx aD.out 0
     have:=aw.out
     have:=ap.out
     have:=au.out
     have:=af.out
     have:=ax.out
     have:=aq.out
     have:=av.out
     have:=ay.out
     have dR : w66.cell? ⟨ao,1,none⟩=some (.int .u32 0):=(zs aD.out 1).trans rfl
     have hfs68:=zx aD.out 1
     have:=aw.out
     have:=ap.out
     have:=au.out
     have:=af.out
     have:=ax.out
     have:=aq.out
     have:=av.out
     have:=ay.out
     have dS : w66.cell? ⟨ao,2,none⟩=some (.slice none 0 0):=(zs aD.out 2).trans rfl
     have hfs70:=zx aD.out 2
     have:=aw.out
     have:=ap.out
     have:=au.out
     have:=af.out
     have:=ax.out
     have:=aq.out
     have:=av.out
     have:=ay.out
     refine skip_ (w1 := ?_) (by rfl) rfl ?_ ?_
     rotate_left
     ·
      go_simp
      rfl
     refine hK.out _ _ ⟨((zr (p:=⟨ao,_,none⟩) af.out _).trans (((zr (p:=⟨ao,_,none⟩) af.out _).trans (((zr (p:=⟨ao,_,none⟩) af.out _).trans (hHeld.1)))))),((zr (p:=⟨ao,_,none⟩) af.out _).trans (((zr (p:=⟨ao,_,none⟩) af.out _).trans (((zr (p:=⟨ao,_,none⟩) af.out _).trans (hHeld.2.1)))))),((zr (p:=⟨ao,_,none⟩) af.out _).trans (((zr (p:=⟨ao,_,none⟩) af.out _).trans (((zr (p:=⟨ao,_,none⟩) af.out _).trans (hHeld.2.2.1)))))),((zr (p:=⟨ao,_,none⟩) (by first|exact zn (zl (by have:=zb _ _ hw279_0;first|rwa [za] at this|exact this) az.out)|(rw [za];exact zn (zl (by have:=zb _ _ hw279_0;first|rwa [za] at this|exact this) az.out))|(show (Addr.add _ _).block≠_;rw [za];exact zn (zl (by have:=zb _ _ hw279_0;first|rwa [za] at this|exact this) az.out))|(dsimp only;exact zn (zl (by have:=zb _ _ hw279_0;first|rwa [za] at this|exact this) az.out))) _).trans (((zr (p:=⟨ao,_,none⟩) (by first|exact zn (zl (by have:=zb _ _ hw279_0;first|rwa [za] at this|exact this) az.out)|(rw [za];exact zn (zl (by have:=zb _ _ hw279_0;first|rwa [za] at this|exact this) az.out))|(show (Addr.add _ _).block≠_;rw [za];exact zn (zl (by have:=zb _ _ hw279_0;first|rwa [za] at this|exact this) az.out))|(dsimp only;exact zn (zl (by have:=zb _ _ hw279_0;first|rwa [za] at this|exact this) az.out))) _).trans (((zr (p:=⟨ao,_,none⟩) (by first|exact zn (zl (by have:=zb _ _ hw279_0;first|rwa [za] at this|exact this) az.out)|(rw [za];exact zn (zl (by have:=zb _ _ hw279_0;first|rwa [za] at this|exact this) az.out))|(show (Addr.add _ _).block≠_;rw [za];exact zn (zl (by have:=zb _ _ hw279_0;first|rwa [za] at this|exact this) az.out))|(dsimp only;exact zn (zl (by have:=zb _ _ hw279_0;first|rwa [za] at this|exact this) az.out))) _).trans (hHeld.2.2.2))))))⟩ (fun hHeld => ?_)
     clear hK K
     refine yp 13 16 HT_ ?_
     refine done_ (done_of HT_.out (by kernel_rfl)) ?_
     have:=bf.out
     have:=bd.out
     have:=bh.out
     have:=bg.out
     have:=bk.out
     have:=bl.out
     have:=au.out
     have:=av.out
     obtain ⟨_,_,_,_,_,_⟩:=yc3 ai
     have:=a9.out
     have:=a8.out
     have:=bi.out
     have:=bj.out
     have:=ap.out
     have:=aq.out
     obtain ⟨_,_,_,_,_,_⟩:=yc3 ag
     try go_wp2
     refine za1 (results_ct rfl _ _ aE 54 #[.int .u64 bz, .int .u32 bA, .slice aM aG.length aN] (0,0) _ rfl (ykp ag) Try.underlying54 rfl (by kernel_rfl)) rfl ?_
     exact ⟨_,ye,zy (Kd.R_V (by (with_reducible repeat (first|apply zo|apply zp|apply zq));exact zG (zH (p:=⟨aE,2,none⟩) (zH (p:=⟨aE,1,none⟩) (zH (p:=⟨aE,0,none⟩) (zH (p:=⟨ao,2,none⟩) (zH (p:=⟨ao,1,none⟩) (zH (p:=⟨ao,0,none⟩) (Kd.R_types (Kd.R_types ac.out aD.out (by decide)) ag.out (by decide)) (fun _ hk=>hk.1.2) (.int .u64 bv)) (fun _ hk=>hk.1.2) (.int .u32 bw)) (fun _ hk=>hk.1.2) (.slice dt bD.length du)) (fun _ hk=>hk.2) (.int .u64 bz)) (fun _ hk=>hk.2) (.int .u32 bA)) (fun _ hk=>hk.2) (.slice aM aG.length aN)) (fun _ hk=>hk.1.1.1))) (fun k_ hk=>by first|exact ⟨(.inr (hk.1)),hk.2⟩|exact (.inr (hk))),yhb⟩
   simp only [zM,zN] at H
   obtain ⟨rfl,rfl,rfl,rfl⟩:=H
   have:=bC.out
   have:=bB.out
   have:=bj.out
   have:=bi.out
   have:=bl.out
   have:=bk.out
   obtain ⟨_,_,_,_,_,_⟩:=yc3 ak
   have:=a9.out
   have:=a8.out
   have:=bg.out
   have:=bh.out
   obtain ⟨_,_,_,_,_,_⟩:=yc3 ag
   obtain ⟨dv,dw,dx⟩:=zU aa.out
   subst dx
   go_wp2
   refine za1 (results_ct rfl _ _ aE 54 #[.int .u64 al, .int .u32 am, .slice dv aj.length dw] (0,0) _ rfl (ykp ag) Try.underlying54 rfl (by kernel_rfl)) rfl ?_
   exact ⟨_,ye,yV0 aa,yhb⟩
end Go.Proofs.Ytnmbndkojpjkmaa.Prt
