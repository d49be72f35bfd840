-- Functions of the program and of the document as plain Lean, each with the proof that the code comes to it. Written by a program of this session (wip/tools/myprint.py, pack.py) over the kit's printer; Lean checks it.
import Derived.Test.YtnmbndkojpjkmaaZPackFitsPrt0
import Derived.Test.YtnmbndkojpjkmaaZPackFitsM1
import Derived.Test.YtnmbndkojpjkmaaZPackFitsSh2
import Derived.Test.YtnmbndkojpjkmaaZPackFitsSh
import Derived.Laws.CopyOwn
namespace Go.Proofs.Ytnmbndkojpjkmaa.Prt
open Go.RowKit Go.Proofs.YtnmbndkojpjkmaaW.PrintWords Go.Proofs.YtnmbndkojpjkmaaW.PrintLast Go.Proofs.YtnmbndkojpjkmaaW.PrintMore
attribute [local go_sem] max2_int min2_int max_two min_two max_three min_three max_four min_four   -- for this text's walks alone
set_option linter.unusedVariables false
set_option linter.unusedSimpArgs false


mutual
def gain_Put.j0 : Nat→List Int→List Int→Bool→Bool→Int→Int→List Int→Int→Int→List Int→Option (Int × Int × List Int × Int)
 | 0,_,_,_,_,_,_,_,_,_,_=>none
 | k+1,x1,x2,x3,x33,ci,cj,ck,aY,aZ,a7=>if x33=true then (some (aY,aZ,a7,1)) else (gain_Put.l0 k x1 x2 x3 0 aY aZ a7 ci cj ck)
def gain_Put.l0 : Nat→List Int→List Int→Bool→Int→Int→Int→List Int→Int→Int→List Int→Option (Int × Int × List Int × Int)
 | 0,_,_,_,_,_,_,_,_,_,_=>none
 | k+1,x1,x2,x3,x36,aY,aZ,a7,br,bs,bu=>if x36 < 5 then (if x3=true then (gain_Put.j2 k x1 x2 x3 x36 0 x36 aY aZ a7 br bs bu) else (if 0≤x36 then (if x36 < (x2.length : Int) then (gain_Put.j2 k x1 x2 x3 x36 (rd x2 x36) x36 aY aZ a7 br bs bu) else (none)) else (none))) else (some (br,bs,bu,0))
def gain_Put.j2 : Nat→List Int→List Int→Bool→Int→Int→Int→Int→Int→List Int→Int→Int→List Int→Option (Int × Int × List Int × Int)
 | 0,_,_,_,_,_,_,_,_,_,_,_,_=>none
 | k+1,x1,x2,x3,x13,x14,x36,aY,aZ,a7,br,bs,bu=>if 0≤x13 then (if x13 < (x1.length : Int) then ((gain_put.f k br bs bu (rd x1 x13) x14 x3).bind fun bM=>(if bM.2.2.2=0 then (gain_Put.l0 k x1 x2 x3 (wrap64 (x36+1)) aY aZ a7 bM.1 bM.2.1 bM.2.2.1) else (some (aY,aZ,a7,bM.2.2.2)))) else (none)) else (none)
end
def gain_Put.f (k : Nat) (bd : Int) (bf : Int) (aJ : List Int) (l1 : List Int) (l2 : List Int) (a3 : Bool) : Option (Int × Int × List Int × Int):=(coder_Put.f k bd bf aJ 0 1 0).bind fun bv=>((gain_Right.f k l1).bind fun cZ=>(if cZ=true then (if a3=true then (gain_Put.j0 k l1 l2 a3 false bd bf aJ bv.1 bv.2.1 bv.2.2.1) else ((gain_Right.f k l2).bind fun cl=>(gain_Put.j0 k l1 l2 a3 (!cl) bd bf aJ bv.1 bv.2.1 bv.2.2.1))) else (gain_Put.j0 k l1 l2 a3 true bd bf aJ bv.1 bv.2.1 bv.2.2.1)))
theorem gain_Put.mono_l : ∀ k,(∀ y0 y1 y2 y3 y4 y5 y6 y7 y8 y9,LeO (gain_Put.j0 k y0 y1 y2 y3 y4 y5 y6 y7 y8 y9) (gain_Put.j0 (k+1) y0 y1 y2 y3 y4 y5 y6 y7 y8 y9))∧(∀ y0 y1 y2 y3 y4 y5 y6 y7 y8 y9,LeO (gain_Put.l0 k y0 y1 y2 y3 y4 y5 y6 y7 y8 y9) (gain_Put.l0 (k+1) y0 y1 y2 y3 y4 y5 y6 y7 y8 y9))∧(∀ y0 y1 y2 y3 y4 y5 y6 y7 y8 y9 y10 y11,LeO (gain_Put.j2 k y0 y1 y2 y3 y4 y5 y6 y7 y8 y9 y10 y11) (gain_Put.j2 (k+1) y0 y1 y2 y3 y4 y5 y6 y7 y8 y9 y10 y11))
 | 0=>⟨fun _ _ _ _ _ _ _ _ _ _ r h=>by simp [gain_Put.j0] at h,fun _ _ _ _ _ _ _ _ _ _ r h=>by simp [gain_Put.l0] at h,fun _ _ _ _ _ _ _ _ _ _ _ _ r h=>by simp [gain_Put.j2] at h⟩
 | k+1=>by
  obtain ⟨ih0,ih1,ih2⟩:=gain_Put.mono_l k
  refine ⟨?_, ?_, ?_⟩
  ·
   intro y0 y1 y2 y3 y4 y5 y6 y7 y8 y9
   unfold gain_Put.j0
   repeat' with_reducible first|apply ih0|apply ih1|apply ih2|apply coder_Put.mono|apply gain_Right.mono|apply gain_put.mono|apply yLr|apply yLn|apply yLi|apply yLb|intro _
  ·
   intro y0 y1 y2 y3 y4 y5 y6 y7 y8 y9
   unfold gain_Put.l0
   repeat' with_reducible first|apply ih0|apply ih1|apply ih2|apply coder_Put.mono|apply gain_Right.mono|apply gain_put.mono|apply yLr|apply yLn|apply yLi|apply yLb|intro _
  intro y0 y1 y2 y3 y4 y5 y6 y7 y8 y9 y10 y11
  unfold gain_Put.j2
  repeat' with_reducible first|apply ih0|apply ih1|apply ih2|apply coder_Put.mono|apply gain_Right.mono|apply gain_put.mono|apply yLr|apply yLn|apply yLi|apply yLb|intro _
theorem gain_Put.mono : ∀ a0 a1 a2 a3 a4 a5 k,LeO (gain_Put.f k a0 a1 a2 a3 a4 a5) (gain_Put.f (k+1) a0 a1 a2 a3 a4 a5):=by
 intro a0 a1 a2 a3 a4 a5 k
 obtain ⟨ih0,ih1,ih2⟩:=gain_Put.mono_l k
 unfold gain_Put.f
 repeat' with_reducible first|apply ih0|apply ih1|apply ih2|apply coder_Put.mono|apply gain_Right.mono|apply gain_put.mono|apply yLr|apply yLn|apply yLi|apply yLb|intro _
def gain_Put.T11 : Bool × List (List Nat × List Nat):=(true, [([], []),([], []),([], []),([1,2], [1,2]),([3], [3]),([], []),([], []),([0,4,5,6], [0,4,5,6]),([7], [7]),([8], [8]),([8], [8]),([], []),([11,9,7,0,1,2,3,4,5,6,7,8,9,11], [9,11]),([10,12,0,1,2,3,4,5,6,7,8,9,10,11,12], [10])])
def gain_Put.B11 : List Nat := [0,0,0,6,14,0,0,127,255,511,511,0,3071,8191]
theorem gain_Put.tab11 : rtab .any (opsOf Try.f28 11)=gain_Put.T11:=by kernel_rfl
theorem gain_Put.bits11 : waitsOk gain_Put.T11.2 gain_Put.B11=true:=by kernel_rfl
set_option maxHeartbeats 8000000 in
set_option maxRecDepth 100000 in
theorem gain_Put.calls (k : Nat) (bd : Int) (bf : Int) (aU : Nat→Prop) (a8 : Option Addr) (a9 : Nat) (aJ : List Int) (A1 : Option Addr) (c1 : Nat) (l1 : List Int) (A2 : Option Addr) (c2 : Nat) (l2 : List Int) (a3 : Bool) (r1 : Int) (r2 : Int) (r3 : List Int) (r4 : Int) (w : World) (dg : Kd.V (Kd.int .u8) 5 w w.heap.size (fun k_=>aU k_) (.slice a8 aJ.length a9) aJ) (hr1 : Kd.C (Kd.int .i64) w A1 l1.length l1) (hc1 : l1.length≤c1) (hr2 : Kd.C (Kd.int .i64) w A2 l2.length l2) (hc2 : l2.length≤c2) (h : gain_Put.f k bd bf aJ l1 l2 a3=some (r1,r2,r3,r4)) :
  Calls Try.prog 28 #[.agg #[.int .u64 bd, .int .u32 bf, .slice a8 aJ.length a9], .slice A1 l1.length c1, .slice A2 l2.length c2, .bool a3] w fun e w' => ∃ v2_ : Value,e=.returned (.tuple #[.agg #[.int .u64 r1, .int .u32 r2,v2_], .int .i64 r4])∧Kd.V (Kd.int .u8) 5 w' w.heap.size (fun k_=>(aU k_∨w.heap.size≤k_)) v2_ r3∧Below w.heap.size w w' := by
 have hu54:=Try.underlying54
 have ba:=zm (show Kd.V (Kd.int .u8) 5 w w.heap.size (fun k_=>(aU k_∨w.heap.size≤k_)) (.slice a8 aJ.length a9) aJ from zy dg (fun k_ hk => .inl hk))
 have HR1:=zm hr1;have HC1:=zm hc1;clear hr1 hc1;have HR2:=zm hr2;have HC2:=zm hc2;clear hr2 hc2;have HB:=zm (Below.refl w.heap.size w);have H:=h
 unfold gain_Put.f at H
 clear h
 obtain ⟨⟨bp,bq,aE,dm⟩,A5,H⟩:=ybi H
 try dsimp only at H
 have HC6:=zm H;clear H
 go_enter Try.func28,Try.ntmps28
 go_upto_region 2 with (first|((with_reducible refine gate_dst (N:=4) rfl ?_);refine ybx 4 #[.int .u64 bd, .int .u32 bf, .slice a8 aJ.length a9] 54 ?_;intro aG hg w7 hbox hb;replace ba:=yVe ba hg hb;have aj:=zm (hbox);have dz:=ygw hg;have dA:=ygw hg;replace HB:=ybs hb;clear hb hbox hg)|((with_reducible refine gate_dst (N:=8) rfl ?_);refine ybx 8 #[.int .u64 0, .int .u32 0, .slice none 0 0] 54 ?_;intro aC hg w8 hbox hb;replace ba:=yVe ba hg hb;have ai:=zm (hbox);have dB:=ygw hg;have dC:=ygw hg;replace HB:=ybs hb;have bb:=ynl aj hg;have bc:=yng aj hg;replace aj:=ybb aj hb;clear hb hbox hg;have:=bb.out;have:=bc.out;obtain ⟨cm,cn,co,cp,cq,cr⟩:=yc3 aj)|((with_reducible refine gate_callee (f:=26) rfl ?_);refine ygl 19 Try.func26 #[.agg #[.int .u64 bd, .int .u32 bf, .slice a8 aJ.length a9], .int .i64 0, .int .i64 1, .int .i64 0] ?_;(with_reducible refine (coder_Put.calls k bd bf _ _ aJ 0 1 0 bp bq aE dm _ ?aT ?bw A5.out).mono ?_);(case aT=>exact yce (Kd.V_reads' ba.out).2.2);(case bw=>exact (Kd.V_reads' ba.out).2.1);rintro e w11 ⟨dL,rfl,ho0,hb⟩;refine ⟨_,rfl, ?_⟩;replace ba:=zm (Kd.V_elder' (yr ba) (Kd.R_base ho0) hb);have bH:=zm (Kd.R_lower (Kd.R_newM (M:=fun k_=>(w.heap.size≤k_)) ho0 (zE yhb) (fun k_ h_=>h_)) (zE yhb));replace aj:=ybb aj hb;replace ai:=ybb ai hb;replace HB:=ybs hb;(try clear hb);(try clear ho0))|((with_reducible refine gate_dst (N:=10) rfl ?_);refine ybx 10 #[.int .u64 0, .int .u32 0, .slice none 0 0] 54 ?_;intro aH hg w12 hbox hb;replace ba:=yVe ba hg hb;replace bH:=yRb bH hb;have ak:=zm (hbox);have dD:=ygw hg;have dE:=ygw hg;replace HB:=ybs hb;have bh:=ynl aj hg;have bi:=yng aj hg;replace aj:=ybb aj hb;have bj:=ynl ai hg;have bk:=yng ai hg;replace ai:=ybb ai hb;clear hb hbox hg;have:=bi.out;have:=bh.out;have:=bk.out;have:=bj.out;obtain ⟨ct,cu,cv,cw,cx,cy⟩:=yc3 ak;obtain ⟨aK,aM,dp⟩:=Kd.R_slice bH.out;subst dp))
 (try simp only [Act.put,List.setIfInBounds_toArray,List.set_cons_zero,List.set_cons_succ])
 go_cut [33] (fun v33 wc => ∃ (kq : Nat) (bP : Bool),v33=.bool bP∧Aside0 (gain_Put.j0 kq l1 l2 a3 bP bd bf aJ bp bq aE=some (r1,r2,r3,r4))∧Aside0 (kq≤k)∧Aside0 (Kd.V (Kd.int .u8) 5 wc w.heap.size (fun k_=>(aU k_∨w.heap.size≤k_)∧some k_≠((.slice aK aE.length aM) : Value).ownBlock∧k_≠aG∧k_≠aC∧k_≠aH) (.slice a8 aJ.length a9) aJ)∧Aside0 (Kd.R (Kd.int .u8) 5 wc w.heap.size (fun k_=>(w.heap.size≤k_)) (.slice aK aE.length aM) aE)∧Aside0 (wc.heap[aG]? = some (.cells #[.int .u64 bd, .int .u32 bf,(.slice a8 aJ.length a9)] 54 (0,0)))∧Aside0 (wc.heap[aC]? = some (.cells #[.int .u64 0, .int .u32 0,(.slice none 0 0)] 54 (0,0)))∧Aside0 (wc.heap[aH]? = some (.cells #[.int .u64 bp, .int .u32 bq,(.slice aK aE.length aM)] 54 (0,0)))∧Aside0 (Below w.heap.size w wc))
 case first =>
  have H:=HC6.out;clear HC6
  obtain ⟨cZ,A17,H⟩:=ybi H
  by_cases c18 : cZ=true
  ·
   subst c18
   rw [if_pos rfl] at H
   by_cases c19 : a3=true
   ·
    subst c19
    rw [if_pos rfl] at H
    have H' := zm H
    clear H
    go_wp2_with (first|((with_reducible refine gate_callee (f:=62) rfl ?_);refine ygl 23 Try.func62 #[.slice A1 l1.length c1] ?_;(with_reducible refine (gain_Right.calls k _ _ l1 true _ ?aT HC1.out A17.out).mono ?_);(case aT=>exact Kd.C_below HR1.out yhb);rintro e w' ⟨rfl,⟨nd,rfl⟩⟩;refine ⟨_,rfl, ?_⟩))
    go_meet
    case rel=>exact ⟨_,(false),yq,H',⟨yo⟩,⟨yV0 ba⟩,⟨yR1 bH ak⟩,⟨yk aj⟩,⟨yk ai⟩,⟨ykp ak⟩,⟨yhb⟩⟩
   replace c19:=Bool.eq_false_iff.mpr c19
   subst c19
   rw [ynf] at H
   obtain ⟨cl,A20,H⟩:=ybi H
   have H' := zm H
   clear H
   go_wp2_with (first|((with_reducible refine gate_callee (f:=62) rfl ?_);refine ygl 23 Try.func62 #[.slice A1 l1.length c1] ?_;(with_reducible refine (gain_Right.calls k _ _ l1 true _ ?aT HC1.out A17.out).mono ?_);(case aT=>exact Kd.C_below HR1.out yhb);rintro e w' ⟨rfl,⟨nd,rfl⟩⟩;refine ⟨_,rfl, ?_⟩)|(go_at_call 62;(with_reducible refine (gain_Right.calls k _ _ l2 cl _ ?aT HC2.out A20.out).mono ?_);(case aT=>exact Kd.C_below HR2.out yhb);rintro e w' ⟨rfl,⟨nd,rfl⟩⟩))
   go_meet
   case rel=>exact ⟨_,(!cl),yq,H',⟨yo⟩,⟨yV0 ba⟩,⟨yR1 bH ak⟩,⟨yk aj⟩,⟨yk ai⟩,⟨ykp ak⟩,⟨yhb⟩⟩
  replace c18:=Bool.eq_false_iff.mpr c18
  subst c18
  rw [ynf] at H
  have H' := zm H
  clear H
  go_wp2_with (first|((with_reducible refine gate_callee (f:=62) rfl ?_);refine ygl 23 Try.func62 #[.slice A1 l1.length c1] ?_;(with_reducible refine (gain_Right.calls k _ _ l1 false _ ?aT HC1.out A17.out).mono ?_);(case aT=>exact Kd.C_below HR1.out yhb);rintro e w' ⟨rfl,⟨nd,rfl⟩⟩;refine ⟨_,rfl, ?_⟩))
  go_meet
  case rel=>exact ⟨_,(true),yq,H',⟨yo⟩,⟨yV0 ba⟩,⟨yR1 bH ak⟩,⟨yk aj⟩,⟨yk ai⟩,⟨ykp ak⟩,⟨yhb⟩⟩
 case rest =>
  clear HC6
  try clear c1
  try clear c2
  try clear cm
  try clear cn
  try clear co
  try clear ct
  try clear cu
  try clear cv
  try clear cp
  try clear cq
  try clear cr
  try clear cw
  try clear cx
  try clear cy
  obtain ⟨kq,bP,rfl,HA,HJ5,ae,ac,aj,ai,ak,HB⟩:=hcut
  obtain ⟨kj5,rfl⟩:=ysu kq (fun h=>by subst h;exact absurd HA.out (by simp [gain_Put.j0]))
  have H:=HA.out;clear HA
  simp only [gain_Put.j0] at H
  by_cases c21 : bP=true
  ·
   subst c21
   rw [if_pos rfl] at H
   simp only [Option.some.injEq,Prod.mk.injEq] at H
   obtain ⟨rfl,rfl,rfl,rfl⟩:=H
   have:=bi.out
   have:=bh.out
   have:=bk.out
   have:=bj.out
   obtain ⟨cz,cA,cB,cC,cD,cE⟩:=yc3 ak
   have:=bc.out
   have:=bb.out
   obtain ⟨cF,cG,cH,cI,cJ,cK⟩:=yc3 ai
   go_wp2
   refine bodyPost_ret (results_ct rfl _ _ aC 54 #[.int .u64 bp, .int .u32 bq, .slice aK aE.length aM] (0,0) _ rfl (ykp ai) Try.underlying54 rfl (by kernel_rfl)) rfl ?_
   exact ⟨_,ye,zy (Kd.R_V (by (with_reducible repeat (first|apply zo|apply zp|apply zq));exact zG (zH (p:=⟨aC,2,none⟩) (zH (p:=⟨aC,1,none⟩) (zH (p:=⟨aC,0,none⟩) (Kd.R_types ac.out ai.out (by decide)) (fun _ hk=>hk.2) (.int .u64 bp)) (fun _ hk=>hk.2) (.int .u32 bq)) (fun _ hk=>hk.2) (.slice aK aE.length aM)) (fun _ hk=>hk.1))) (fun k_ hk=>by first|exact ⟨(.inr (hk.1)),hk.2⟩|exact (.inr (hk))),yhb⟩
  replace c21:=Bool.eq_false_iff.mpr c21
  subst c21
  rw [ynf] at H
  have H' := zm H
  clear H
  have:=bb.out
  have:=bc.out
  have:=bh.out
  have:=bi.out
  obtain ⟨cL,cM,cN,cO,cP,cQ⟩:=yc3 aj
  go_wp2_with (first|((with_reducible refine gate_dst (N:=12) rfl ?_);refine ybx 12 #[.int .u64 0, .int .u32 0, .slice none 0 0] 54 ?_;intro ap hg w30 hbox hb;replace ae:=yVe ae hg hb;replace ac:=yRb ac hb;have ao:=zm (hbox);have dF:=ygw hg;have dG:=ygw hg;replace HB:=ybs hb;have bC:=ynl aj hg;have bD:=yng aj hg;replace aj:=ybb aj hb;have bl:=ynl ai hg;have bm:=yng ai hg;replace ai:=ybb ai hb;have bn:=ynl ak hg;have bo:=yng ak hg;replace ak:=ybb ak hb;clear hb hbox hg;have:=bD.out;have:=bC.out;have:=bm.out;have:=bl.out;have:=bo.out;have:=bn.out;obtain ⟨cR,cS,cT,cU,cV,cW⟩:=yc3 ao))
  go_loopg [36] kj5 (fun kq v36 w' => ∃ (aq : Int) (aN : Int) (aQ : Int) (al : Int) (am : Int) (ag : List Int) (bx : Value),v36=.int .i64 aq∧Aside0 (gain_Put.l0 kq l1 l2 a3 aq bp bq aE al am ag=some (r1,r2,r3,r4))∧Aside0 (kq≤kj5)∧Aside0 (Kd.V (Kd.int .u8) 5 w' w.heap.size (fun k_=>(aU k_∨w.heap.size≤k_)∧some k_≠((.slice aK aE.length aM) : Value).ownBlock∧k_≠aG∧k_≠aC∧k_≠aH∧k_≠ap) (.slice a8 aJ.length a9) aJ)∧Aside0 (Kd.R (Kd.int .u8) 5 w' w.heap.size (fun k_=>(w.heap.size≤k_)) (.slice aK aE.length aM) aE)∧Aside0 (Kd.V (Kd.int .u8) 5 w' w.heap.size (fun k_=>(aU k_∨w.heap.size≤k_)∧some k_≠((.slice aK aE.length aM) : Value).ownBlock∧k_≠aG∧k_≠aC∧k_≠aH∧k_≠ap) bx ag)∧Aside0 (w'.heap[aG]? = some (.cells #[.int .u64 bd, .int .u32 bf,(.slice a8 aJ.length a9)] 54 (0,0)))∧Aside0 (w'.heap[aC]? = some (.cells #[.int .u64 aN, .int .u32 aQ,(.slice none 0 0)] 54 (0,0)))∧Aside0 (w'.heap[aH]? = some (.cells #[.int .u64 bp, .int .u32 bq,(.slice aK aE.length aM)] 54 (0,0)))∧Aside0 (w'.heap[ap]? = some (.cells #[.int .u64 al, .int .u32 am,bx] 54 (0,0)))∧Aside0 (Below w.heap.size w w'))
  case atStart=>exact ⟨(0),(0),(0),(bd),(bf),(aJ),(.slice a8 aJ.length a9),yq,H',⟨Nat.le_refl _⟩,⟨yV0 ae⟩,⟨yR1 ac ao⟩,⟨yV0 ae⟩,⟨yk aj⟩,⟨yk ai⟩,⟨yk ak⟩,⟨ykp ao⟩,⟨yhb⟩⟩
  case round =>
   clear H'
   try clear cz
   try clear cA
   try clear cB
   try clear cF
   try clear cG
   try clear cH
   try clear cL
   try clear cM
   try clear cN
   try clear cR
   try clear cS
   try clear cT
   try clear cC
   try clear cD
   try clear cE
   try clear cI
   try clear cJ
   try clear cK
   try clear cO
   try clear cP
   try clear cQ
   try clear cU
   try clear cV
   try clear cW
   obtain ⟨aq,aN,aQ,al,am,ag,bx,rfl,HA,HK2,ae,ac,aa,aj,ai,ak,ao,HB⟩:=hrel
   obtain ⟨k2,rfl⟩:=ysu gk (fun h=>by subst h;exact absurd HA.out (by simp [gain_Put.l0]))
   have H:=HA.out;clear HA
   simp only [gain_Put.l0] at H
   by_cases c35 : aq < 5
   ·
    rw [if_pos c35] at H
    have cX:=yD c35
    clear c35;have da:=zm H;clear H
    go_upto_if 40 with (fail)
    go_cut [14] (fun v14 wc => ∃ (kq : Nat) (aX : Int),v14=.int .i64 aX∧Aside0 (gain_Put.j2 kq l1 l2 a3 aq aX aq bp bq aE al am ag=some (r1,r2,r3,r4))∧Aside0 (kq≤k2)∧Aside0 (Kd.V (Kd.int .u8) 5 wc w.heap.size (fun k_=>(aU k_∨w.heap.size≤k_)∧some k_≠((.slice aK aE.length aM) : Value).ownBlock∧k_≠aG∧k_≠aC∧k_≠aH∧k_≠ap) (.slice a8 aJ.length a9) aJ)∧Aside0 (Kd.R (Kd.int .u8) 5 wc w.heap.size (fun k_=>(w.heap.size≤k_)) (.slice aK aE.length aM) aE)∧Aside0 (Kd.V (Kd.int .u8) 5 wc w.heap.size (fun k_=>(aU k_∨w.heap.size≤k_)∧some k_≠((.slice aK aE.length aM) : Value).ownBlock∧k_≠aG∧k_≠aC∧k_≠aH∧k_≠ap) bx ag)∧Aside0 (wc.heap[aG]? = some (.cells #[.int .u64 bd, .int .u32 bf,(.slice a8 aJ.length a9)] 54 (0,0)))∧Aside0 (wc.heap[aC]? = some (.cells #[.int .u64 aN, .int .u32 aQ,(.slice none 0 0)] 54 (0,0)))∧Aside0 (wc.heap[aH]? = some (.cells #[.int .u64 bp, .int .u32 bq,(.slice aK aE.length aM)] 54 (0,0)))∧Aside0 (wc.heap[ap]? = some (.cells #[.int .u64 al, .int .u32 am,bx] 54 (0,0)))∧Aside0 (Below w.heap.size w wc))
    case first =>
     have H:=da.out;clear da
     by_cases c37 : a3=true
     ·
      subst c37
      rw [if_pos rfl] at H
      have H' := zm H
      clear H
      go_wp2
      go_meet
      case rel=>exact ⟨_,(0),yq,H',⟨yom2 HJ5 HK2⟩,⟨yr ae⟩,⟨yr ac⟩,⟨yr aa⟩,⟨yk aj⟩,⟨yk ai⟩,⟨yk ak⟩,⟨yk ao⟩,⟨yhb⟩⟩
     replace c37:=Bool.eq_false_iff.mpr c37
     subst c37
     rw [ynf] at H
     obtain ⟨c38,H⟩:=yif H
     have cY : decide (0≤aq)=true:=decide_eq_true c38
     clear c38
     (first|rw [cY]|(simp only [i64_w,i32_w];rw [cY])|skip)
     obtain ⟨c39,H⟩:=yif H
     have dH : decide (aq < (l2.length : Int))=true:=decide_eq_true c39
     clear c39
     have H' := zm H
     clear H
     have db : 0≤(aq : Int):=yt
     have dc : aq < (l2.length : Int):=yt
     obtain ⟨dI,dq,bQ⟩:=Kd.at_int HR2.out aq db dc
     cases dq
     replace bQ:=yhx HB bQ
     replace db:=eq_true db
     replace dc:=eq_true dc
     go_wp2
     go_meet
     case rel=>exact ⟨_,(rd l2 aq),yq,H',⟨yom2 HJ5 HK2⟩,⟨yr ae⟩,⟨yr ac⟩,⟨yr aa⟩,⟨yk aj⟩,⟨yk ai⟩,⟨yk ak⟩,⟨yk ao⟩,⟨yhb⟩⟩
    case rest =>
     clear da
     try clear cX
     obtain ⟨kq,aX,rfl,HA,dh,ae,ac,aa,aj,ai,ak,ao,HB⟩:=hcut
     obtain ⟨bR,rfl⟩:=ysu kq (fun h=>by subst h;exact absurd HA.out (by simp [gain_Put.j2]))
     have H:=HA.out;clear HA
     simp only [gain_Put.j2] at H
     obtain ⟨c40,H⟩:=yif H
     have dJ : decide (0≤aq)=true:=decide_eq_true c40
     clear c40
     obtain ⟨c41,H⟩:=yif H
     have dK : decide (aq < (l1.length : Int))=true:=decide_eq_true c41
     clear c41
     obtain ⟨⟨bz,bA,bE,bF⟩,A42,H⟩:=ybi H
     try dsimp only at H
     by_cases c43 : bF=0
     ·
      rw [if_pos c43] at H
      obtain ⟨di,dj⟩:=yE c43
      clear c43
      have H' := zm H
      clear H
      obtain ⟨bI,bJ,dr⟩:=Kd.V_slice aa.out
      subst dr
      try go_wp2
      replace ae:=zm (zC ae.out)
      replace ac:=zm (zq ac.out)
      replace aa:=zm (zC aa.out)
      replace aj:=zm (zj aj.out)
      replace ai:=zm (zj ai.out)
      replace ak:=zm (zj ak.out)
      replace ao:=zm (zj ao.out)
      replace HB:=zm (zf HB.out)
      have bN : 0≤(aq : Int):=yt
      have bO : aq < (l1.length : Int):=yt
      obtain ⟨bG,dd,aW⟩:=Kd.at_int HR1.out aq bN bO
      have hw279_0:=aW
      cases dd
      replace aW:=yhx HB aW
      replace bN:=eq_true bN
      replace bO:=eq_true bO
      refine yst (fun w' => w'.cell? ⟨ap,0,none⟩=some (.int .u64 al)∧w'.cell? ⟨ap,1,none⟩=some (.int .u32 am)∧w'.cell? ⟨ap,2,none⟩=some (.slice bI ag.length bJ)∧w'.cell? (bG.add (aq).toNat)=some (.int .i64 (rd l1 aq))) [] 14 gain_Put.tab11 gain_Put.bits11 (fun hHeld HT_ HW_ => ?_)
      generalize wc.drew=w45 at ae ac aa aj ai ak ao HB aW hHeld ⊢
      refine yp 1 47 HT_ ?_
      refine yp 2 48 HT_ ?_
      refine yp 3 49 HT_ ?_
      refine yp 5 51 HT_ ?_
      refine yp 6 52 HT_ ?_
      refine yl 0 46 HT_ HW_ hHeld ?_
      refine yl 4 50 HT_ HW_ hHeld ?_
      refine join_ (σ:=Value × Nat) 2 #[true,true,true,true,true,true,true,true,true,true,true,true,false,false] (fun s_ => [(53, .tuple #[.agg #[.int .u64 bz, .int .u32 bA,s_.1], .int .i64 bF]),(15, .pointer (some ⟨s_.2,0,none⟩)),(45, .tuple #[.agg #[.int .u64 bz, .int .u32 bA,s_.1], .int .i64 bF]),(54, .agg #[.int .u64 bz, .int .u32 bA,s_.1]),(55, .int .i64 bF)]) (fun s_ w' => (w'.cell? ⟨ap,0,none⟩=some (.int .u64 al)∧w'.cell? ⟨ap,1,none⟩=some (.int .u32 am)∧w'.cell? ⟨ap,2,none⟩=some (.slice bI ag.length bJ)∧w'.cell? (bG.add (aq).toNat)=some (.int .i64 (rd l1 aq)))∧(Kd.R (Kd.int .u8) 5 w' w.heap.size (fun k_=>(w.heap.size≤k_)∧some k_≠(.slice aK aE.length aM : Value).ownBlock) s_.1 bE)∧(Kd.V (Kd.int .u8) 5 w' w.heap.size (fun k_=>(aU k_∨w.heap.size≤k_)∧some k_≠(s_.1 : Value).ownBlock∧some k_≠(.slice aK aE.length aM : Value).ownBlock∧k_≠aG∧k_≠aC∧k_≠aH∧k_≠ap∧k_≠s_.2) (.slice a8 aJ.length a9) aJ)∧(Kd.R (Kd.int .u8) 5 w' w.heap.size (fun k_=>(w.heap.size≤k_)∧some k_≠(s_.1 : Value).ownBlock) (.slice aK aE.length aM) aE)∧(Kd.V (Kd.int .u8) 5 w' w.heap.size (fun k_=>(aU k_∨w.heap.size≤k_)∧some k_≠(s_.1 : Value).ownBlock∧some k_≠(.slice aK aE.length aM : Value).ownBlock∧k_≠aG∧k_≠aC∧k_≠aH∧k_≠ap∧k_≠s_.2) (.slice bI ag.length bJ) ag)∧(w'.heap[aG]? = some (.cells #[.int .u64 bd, .int .u32 bf, .slice a8 aJ.length a9] 54 (0,0)))∧(w'.heap[aC]? = some (.cells #[.int .u64 aN, .int .u32 aQ, .slice none 0 0] 54 (0,0)))∧(w'.heap[aH]? = some (.cells #[.int .u64 bp, .int .u32 bq, .slice aK aE.length aM] 54 (0,0)))∧(w'.heap[ap]? = some (.cells #[.int .u64 al, .int .u32 am, .slice bI ag.length bJ] 54 (0,0)))∧(w'.heap[s_.2]? = some (.cells #[.int .u64 0, .int .u32 0, .slice none 0 0] 54 (0,0)))∧(w.heap.size≤s_.2)∧(w.heap.size≤s_.2)∧(aG≠s_.2)∧(s_.2≠aG)∧(aC≠s_.2)∧(s_.2≠aC)∧(aH≠s_.2)∧(s_.2≠aH)∧(ap≠s_.2)∧(s_.2≠ap)∧(Below w.heap.size w w')) ?_ ?_
      rotate_left
      ·
       intro hCont
       refine two_ (i:=7) (j:=11) (Ni:=some 53) (Nj:=some 15) #[true,true,true,true,true,true,true,true,false,false,false,false,false,false] #[true,true,true,true,true,true,true,false,false,false,false,true,false,false] rfl rfl rfl rfl (two_of HT_.out (by kernel_rfl)) (by decide) (by decide) (fun K hK => ?_) (fun K hK => ?_)
       ·
        skip
        refine ygs Try.func67 #[.agg #[.int .u64 al, .int .u32 am, .slice bI ag.length bJ], .int .i64 (rd l1 aq), .int .i64 aX, .bool a3] ?_
        with_reducible refine (gain_put.calls bR al am _ _ ag (rd l1 aq) aX a3 bz bA bE bF _ ?aT ?bw A42.out).mono ?_
        (case aT=>exact yce (Kd.V_reads' aa.out).2.2)
        (case bw=>exact (Kd.V_reads' aa.out).2.1)
        rintro e w46 ⟨bg,rfl,ho0,hb⟩
        refine ⟨_,rfl, ?_⟩
        replace ae:=zm (Kd.V_elder' (yr ae) (Kd.R_base ho0) hb)
        replace aa:=zm (Kd.V_elder' (yr aa) (Kd.R_base ho0) hb)
        have aV:=zm (Kd.R_lower (Kd.R_new' (Kd.R_newM (M:=fun k_=>(w.heap.size≤k_)) ho0 (zE yhb) (fun k_ h_=>h_)) (Kd.R_lt (yr ac))) (zE yhb))
        replace ac:=zm (Kd.R_elder' (yr ac) (Kd.R_base ho0) hb)
        replace aj:=ybb aj hb
        replace ai:=ybb ai hb
        replace ak:=ybb ak hb
        replace ao:=ybb ao hb
        replace HB:=ybs hb
        (try clear hb)
        (try clear ho0)
        refine hK.out _ _ yH (fun hHeld => ?_)
        clear hK K
        refine ym (some 53) ?_
        refine yp 8 45 HT_ ?_
        refine yp 9 54 HT_ ?_
        refine yp 10 55 HT_ ?_
        refine yw 11 15 HT_ (fun K hK => ?_)
        refine box_step ?hg (N:=15) ?hd (cs := #[.int .u64 0, .int .u32 0, .slice none 0 0]) (t:=54) ?hr ?_;(case hd=>rfl);(case hg=>rfl);(case hr=>first|(go_simp;done)|(go_simp;rfl))
        intro ah hg w47 hbox hb
        replace ae:=yVe ae hg hb
        replace ac:=yRb ac hb
        replace aa:=yVe aa hg hb
        replace aV:=yRb aV hb
        have aI:=zm (hbox)
        have aD:=ygw hg
        have bB:=ygw hg
        replace HB:=ybs hb
        have ay:=ynl aj hg
        have az:=yng aj hg
        replace aj:=ybb aj hb
        have au:=ynl ai hg
        have av:=yng ai hg
        replace ai:=ybb ai hb
        have aw:=ynl ak hg
        have ax:=yng ak hg
        replace ak:=ybb ak hb
        have af:=ynl ao hg
        have aA:=yng ao hg
        replace ao:=ybb ao hb
        clear hb hbox hg
        refine hK.out _ _ yH (fun hHeld => ?_)
        clear hK K
        refine ym (some 15) ?_
        exact norm_ (by simp only [putAll,Act.put,List.setIfInBounds_toArray,List.set_cons_zero,List.set_cons_succ]) (hCont (bg,ah) _ ⟨hHeld,(yR0 aV),(yV0 ae),(yr ac),(yV0 aa),(yk aj),(yk ai),(yk ak),(yk ao),(yk aI),aD.out,bB.out,ay.out,az.out,au.out,av.out,aw.out,ax.out,af.out,aA.out,yhb⟩)
       skip
       refine box_step ?hg (N:=15) ?hd (cs := #[.int .u64 0, .int .u32 0, .slice none 0 0]) (t:=54) ?hr ?_;(case hd=>rfl);(case hg=>rfl);(case hr=>first|(go_simp;done)|(go_simp;rfl))
       intro ah hg w46 hbox hb
       replace ae:=yVe ae hg hb
       replace ac:=yRb ac hb
       replace aa:=yVe aa hg hb
       have aI:=zm (hbox)
       have aD:=ygw hg
       have bB:=ygw hg
       replace HB:=ybs hb
       have ay:=ynl aj hg
       have az:=yng aj hg
       replace aj:=ybb aj hb
       have au:=ynl ai hg
       have av:=yng ai hg
       replace ai:=ybb ai hb
       have aw:=ynl ak hg
       have ax:=yng ak hg
       replace ak:=ybb ak hb
       have af:=ynl ao hg
       have aA:=yng ao hg
       replace ao:=ybb ao hb
       clear hb hbox hg
       refine hK.out _ _ yH (fun hHeld => ?_)
       clear hK K
       refine ym (some 15) ?_
       refine yw 7 53 HT_ (fun K hK => ?_)
       refine ygs Try.func67 #[.agg #[.int .u64 al, .int .u32 am, .slice bI ag.length bJ], .int .i64 (rd l1 aq), .int .i64 aX, .bool a3] ?_
       with_reducible refine (gain_put.calls bR al am _ _ ag (rd l1 aq) aX a3 bz bA bE bF _ ?aT ?bw A42.out).mono ?_
       (case aT=>exact yce (Kd.V_reads' aa.out).2.2)
       (case bw=>exact (Kd.V_reads' aa.out).2.1)
       rintro e w47 ⟨bg,rfl,ho0,hb⟩
       refine ⟨_,rfl, ?_⟩
       replace ae:=zm (Kd.V_elder' (yr ae) (Kd.R_base ho0) hb)
       replace aa:=zm (Kd.V_elder' (yr aa) (Kd.R_base ho0) hb)
       have aV:=zm (Kd.R_lower (Kd.R_new' (Kd.R_newM (M:=fun k_=>(w.heap.size≤k_)) ho0 (zE yhb) (fun k_ h_=>h_)) (Kd.R_lt (yr ac))) (zE yhb))
       replace ac:=zm (Kd.R_elder' (yr ac) (Kd.R_base ho0) hb)
       replace aj:=ybb aj hb
       replace ai:=ybb ai hb
       replace ak:=ybb ak hb
       replace ao:=ybb ao hb
       replace aI:=ybb aI hb
       replace HB:=ybs hb
       (try clear hb)
       (try clear ho0)
       refine hK.out _ _ yH (fun hHeld => ?_)
       clear hK K
       refine ym (some 53) ?_
       refine yp 8 45 HT_ ?_
       refine yp 9 54 HT_ ?_
       refine yp 10 55 HT_ ?_
       exact norm_ (by simp only [putAll,Act.put,List.setIfInBounds_toArray,List.set_cons_zero,List.set_cons_succ]) (hCont (bg,ah) _ ⟨hHeld,(yR0 aV),(yV0 ae),(yr ac),(yV0 aa),(yk aj),(yk ai),(yk ak),(yk ao),(yk aI),aD.out,bB.out,ay.out,az.out,au.out,av.out,aw.out,ax.out,af.out,aA.out,yhb⟩)
      rintro ⟨bg,ah⟩ w48 ⟨hS_,h0_,h1_,h2_,h3_,h4_,h5_,h6_,h7_,h8_,h9_,bS,bT,bU,bV,bW,bX,bY,bZ,b4,b5⟩
      have n0_ : Aside0 (Kd.R (Kd.int .u8) 5 w48 w.heap.size (fun k_=>(w.heap.size≤k_)∧some k_≠(.slice aK aE.length aM : Value).ownBlock) bg bE):=⟨h0_⟩
      have n1_ : Aside0 (Kd.V (Kd.int .u8) 5 w48 w.heap.size (fun k_=>(aU k_∨w.heap.size≤k_)∧some k_≠(bg : Value).ownBlock∧some k_≠(.slice aK aE.length aM : Value).ownBlock∧k_≠aG∧k_≠aC∧k_≠aH∧k_≠ap∧k_≠ah) (.slice a8 aJ.length a9) aJ):=⟨h1_⟩
      have n2_ : Aside0 (Kd.R (Kd.int .u8) 5 w48 w.heap.size (fun k_=>(w.heap.size≤k_)∧some k_≠(bg : Value).ownBlock) (.slice aK aE.length aM) aE):=⟨h2_⟩
      have n3_ : Aside0 (Kd.V (Kd.int .u8) 5 w48 w.heap.size (fun k_=>(aU k_∨w.heap.size≤k_)∧some k_≠(bg : Value).ownBlock∧some k_≠(.slice aK aE.length aM : Value).ownBlock∧k_≠aG∧k_≠aC∧k_≠aH∧k_≠ap∧k_≠ah) (.slice bI ag.length bJ) ag):=⟨h3_⟩
      have n4_ : Aside0 (w48.heap[aG]? = some (.cells #[.int .u64 bd, .int .u32 bf, .slice a8 aJ.length a9] 54 (0,0))):=⟨h4_⟩
      have n5_ : Aside0 (w48.heap[aC]? = some (.cells #[.int .u64 aN, .int .u32 aQ, .slice none 0 0] 54 (0,0))):=⟨h5_⟩
      have n6_ : Aside0 (w48.heap[aH]? = some (.cells #[.int .u64 bp, .int .u32 bq, .slice aK aE.length aM] 54 (0,0))):=⟨h6_⟩
      have n7_ : Aside0 (w48.heap[ap]? = some (.cells #[.int .u64 al, .int .u32 am, .slice bI ag.length bJ] 54 (0,0))):=⟨h7_⟩
      have n8_ : Aside0 (w48.heap[ah]? = some (.cells #[.int .u64 0, .int .u32 0, .slice none 0 0] 54 (0,0))):=⟨h8_⟩
      have n9_ : Aside0 (w.heap.size≤ah):=⟨h9_⟩
      have b6 : Aside0 (w.heap.size≤ah):=⟨bS⟩
      have b7 : Aside0 (aG≠ah):=⟨bT⟩
      have b8 : Aside0 (ah≠aG):=⟨bU⟩
      have b9 : Aside0 (aC≠ah):=⟨bV⟩
      have ca : Aside0 (ah≠aC):=⟨bW⟩
      have cb : Aside0 (aH≠ah):=⟨bX⟩
      have ce : Aside0 (ah≠aH):=⟨bY⟩
      have cf : Aside0 (ap≠ah):=⟨bZ⟩
      have cg : Aside0 (ah≠ap):=⟨b4⟩
      have ch : Aside0 (Below w.heap.size w w48):=⟨b5⟩
      clear ae ac aa aj ai ak ao HB h0_ h1_ h2_ h3_ h4_ h5_ h6_ h7_ h8_ h9_ bS bT bU bV bW bX bY bZ b4 b5;have aV:=n0_;have ae:=n1_;have ac:=n2_;have aa:=n3_;have aj:=n4_;have ai:=n5_;have ak:=n6_;have ao:=n7_;have aI:=n8_;have aD:=n9_;have bB:=b6;have ay:=b7;have az:=b8;have au:=b9;have av:=ca;have aw:=cb;have ax:=ce;have af:=cf;have aA:=cg;have HB:=ch;clear n0_ n1_ n2_ n3_ n4_ n5_ n6_ n7_ n8_ n9_ b6 b7 b8 b9 ca cb ce cf cg ch
      have hHeld : w48.cell? ⟨ap,0,none⟩=some (.int .u64 al)∧w48.cell? ⟨ap,1,none⟩=some (.int .u32 am)∧w48.cell? ⟨ap,2,none⟩=some (.slice bI ag.length bJ)∧w48.cell? (bG.add (aq).toNat)=some (.int .i64 (rd l1 aq)):=hS_
      obtain ⟨de,df,dk⟩:=Kd.R_slice aV.out
      (first|subst dk|(injection dk with f1_ f2_ f3_;have f4_:=f1_.symm;have f5_:=f3_.symm;clear f1_ f2_ f3_;subst f4_;subst f5_))
      refine norm_ (a' := ?_) ?_ ?_
      rotate_left
      ·
       simp only [putAll,Act.put,List.setIfInBounds_toArray,List.set_cons_zero,List.set_cons_succ]
       rfl
      refine yv 12 HT_ (fun K hK => ?_)
      have dM : w48.cell? ⟨ah,0,none⟩=some (.int .u64 0):=(zs aI.out 0).trans rfl
      have hfs49:=zx aI.out 0
      have:=ay.out
      have:=au.out
      have:=aw.out
      have:=af.out
      have:=az.out
      have:=av.out
      have:=ax.out
      have:=aA.out
      have dN : w48.cell? ⟨ah,1,none⟩=some (.int .u32 0):=(zs aI.out 1).trans rfl
      have hfs50:=zx aI.out 1
      have:=ay.out
      have:=au.out
      have:=aw.out
      have:=af.out
      have:=az.out
      have:=av.out
      have:=ax.out
      have:=aA.out
      have dO : w48.cell? ⟨ah,2,none⟩=some (.slice none 0 0):=(zs aI.out 2).trans rfl
      have hfs52:=zx aI.out 2
      have:=ay.out
      have:=au.out
      have:=aw.out
      have:=af.out
      have:=az.out
      have:=av.out
      have:=ax.out
      have:=aA.out
      refine skip_ (w1 := ?_) (by rfl) rfl ?_ ?_
      rotate_left
      ·
       go_simp
       rfl
      refine hK.out _ _ ⟨((zr (p:=⟨ah,_,none⟩) af.out _).trans (((zr (p:=⟨ah,_,none⟩) af.out _).trans (((zr (p:=⟨ah,_,none⟩) af.out _).trans (hHeld.1)))))),((zr (p:=⟨ah,_,none⟩) af.out _).trans (((zr (p:=⟨ah,_,none⟩) af.out _).trans (((zr (p:=⟨ah,_,none⟩) af.out _).trans (hHeld.2.1)))))),((zr (p:=⟨ah,_,none⟩) af.out _).trans (((zr (p:=⟨ah,_,none⟩) af.out _).trans (((zr (p:=⟨ah,_,none⟩) af.out _).trans (hHeld.2.2.1)))))),((zr (p:=⟨ah,_,none⟩) (by first|exact zn (zl (by have:=zb _ _ hw279_0;first|rwa [za] at this|exact this) aD.out)|(rw [za];exact zn (zl (by have:=zb _ _ hw279_0;first|rwa [za] at this|exact this) aD.out))|(show (Addr.add _ _).block≠_;rw [za];exact zn (zl (by have:=zb _ _ hw279_0;first|rwa [za] at this|exact this) aD.out))|(dsimp only;exact zn (zl (by have:=zb _ _ hw279_0;first|rwa [za] at this|exact this) aD.out))) _).trans (((zr (p:=⟨ah,_,none⟩) (by first|exact zn (zl (by have:=zb _ _ hw279_0;first|rwa [za] at this|exact this) aD.out)|(rw [za];exact zn (zl (by have:=zb _ _ hw279_0;first|rwa [za] at this|exact this) aD.out))|(show (Addr.add _ _).block≠_;rw [za];exact zn (zl (by have:=zb _ _ hw279_0;first|rwa [za] at this|exact this) aD.out))|(dsimp only;exact zn (zl (by have:=zb _ _ hw279_0;first|rwa [za] at this|exact this) aD.out))) _).trans (((zr (p:=⟨ah,_,none⟩) (by first|exact zn (zl (by have:=zb _ _ hw279_0;first|rwa [za] at this|exact this) aD.out)|(rw [za];exact zn (zl (by have:=zb _ _ hw279_0;first|rwa [za] at this|exact this) aD.out))|(show (Addr.add _ _).block≠_;rw [za];exact zn (zl (by have:=zb _ _ hw279_0;first|rwa [za] at this|exact this) aD.out))|(dsimp only;exact zn (zl (by have:=zb _ _ hw279_0;first|rwa [za] at this|exact this) aD.out))) _).trans (hHeld.2.2.2))))))⟩ (fun hHeld => ?_)
      clear hK K
      refine yp 13 16 HT_ ?_
      refine done_ (done_of HT_.out (by kernel_rfl)) ?_
      have:=az.out
      have:=ay.out
      have:=av.out
      have:=au.out
      have:=ax.out
      have:=aw.out
      have:=aA.out
      have:=af.out
      obtain ⟨_,_,_,_,_,_⟩:=yc3 aI
      have:=bD.out
      have:=bC.out
      have:=bm.out
      have:=bl.out
      have:=bo.out
      have:=bn.out
      obtain ⟨_,_,_,_,_,_⟩:=yc3 ao
      try go_wp2
      go_roundg bR
      case measure=>exact yom3 HJ5 HK2 dh
      case rel=>exact ⟨(wrap64 (aq+1)),(aN),(aQ),(bz),(bA),(bE),(.slice de bE.length df),yq,H',⟨yom3 HJ5 HK2 dh⟩,⟨yV0 ae⟩,⟨yR2 ac aI ao⟩,⟨zy (Kd.R_V (ok:=fun k_=>w.heap.size≤k_∧some k_≠((.slice aK aE.length aM) : Value).ownBlock∧k_≠aG∧k_≠aC∧k_≠aH∧k_≠ap) (by (with_reducible repeat (first|apply zo|apply zp|apply zq));exact zG (zH (p:=⟨ap,2,none⟩) (zH (p:=⟨ap,1,none⟩) (zH (p:=⟨ap,0,none⟩) (zH (p:=⟨ah,2,none⟩) (zH (p:=⟨ah,1,none⟩) (zH (p:=⟨ah,0,none⟩) (Kd.R_types (Kd.R_types (Kd.R_types (Kd.R_types (Kd.R_types (Kd.R_types aV.out aj.out (by decide)) ai.out (by decide)) ak.out (by decide)) ao.out (by decide)) aI.out (by decide)) ao.out (by decide)) (fun _ hk=>hk.1.2) (.int .u64 bz)) (fun _ hk=>hk.1.2) (.int .u32 bA)) (fun _ hk=>hk.1.2) (.slice de bE.length df)) (fun _ hk=>hk.2) (.int .u64 bz)) (fun _ hk=>hk.2) (.int .u32 bA)) (fun _ hk=>hk.2) (.slice de bE.length df)) (fun _ hk=>⟨hk.1.1.1.1.1.1.1,⟨hk.1.1.1.1.1.1.2,⟨hk.1.1.1.1.1.2,⟨hk.1.1.1.1.2,⟨hk.1.1.1.2,hk.1.1.2⟩⟩⟩⟩⟩))) (fun k_ hk=>by first|exact ⟨(.inr (hk.1)),hk.2⟩|exact (.inr (hk)))⟩,⟨yk aj⟩,⟨yk ai⟩,⟨yk ak⟩,⟨ykp ao⟩,⟨yhb⟩⟩
     rw [if_neg c43] at H
     obtain ⟨di,dj⟩:=yF c43
     simp only [Option.some.injEq,Prod.mk.injEq] at H
     obtain ⟨rfl,rfl,rfl,rfl⟩:=H
     obtain ⟨bK,bL,dt⟩:=Kd.V_slice aa.out
     subst dt
     try go_wp2
     replace ae:=zm (zC ae.out)
     replace ac:=zm (zq ac.out)
     replace aa:=zm (zC aa.out)
     replace aj:=zm (zj aj.out)
     replace ai:=zm (zj ai.out)
     replace ak:=zm (zj ak.out)
     replace ao:=zm (zj ao.out)
     replace HB:=zm (zf HB.out)
     have bN : 0≤(aq : Int):=yt
     have bO : aq < (l1.length : Int):=yt
     obtain ⟨bG,dd,aW⟩:=Kd.at_int HR1.out aq bN bO
     have hw279_0:=aW
     cases dd
     replace aW:=yhx HB aW
     replace bN:=eq_true bN
     replace bO:=eq_true bO
     refine yst (fun w' => w'.cell? ⟨ap,0,none⟩=some (.int .u64 al)∧w'.cell? ⟨ap,1,none⟩=some (.int .u32 am)∧w'.cell? ⟨ap,2,none⟩=some (.slice bK ag.length bL)∧w'.cell? (bG.add (aq).toNat)=some (.int .i64 (rd l1 aq))) [] 14 gain_Put.tab11 gain_Put.bits11 (fun hHeld HT_ HW_ => ?_)
     generalize wc.drew=w63 at ae ac aa aj ai ak ao HB aW hHeld ⊢
     refine yp 1 47 HT_ ?_
     refine yp 2 48 HT_ ?_
     refine yp 3 49 HT_ ?_
     refine yp 5 51 HT_ ?_
     refine yp 6 52 HT_ ?_
     refine yl 0 46 HT_ HW_ hHeld ?_
     refine yl 4 50 HT_ HW_ hHeld ?_
     refine join_ (σ:=Value × Nat) 2 #[true,true,true,true,true,true,true,true,true,true,true,true,false,false] (fun s_ => [(53, .tuple #[.agg #[.int .u64 bz, .int .u32 bA,s_.1], .int .i64 bF]),(15, .pointer (some ⟨s_.2,0,none⟩)),(45, .tuple #[.agg #[.int .u64 bz, .int .u32 bA,s_.1], .int .i64 bF]),(54, .agg #[.int .u64 bz, .int .u32 bA,s_.1]),(55, .int .i64 bF)]) (fun s_ w' => (w'.cell? ⟨ap,0,none⟩=some (.int .u64 al)∧w'.cell? ⟨ap,1,none⟩=some (.int .u32 am)∧w'.cell? ⟨ap,2,none⟩=some (.slice bK ag.length bL)∧w'.cell? (bG.add (aq).toNat)=some (.int .i64 (rd l1 aq)))∧(Kd.R (Kd.int .u8) 5 w' w.heap.size (fun k_=>(w.heap.size≤k_)∧some k_≠(.slice aK aE.length aM : Value).ownBlock) s_.1 bE)∧(Kd.V (Kd.int .u8) 5 w' w.heap.size (fun k_=>(aU k_∨w.heap.size≤k_)∧some k_≠(s_.1 : Value).ownBlock∧some k_≠(.slice aK aE.length aM : Value).ownBlock∧k_≠aG∧k_≠aC∧k_≠aH∧k_≠ap∧k_≠s_.2) (.slice a8 aJ.length a9) aJ)∧(Kd.R (Kd.int .u8) 5 w' w.heap.size (fun k_=>(w.heap.size≤k_)∧some k_≠(s_.1 : Value).ownBlock) (.slice aK aE.length aM) aE)∧(Kd.V (Kd.int .u8) 5 w' w.heap.size (fun k_=>(aU k_∨w.heap.size≤k_)∧some k_≠(s_.1 : Value).ownBlock∧some k_≠(.slice aK aE.length aM : Value).ownBlock∧k_≠aG∧k_≠aC∧k_≠aH∧k_≠ap∧k_≠s_.2) (.slice bK ag.length bL) ag)∧(w'.heap[aG]? = some (.cells #[.int .u64 bd, .int .u32 bf, .slice a8 aJ.length a9] 54 (0,0)))∧(w'.heap[aC]? = some (.cells #[.int .u64 aN, .int .u32 aQ, .slice none 0 0] 54 (0,0)))∧(w'.heap[aH]? = some (.cells #[.int .u64 bp, .int .u32 bq, .slice aK aE.length aM] 54 (0,0)))∧(w'.heap[ap]? = some (.cells #[.int .u64 al, .int .u32 am, .slice bK ag.length bL] 54 (0,0)))∧(w'.heap[s_.2]? = some (.cells #[.int .u64 0, .int .u32 0, .slice none 0 0] 54 (0,0)))∧(w.heap.size≤s_.2)∧(w.heap.size≤s_.2)∧(aG≠s_.2)∧(s_.2≠aG)∧(aC≠s_.2)∧(s_.2≠aC)∧(aH≠s_.2)∧(s_.2≠aH)∧(ap≠s_.2)∧(s_.2≠ap)∧(Below w.heap.size w w')) ?_ ?_
     rotate_left
     ·
      intro hCont
      refine two_ (i:=7) (j:=11) (Ni:=some 53) (Nj:=some 15) #[true,true,true,true,true,true,true,true,false,false,false,false,false,false] #[true,true,true,true,true,true,true,false,false,false,false,true,false,false] rfl rfl rfl rfl (two_of HT_.out (by kernel_rfl)) (by decide) (by decide) (fun K hK => ?_) (fun K hK => ?_)
      ·
       skip
       refine ygs Try.func67 #[.agg #[.int .u64 al, .int .u32 am, .slice bK ag.length bL], .int .i64 (rd l1 aq), .int .i64 aX, .bool a3] ?_
       with_reducible refine (gain_put.calls bR al am _ _ ag (rd l1 aq) aX a3 bz bA bE bF _ ?aT ?bw A42.out).mono ?_
       (case aT=>exact yce (Kd.V_reads' aa.out).2.2)
       (case bw=>exact (Kd.V_reads' aa.out).2.1)
       rintro e w64 ⟨bg,rfl,ho0,hb⟩
       refine ⟨_,rfl, ?_⟩
       replace ae:=zm (Kd.V_elder' (yr ae) (Kd.R_base ho0) hb)
       replace aa:=zm (Kd.V_elder' (yr aa) (Kd.R_base ho0) hb)
       have aV:=zm (Kd.R_lower (Kd.R_new' (Kd.R_newM (M:=fun k_=>(w.heap.size≤k_)) ho0 (zE yhb) (fun k_ h_=>h_)) (Kd.R_lt (yr ac))) (zE yhb))
       replace ac:=zm (Kd.R_elder' (yr ac) (Kd.R_base ho0) hb)
       replace aj:=ybb aj hb
       replace ai:=ybb ai hb
       replace ak:=ybb ak hb
       replace ao:=ybb ao hb
       replace HB:=ybs hb
       (try clear hb)
       (try clear ho0)
       refine hK.out _ _ yH (fun hHeld => ?_)
       clear hK K
       refine ym (some 53) ?_
       refine yp 8 45 HT_ ?_
       refine yp 9 54 HT_ ?_
       refine yp 10 55 HT_ ?_
       refine yw 11 15 HT_ (fun K hK => ?_)
       refine box_step ?hg (N:=15) ?hd (cs := #[.int .u64 0, .int .u32 0, .slice none 0 0]) (t:=54) ?hr ?_;(case hd=>rfl);(case hg=>rfl);(case hr=>first|(go_simp;done)|(go_simp;rfl))
       intro ah hg w65 hbox hb
       replace ae:=yVe ae hg hb
       replace ac:=yRb ac hb
       replace aa:=yVe aa hg hb
       replace aV:=yRb aV hb
       have aI:=zm (hbox)
       have aD:=ygw hg
       have bB:=ygw hg
       replace HB:=ybs hb
       have ay:=ynl aj hg
       have az:=yng aj hg
       replace aj:=ybb aj hb
       have au:=ynl ai hg
       have av:=yng ai hg
       replace ai:=ybb ai hb
       have aw:=ynl ak hg
       have ax:=yng ak hg
       replace ak:=ybb ak hb
       have af:=ynl ao hg
       have aA:=yng ao hg
       replace ao:=ybb ao hb
       clear hb hbox hg
       refine hK.out _ _ yH (fun hHeld => ?_)
       clear hK K
       refine ym (some 15) ?_
       exact norm_ (by simp only [putAll,Act.put,List.setIfInBounds_toArray,List.set_cons_zero,List.set_cons_succ]) (hCont (bg,ah) _ ⟨hHeld,(yR0 aV),(yV0 ae),(yr ac),(yV0 aa),(yk aj),(yk ai),(yk ak),(yk ao),(yk aI),aD.out,bB.out,ay.out,az.out,au.out,av.out,aw.out,ax.out,af.out,aA.out,yhb⟩)
      skip
      refine box_step ?hg (N:=15) ?hd (cs := #[.int .u64 0, .int .u32 0, .slice none 0 0]) (t:=54) ?hr ?_;(case hd=>rfl);(case hg=>rfl);(case hr=>first|(go_simp;done)|(go_simp;rfl))
      intro ah hg w64 hbox hb
      replace ae:=yVe ae hg hb
      replace ac:=yRb ac hb
      replace aa:=yVe aa hg hb
      have aI:=zm (hbox)
      have aD:=ygw hg
      have bB:=ygw hg
      replace HB:=ybs hb
      have ay:=ynl aj hg
      have az:=yng aj hg
      replace aj:=ybb aj hb
      have au:=ynl ai hg
      have av:=yng ai hg
      replace ai:=ybb ai hb
      have aw:=ynl ak hg
      have ax:=yng ak hg
      replace ak:=ybb ak hb
      have af:=ynl ao hg
      have aA:=yng ao hg
      replace ao:=ybb ao hb
      clear hb hbox hg
      refine hK.out _ _ yH (fun hHeld => ?_)
      clear hK K
      refine ym (some 15) ?_
      refine yw 7 53 HT_ (fun K hK => ?_)
      refine ygs Try.func67 #[.agg #[.int .u64 al, .int .u32 am, .slice bK ag.length bL], .int .i64 (rd l1 aq), .int .i64 aX, .bool a3] ?_
      with_reducible refine (gain_put.calls bR al am _ _ ag (rd l1 aq) aX a3 bz bA bE bF _ ?aT ?bw A42.out).mono ?_
      (case aT=>exact yce (Kd.V_reads' aa.out).2.2)
      (case bw=>exact (Kd.V_reads' aa.out).2.1)
      rintro e w65 ⟨bg,rfl,ho0,hb⟩
      refine ⟨_,rfl, ?_⟩
      replace ae:=zm (Kd.V_elder' (yr ae) (Kd.R_base ho0) hb)
      replace aa:=zm (Kd.V_elder' (yr aa) (Kd.R_base ho0) hb)
      have aV:=zm (Kd.R_lower (Kd.R_new' (Kd.R_newM (M:=fun k_=>(w.heap.size≤k_)) ho0 (zE yhb) (fun k_ h_=>h_)) (Kd.R_lt (yr ac))) (zE yhb))
      replace ac:=zm (Kd.R_elder' (yr ac) (Kd.R_base ho0) hb)
      replace aj:=ybb aj hb
      replace ai:=ybb ai hb
      replace ak:=ybb ak hb
      replace ao:=ybb ao hb
      replace aI:=ybb aI hb
      replace HB:=ybs hb
      (try clear hb)
      (try clear ho0)
      refine hK.out _ _ yH (fun hHeld => ?_)
      clear hK K
      refine ym (some 53) ?_
      refine yp 8 45 HT_ ?_
      refine yp 9 54 HT_ ?_
      refine yp 10 55 HT_ ?_
      exact norm_ (by simp only [putAll,Act.put,List.setIfInBounds_toArray,List.set_cons_zero,List.set_cons_succ]) (hCont (bg,ah) _ ⟨hHeld,(yR0 aV),(yV0 ae),(yr ac),(yV0 aa),(yk aj),(yk ai),(yk ak),(yk ao),(yk aI),aD.out,bB.out,ay.out,az.out,au.out,av.out,aw.out,ax.out,af.out,aA.out,yhb⟩)
     rintro ⟨bg,ah⟩ w66 ⟨hS_,h0_,h1_,h2_,h3_,h4_,h5_,h6_,h7_,h8_,h9_,bS,bT,bU,bV,bW,bX,bY,bZ,b4,b5⟩
     have n0_ : Aside0 (Kd.R (Kd.int .u8) 5 w66 w.heap.size (fun k_=>(w.heap.size≤k_)∧some k_≠(.slice aK aE.length aM : Value).ownBlock) bg bE):=⟨h0_⟩
     have n1_ : Aside0 (Kd.V (Kd.int .u8) 5 w66 w.heap.size (fun k_=>(aU k_∨w.heap.size≤k_)∧some k_≠(bg : Value).ownBlock∧some k_≠(.slice aK aE.length aM : Value).ownBlock∧k_≠aG∧k_≠aC∧k_≠aH∧k_≠ap∧k_≠ah) (.slice a8 aJ.length a9) aJ):=⟨h1_⟩
     have n2_ : Aside0 (Kd.R (Kd.int .u8) 5 w66 w.heap.size (fun k_=>(w.heap.size≤k_)∧some k_≠(bg : Value).ownBlock) (.slice aK aE.length aM) aE):=⟨h2_⟩
     have n3_ : Aside0 (Kd.V (Kd.int .u8) 5 w66 w.heap.size (fun k_=>(aU k_∨w.heap.size≤k_)∧some k_≠(bg : Value).ownBlock∧some k_≠(.slice aK aE.length aM : Value).ownBlock∧k_≠aG∧k_≠aC∧k_≠aH∧k_≠ap∧k_≠ah) (.slice bK ag.length bL) ag):=⟨h3_⟩
     have n4_ : Aside0 (w66.heap[aG]? = some (.cells #[.int .u64 bd, .int .u32 bf, .slice a8 aJ.length a9] 54 (0,0))):=⟨h4_⟩
     have n5_ : Aside0 (w66.heap[aC]? = some (.cells #[.int .u64 aN, .int .u32 aQ, .slice none 0 0] 54 (0,0))):=⟨h5_⟩
     have n6_ : Aside0 (w66.heap[aH]? = some (.cells #[.int .u64 bp, .int .u32 bq, .slice aK aE.length aM] 54 (0,0))):=⟨h6_⟩
     have n7_ : Aside0 (w66.heap[ap]? = some (.cells #[.int .u64 al, .int .u32 am, .slice bK ag.length bL] 54 (0,0))):=⟨h7_⟩
     have n8_ : Aside0 (w66.heap[ah]? = some (.cells #[.int .u64 0, .int .u32 0, .slice none 0 0] 54 (0,0))):=⟨h8_⟩
     have n9_ : Aside0 (w.heap.size≤ah):=⟨h9_⟩
     have b6 : Aside0 (w.heap.size≤ah):=⟨bS⟩
     have b7 : Aside0 (aG≠ah):=⟨bT⟩
     have b8 : Aside0 (ah≠aG):=⟨bU⟩
     have b9 : Aside0 (aC≠ah):=⟨bV⟩
     have ca : Aside0 (ah≠aC):=⟨bW⟩
     have cb : Aside0 (aH≠ah):=⟨bX⟩
     have ce : Aside0 (ah≠aH):=⟨bY⟩
     have cf : Aside0 (ap≠ah):=⟨bZ⟩
     have cg : Aside0 (ah≠ap):=⟨b4⟩
     have ch : Aside0 (Below w.heap.size w w66):=⟨b5⟩
     clear ae ac aa aj ai ak ao HB h0_ h1_ h2_ h3_ h4_ h5_ h6_ h7_ h8_ h9_ bS bT bU bV bW bX bY bZ b4 b5;have aV:=n0_;have ae:=n1_;have ac:=n2_;have aa:=n3_;have aj:=n4_;have ai:=n5_;have ak:=n6_;have ao:=n7_;have aI:=n8_;have aD:=n9_;have bB:=b6;have ay:=b7;have az:=b8;have au:=b9;have av:=ca;have aw:=cb;have ax:=ce;have af:=cf;have aA:=cg;have HB:=ch;clear n0_ n1_ n2_ n3_ n4_ n5_ n6_ n7_ n8_ n9_ b6 b7 b8 b9 ca cb ce cf cg ch
     have hHeld : w66.cell? ⟨ap,0,none⟩=some (.int .u64 al)∧w66.cell? ⟨ap,1,none⟩=some (.int .u32 am)∧w66.cell? ⟨ap,2,none⟩=some (.slice bK ag.length bL)∧w66.cell? (bG.add (aq).toNat)=some (.int .i64 (rd l1 aq)):=hS_
     obtain ⟨du,dv,dl⟩:=Kd.R_slice aV.out
     (first|subst dl|(injection dl with f1_ f2_ f3_;have f4_:=f1_.symm;have f5_:=f3_.symm;clear f1_ f2_ f3_;subst f4_;subst f5_))
     refine norm_ (a' := ?_) ?_ ?_
     rotate_left
     ·
      simp only [putAll,Act.put,List.setIfInBounds_toArray,List.set_cons_zero,List.set_cons_succ]
      rfl
     refine yv 12 HT_ (fun K hK => ?_)
     have dP : w66.cell? ⟨ah,0,none⟩=some (.int .u64 0):=(zs aI.out 0).trans rfl
     have hfs67:=zx aI.out 0
     have:=ay.out
     have:=au.out
     have:=aw.out
     have:=af.out
     have:=az.out
     have:=av.out
     have:=ax.out
     have:=aA.out
     have dQ : w66.cell? ⟨ah,1,none⟩=some (.int .u32 0):=(zs aI.out 1).trans rfl
     have hfs68:=zx aI.out 1
     have:=ay.out
     have:=au.out
     have:=aw.out
     have:=af.out
     have:=az.out
     have:=av.out
     have:=ax.out
     have:=aA.out
     have dR : w66.cell? ⟨ah,2,none⟩=some (.slice none 0 0):=(zs aI.out 2).trans rfl
     have hfs70:=zx aI.out 2
     have:=ay.out
     have:=au.out
     have:=aw.out
     have:=af.out
     have:=az.out
     have:=av.out
     have:=ax.out
     have:=aA.out
     refine skip_ (w1 := ?_) (by rfl) rfl ?_ ?_
     rotate_left
     ·
      go_simp
      rfl
     refine hK.out _ _ ⟨((zr (p:=⟨ah,_,none⟩) af.out _).trans (((zr (p:=⟨ah,_,none⟩) af.out _).trans (((zr (p:=⟨ah,_,none⟩) af.out _).trans (hHeld.1)))))),((zr (p:=⟨ah,_,none⟩) af.out _).trans (((zr (p:=⟨ah,_,none⟩) af.out _).trans (((zr (p:=⟨ah,_,none⟩) af.out _).trans (hHeld.2.1)))))),((zr (p:=⟨ah,_,none⟩) af.out _).trans (((zr (p:=⟨ah,_,none⟩) af.out _).trans (((zr (p:=⟨ah,_,none⟩) af.out _).trans (hHeld.2.2.1)))))),((zr (p:=⟨ah,_,none⟩) (by first|exact zn (zl (by have:=zb _ _ hw279_0;first|rwa [za] at this|exact this) aD.out)|(rw [za];exact zn (zl (by have:=zb _ _ hw279_0;first|rwa [za] at this|exact this) aD.out))|(show (Addr.add _ _).block≠_;rw [za];exact zn (zl (by have:=zb _ _ hw279_0;first|rwa [za] at this|exact this) aD.out))|(dsimp only;exact zn (zl (by have:=zb _ _ hw279_0;first|rwa [za] at this|exact this) aD.out))) _).trans (((zr (p:=⟨ah,_,none⟩) (by first|exact zn (zl (by have:=zb _ _ hw279_0;first|rwa [za] at this|exact this) aD.out)|(rw [za];exact zn (zl (by have:=zb _ _ hw279_0;first|rwa [za] at this|exact this) aD.out))|(show (Addr.add _ _).block≠_;rw [za];exact zn (zl (by have:=zb _ _ hw279_0;first|rwa [za] at this|exact this) aD.out))|(dsimp only;exact zn (zl (by have:=zb _ _ hw279_0;first|rwa [za] at this|exact this) aD.out))) _).trans (((zr (p:=⟨ah,_,none⟩) (by first|exact zn (zl (by have:=zb _ _ hw279_0;first|rwa [za] at this|exact this) aD.out)|(rw [za];exact zn (zl (by have:=zb _ _ hw279_0;first|rwa [za] at this|exact this) aD.out))|(show (Addr.add _ _).block≠_;rw [za];exact zn (zl (by have:=zb _ _ hw279_0;first|rwa [za] at this|exact this) aD.out))|(dsimp only;exact zn (zl (by have:=zb _ _ hw279_0;first|rwa [za] at this|exact this) aD.out))) _).trans (hHeld.2.2.2))))))⟩ (fun hHeld => ?_)
     clear hK K
     refine yp 13 16 HT_ ?_
     refine done_ (done_of HT_.out (by kernel_rfl)) ?_
     have:=bi.out
     have:=bh.out
     have:=bk.out
     have:=bj.out
     have:=bn.out
     have:=bo.out
     have:=aw.out
     have:=ax.out
     obtain ⟨_,_,_,_,_,_⟩:=yc3 ak
     have:=bc.out
     have:=bb.out
     have:=bl.out
     have:=bm.out
     have:=au.out
     have:=av.out
     obtain ⟨_,_,_,_,_,_⟩:=yc3 ai
     try go_wp2
     refine bodyPost_ret (results_ct rfl _ _ aC 54 #[.int .u64 bp, .int .u32 bq, .slice aK aE.length aM] (0,0) _ rfl (ykp ai) Try.underlying54 rfl (by kernel_rfl)) rfl ?_
     exact ⟨_,ye,zy (Kd.R_V (by (with_reducible repeat (first|apply zo|apply zp|apply zq));exact zG (zH (p:=⟨aC,2,none⟩) (zH (p:=⟨aC,1,none⟩) (zH (p:=⟨aC,0,none⟩) (zH (p:=⟨ah,2,none⟩) (zH (p:=⟨ah,1,none⟩) (zH (p:=⟨ah,0,none⟩) (Kd.R_types (Kd.R_types ac.out aI.out (by decide)) ai.out (by decide)) (fun _ hk=>hk.1.2) (.int .u64 bz)) (fun _ hk=>hk.1.2) (.int .u32 bA)) (fun _ hk=>hk.1.2) (.slice du bE.length dv)) (fun _ hk=>hk.2) (.int .u64 bp)) (fun _ hk=>hk.2) (.int .u32 bq)) (fun _ hk=>hk.2) (.slice aK aE.length aM)) (fun _ hk=>hk.1.1.1))) (fun k_ hk=>by first|exact ⟨(.inr (hk.1)),hk.2⟩|exact (.inr (hk))),yhb⟩
   rw [if_neg c35] at H
   have cX:=yG c35
   clear c35
   simp only [Option.some.injEq,Prod.mk.injEq] at H
   obtain ⟨rfl,rfl,rfl,rfl⟩:=H
   have:=bD.out
   have:=bC.out
   have:=bm.out
   have:=bl.out
   have:=bo.out
   have:=bn.out
   obtain ⟨_,_,_,_,_,_⟩:=yc3 ao
   have:=bc.out
   have:=bb.out
   have:=bj.out
   have:=bk.out
   obtain ⟨_,_,_,_,_,_⟩:=yc3 ai
   obtain ⟨dw,dx,dy⟩:=Kd.V_slice aa.out
   subst dy
   go_wp2
   refine bodyPost_ret (results_ct rfl _ _ aC 54 #[.int .u64 al, .int .u32 am, .slice dw ag.length dx] (0,0) _ rfl (ykp ai) Try.underlying54 rfl (by kernel_rfl)) rfl ?_
   exact ⟨_,ye,yV0 aa,yhb⟩
/-- A row of scalars, as one block of cells. -/
theorem cpack_Write.intRow {k : IntKind} {e base : Nat} {ok : Nat→Prop} {w : World} {v : Value} {xs : List Int} (h : (Kd.int k).R e w base ok v xs) :
  (v=.slice none 0 0∧xs = [])∨∃ g cap cur,v=.slice (some ⟨g,0,none⟩) xs.length cap∧ok g∧base≤g∧w.heap[g]? = some (.cells cur e (0,0))∧xs.length≤cap∧cap≤maxLen∧cur.size=cap∧cur.toList.take xs.length=xs.map (Value.int k):=by
 obtain ⟨h0,inner,⟨h1,h2⟩,hr⟩:=h
 have hsz : (Kd.int k).sz=1:=rfl
 have hin : inner=xs.map (Value.int k):=by
  refine List.ext_getElem? fun j => ?_
  have hl : inner.length=xs.length:=by rw [h1,hsz,Nat.mul_one]
  rcases Nat.lt_or_ge j xs.length with hj|hj
  ·
   have:=hr.2 j _ (List.getElem?_eq_getElem hj)
   rw [hsz,Nat.mul_one] at this
   have h3 : (inner.drop j).take 1 = [Value.int k xs[j]]:=this
   have h4:=congrArg (fun l=>l[0]?) h3
   simp only [List.getElem?_take,List.getElem?_drop] at h4
   simp at h4
   simp [h4,hj]
  rw [List.getElem?_eq_none (by omega),List.getElem?_eq_none (by simp;omega)]
 rcases h2 with ⟨rfl,hn⟩ | ⟨g,cap,cur,rfl,hb,hh,hnc,hcm,hcs,ht⟩
 ·
  exact .inl ⟨rfl,List.eq_nil_of_length_eq_zero hn⟩
 rw [hsz,Nat.mul_one] at hcs ht
 exact .inr ⟨g,cap,cur,rfl,h0 g rfl,hb,hh,hnc,hcm,hcs,by rw [ht,hin]⟩
theorem cpack_Write.rowInt {k : IntKind} {e base : Nat} {ok : Nat→Prop} {w : World} {xs : List Int} {g cap : Nat} {cur : Array Value} (hg : ok g) (hb : base≤g) (hh : w.heap[g]? = some (.cells cur e (0,0))) (hn : xs.length≤cap) (hc : cap≤maxLen) (hs : cur.size=cap) (ht : cur.toList.take xs.length=xs.map (Value.int k)) :
  (Kd.int k).R e w base ok (.slice (some ⟨g,0,none⟩) xs.length cap) xs:=by
 have hsz : (Kd.int k).sz=1:=rfl
 refine ⟨fun q hq => ?_,xs.map (Value.int k),⟨by simp [hsz], .inr ⟨g,cap,cur,rfl,hb,hh,hn,hc,by rw [hsz,Nat.mul_one,hs],by rw [hsz,Nat.mul_one,ht]⟩⟩,by simp [hsz],fun j p hp => ?_⟩
 ·
  simp only [Value.ownBlock,Option.some.injEq] at hq;exact hq ▸ hg
 have : ((xs.map (Value.int k)).drop (j * 1)).take 1 = [Value.int k p]:=by
  rw [Nat.mul_one]
  obtain ⟨hj,hpj⟩:=List.getElem?_eq_some_iff.1 hp
  refine List.ext_getElem? fun i => ?_
  rcases i with _|i
  ·
   simp [List.getElem?_take,hp]
  simp [List.getElem?_take]
 exact this

theorem cpack_Write.copyRow {P : Program} {ops : Array Oper} {rest : List Oper} {o : Oper} {a : Act} {Q : Exit→Act→World→Prop} {k : IntKind} {w0 W : World} (base : Nat) (hgd : o.guard=none) (d s : Operand) (t e : TypeId)
  (ho : o.op=.call { callee:=.builtin .copy,args := #[d,s],argTypes := #[t,t] }) (ht : P.underlying t=some (.slice e)) {z : Value} {bytes : Nat} (hinfo : (P.info? e).map (fun i=>(i.zero,i.size,i.bytes))=some (some z,1,bytes))
  (v : Value) (xs ys : List Int) (A : Option Addr) (m c : Nat) (ok : Nat→Prop) (hd : a.eval d=v) (hs : a.eval s=.slice A m c)
  (HO : (Kd.int k).R e W base ok v xs) (HR : (Kd.int k).C W A m ys) (HB : Below base w0 W)
  (h : ∀ w1,(Kd.int k).R e w1 base ok v (ys.take xs.length ++ xs.drop ys.length)→Below base w0 w1→wpList P ops Q rest (a.put o.dst (goInt ((min m xs.length : Nat) : Int))) w1) :
  wpList P ops Q (o :: rest) a W:=by
 have hm : ys.length=m:=HR.1
 have hsz : (P.info? e).map (·.size)=some 1:=by
  obtain ⟨i0,hi,hz⟩:=Option.map_eq_some_iff.1 hinfo
  simp only [Prod.mk.injEq] at hz
  rw [hi,Option.map_some,hz.2.1]
 rcases cpack_Write.intRow HO with ⟨rfl,rfl⟩ | ⟨g,cap,cur,rfl,hok,hbg,hh,hnc,hcm,hcs,htk⟩
 ·
  refine wpList_copy_nothing hgd d s t t ho e ht hsz none A 0 0 m c hd hs (by simp) ?_
  have:=h W (by simpa using HO) HB
  simpa using this
 have hl : (ys.take xs.length).length=min m xs.length:=by simp [List.length_take,hm,Nat.min_comm]
 refine wpList_copy_splice hgd d s t t ho e ht hsz _ A xs.length cap m c hd hs g 0 cur.toList e (by simpa using hh) ((ys.take xs.length).map (Value.int k)) (by rw [List.length_map,hl]) (fun hp=>⟨rfl, ?_⟩) (by rw [List.length_map,hl];have : cur.toList.length=cap:=(by simpa using hcs);omega) (fun v hv=>by obtain ⟨x,_,rfl⟩:=List.mem_map.1 hv;rfl) base w0 HB hbg (fun w1 hg1 hb1 => ?_)
 ·
  rw [List.length_map,hl] at hp
  obtain ⟨ad,rfl,hc⟩:=HR.2.2 (by omega)
  refine ⟨ad,rfl,fun j v hj => ?_⟩
  rw [List.getElem?_map,List.getElem?_take] at hj
  split at hj
  ·
   rcases hy : ys[j]? with _|y
   ·
    rw [hy] at hj;simp at hj
   rw [hy] at hj
   simp only [Option.map_some,Option.some.injEq] at hj
   subst hj
   obtain ⟨cs,hcl,hcr,hcc⟩:=hc j y hy
   have hcr : cs = [Value.int k y]:=hcr
   subst hcr
   have:=hcc 0 _ rfl
   have h1 : (Kd.int k).sz=1:=rfl
   rwa [h1,Nat.mul_one,Nat.add_zero] at this
  simp at hj
 have hlen : (ys.take xs.length ++ xs.drop ys.length).length=xs.length:=by
  rw [List.length_append,List.length_drop,List.length_take];omega
 have hR : (Kd.int k).R e w1 base ok (.slice (some ⟨g,0,none⟩) (ys.take xs.length ++ xs.drop ys.length).length cap) (ys.take xs.length ++ xs.drop ys.length):=by
  refine cpack_Write.rowInt hok hbg hg1 (by omega) hcm ?_ ?_
  ·
   have:=length_splice cur.toList 0 ((ys.take xs.length).map (Value.int k)) (by rw [List.length_map,hl];have : cur.toList.length=cap:=(by simpa using hcs);omega)
   simp only [List.size_toArray,this]
   simpa using hcs
  rw [hlen]
  simp only [splice,List.take_zero,List.nil_append,List.length_map,Nat.zero_add,List.map_append]
  have hcur : cur.toList=xs.map (Value.int k) ++ cur.toList.drop xs.length:=by rw [← htk,List.take_append_drop]
  have h2 : (cur.toList.drop (ys.take xs.length).length)=(xs.drop (ys.take xs.length).length).map (Value.int k) ++ cur.toList.drop xs.length:=by
   conv=>lhs;rw [hcur]
   rw [List.drop_append_of_le_length (by rw [List.length_map,hl];omega),List.map_drop]
  rw [h2, ← List.append_assoc,List.take_append_of_le_length (by rw [List.length_append,List.length_map,List.length_map,List.length_drop];omega),List.take_of_length_le (by rw [List.length_append,List.length_map,List.length_map,List.length_drop];omega)]
  congr 2
  rcases Nat.le_total ys.length xs.length with h3|h3
  ·
   rw [List.length_take,Nat.min_eq_right h3]
  rw [List.length_take,Nat.min_eq_left h3,List.drop_eq_nil_of_le (Nat.le_refl _),List.drop_eq_nil_of_le h3]
 rw [hlen] at hR
 have:=h w1 hR hb1
 rwa [← hl, ← List.length_map (f:=Value.int k)] at this
mutual
def cpack_Write.j0 : Nat→Int→Int→List (List Int)→Bool→Bool→List (List Int)→List (List (List Int))→Option (List Int × Int)
 | 0,_,_,_,_,_,_,_=>none
 | k+1,x0,x1,x3,x41,aQ,aH,aT=>if x41=true then (some (([] : List Int),1)) else (if aQ=true then (cpack_Write.j1 k x0 x1 x3 1 aQ aH aT) else (cpack_Write.j1 k x0 x1 x3 0 aQ aH aT))
def cpack_Write.j1 : Nat→Int→Int→List (List Int)→Int→Bool→List (List Int)→List (List (List Int))→Option (List Int × Int)
 | 0,_,_,_,_,_,_,_=>none
 | k+1,x0,x1,x3,x10,aQ,aH,aT=>(coder_New.f).bind fun bM=>((coder_Put.f k bM.1 bM.2.1 bM.2.2 x10 (wrap64 (x10+1)) 2).bind fun bN=>(cpack_Write.l0 k x0 x1 x3 aH (aH.length : Int) 0 aQ aH aT bN.1 bN.2.1 bN.2.2.1))
def cpack_Write.l0 : Nat→Int→Int→List (List Int)→List (List Int)→Int→Int→Bool→List (List Int)→List (List (List Int))→Int→Int→List Int→Option (List Int × Int)
 | 0,_,_,_,_,_,_,_,_,_,_,_,_=>none
 | k+1,x0,x1,x3,x53,x54,x55,aQ,aH,aT,aI,aJ,aK=>if x55 < x54 then (if 0≤x55 then (if x55 < (x53.length : Int) then ((cpack_of.f x3 x55).bind fun bO=>((gain_Put.f k aI aJ aK (rd_L1 x53 x55) bO aQ).bind fun bP=>(cpack_Write.l0 k x0 x1 x3 x53 x54 (wrap64 (x55+1)) aQ aH aT bP.1 bP.2.1 bP.2.2.1))) else (none)) else (none)) else ((alloc_Pulses.f k x0 x1 aH).bind fun dt=>(cpack_Write.l1 k x0 dt.1 aT (aT.length : Int) 0 aI aJ aK))
def cpack_Write.l1 : Nat→Int→List (List Int)→List (List (List Int))→Int→Int→Int→Int→List Int→Option (List Int × Int)
 | 0,_,_,_,_,_,_,_,_=>none
 | k+1,x0,x15,x81,x82,x83,aI,aJ,aK=>if x83 < x82 then (if 0≤x83 then (if x83 < (x81.length : Int) then (cpack_Write.l2 k x0 x15 x83 x81 x82 x83 (rd_L2 x81 x83) ((rd_L2 x81 x83).length : Int) 0 aI aJ aK) else (none)) else (none)) else (if 0≤x0 then (if (x0 : Int).toNat≤281474976710656 then ((some (List.replicate (x0 : Int).toNat 0 : List Int)).bind fun bo=>((coder_Finish.f aI aJ aK).bind fun bi=>(some ((bi.take bo.length ++ bo.drop bi.length),0)))) else (none)) else (none))
def cpack_Write.l2 : Nat→Int→List (List Int)→Int→List (List (List Int))→Int→Int→List (List Int)→Int→Int→Int→Int→List Int→Option (List Int × Int)
 | 0,_,_,_,_,_,_,_,_,_,_,_,_=>none
 | k+1,x0,x15,x17,x81,x82,x83,x88,x89,x90,aI,aJ,aK=>if x90 < x89 then (if 0≤x90 then (if x90 < (x88.length : Int) then (if 0≤x17 then (if x17 < (x15.length : Int) then (if x90 < ((rd_L1 x15 x17).length : Int) then (if (rd (rd_L1 x15 x17) x90)=0 then (cpack_Write.l2 k x0 x15 x17 x81 x82 x83 x88 x89 (wrap64 (x90+1)) aI aJ aK) else ((band_Width.f x90).bind fun bQ=>((comb_Count.f bQ (rd (rd_L1 x15 x17) x90)).bind fun du=>((comb_Index.f k (rd_L1 x88 x90)).bind fun dv=>((coder_PutNum.f k aI aJ aK dv.1 du.1).bind fun bR=>(cpack_Write.l2 k x0 x15 x17 x81 x82 x83 x88 x89 (wrap64 (x90+1)) bR.1 bR.2.1 bR.2.2.1)))))) else (none)) else (none)) else (none)) else (none)) else (none)) else (cpack_Write.l1 k x0 x15 x81 x82 (wrap64 (x83+1)) aI aJ aK)
end
def cpack_Write.f (k : Nat) (a0 : Int) (a1 : Int) (aM : Bool) (al : List (List Int)) (ai : List (List (List Int))) (l3 : List (List Int)) : Option (List Int × Int):=(cpack_Right.f k a0 a1 aM al ai).bind fun cV=>(if cV=true then (if aM=true then (cpack_Write.j0 k a0 a1 l3 false aM al ai) else ((cpack_gains.f k a1 l3).bind fun bY=>(cpack_Write.j0 k a0 a1 l3 (!bY) aM al ai))) else (cpack_Write.j0 k a0 a1 l3 true aM al ai))
theorem cpack_Write.mono_l : ∀ k,(∀ y0 y1 y2 y3 y4 y5 y6,LeO (cpack_Write.j0 k y0 y1 y2 y3 y4 y5 y6) (cpack_Write.j0 (k+1) y0 y1 y2 y3 y4 y5 y6))∧(∀ y0 y1 y2 y3 y4 y5 y6,LeO (cpack_Write.j1 k y0 y1 y2 y3 y4 y5 y6) (cpack_Write.j1 (k+1) y0 y1 y2 y3 y4 y5 y6))∧(∀ y0 y1 y2 y3 y4 y5 y6 y7 y8 y9 y10 y11,LeO (cpack_Write.l0 k y0 y1 y2 y3 y4 y5 y6 y7 y8 y9 y10 y11) (cpack_Write.l0 (k+1) y0 y1 y2 y3 y4 y5 y6 y7 y8 y9 y10 y11))∧(∀ y0 y1 y2 y3 y4 y5 y6 y7,LeO (cpack_Write.l1 k y0 y1 y2 y3 y4 y5 y6 y7) (cpack_Write.l1 (k+1) y0 y1 y2 y3 y4 y5 y6 y7))∧(∀ y0 y1 y2 y3 y4 y5 y6 y7 y8 y9 y10 y11,LeO (cpack_Write.l2 k y0 y1 y2 y3 y4 y5 y6 y7 y8 y9 y10 y11) (cpack_Write.l2 (k+1) y0 y1 y2 y3 y4 y5 y6 y7 y8 y9 y10 y11))
 | 0=>⟨fun _ _ _ _ _ _ _ r h=>by simp [cpack_Write.j0] at h,fun _ _ _ _ _ _ _ r h=>by simp [cpack_Write.j1] at h,fun _ _ _ _ _ _ _ _ _ _ _ _ r h=>by simp [cpack_Write.l0] at h,fun _ _ _ _ _ _ _ _ r h=>by simp [cpack_Write.l1] at h,fun _ _ _ _ _ _ _ _ _ _ _ _ r h=>by simp [cpack_Write.l2] at h⟩
 | k+1=>by
  obtain ⟨ih0,ih1,ih2,ih3,ih4⟩:=cpack_Write.mono_l k
  refine ⟨?_, ?_, ?_, ?_, ?_⟩
  ·
   intro y0 y1 y2 y3 y4 y5 y6
   unfold cpack_Write.j0
   repeat' with_reducible first|apply ih0|apply ih1|apply ih2|apply ih3|apply ih4|apply alloc_Pulses.mono|apply coder_Put.mono|apply coder_PutNum.mono|apply comb_Index.mono|apply cpack_Right.mono|apply cpack_gains.mono|apply gain_Put.mono|apply yLr|apply yLn|apply yLi|apply yLb|intro _
  ·
   intro y0 y1 y2 y3 y4 y5 y6
   unfold cpack_Write.j1
   repeat' with_reducible first|apply ih0|apply ih1|apply ih2|apply ih3|apply ih4|apply alloc_Pulses.mono|apply coder_Put.mono|apply coder_PutNum.mono|apply comb_Index.mono|apply cpack_Right.mono|apply cpack_gains.mono|apply gain_Put.mono|apply yLr|apply yLn|apply yLi|apply yLb|intro _
  ·
   intro y0 y1 y2 y3 y4 y5 y6 y7 y8 y9 y10 y11
   unfold cpack_Write.l0
   repeat' with_reducible first|apply ih0|apply ih1|apply ih2|apply ih3|apply ih4|apply alloc_Pulses.mono|apply coder_Put.mono|apply coder_PutNum.mono|apply comb_Index.mono|apply cpack_Right.mono|apply cpack_gains.mono|apply gain_Put.mono|apply yLr|apply yLn|apply yLi|apply yLb|intro _
  ·
   intro y0 y1 y2 y3 y4 y5 y6 y7
   unfold cpack_Write.l1
   repeat' with_reducible first|apply ih0|apply ih1|apply ih2|apply ih3|apply ih4|apply alloc_Pulses.mono|apply coder_Put.mono|apply coder_PutNum.mono|apply comb_Index.mono|apply cpack_Right.mono|apply cpack_gains.mono|apply gain_Put.mono|apply yLr|apply yLn|apply yLi|apply yLb|intro _
  intro y0 y1 y2 y3 y4 y5 y6 y7 y8 y9 y10 y11
  unfold cpack_Write.l2
  repeat' with_reducible first|apply ih0|apply ih1|apply ih2|apply ih3|apply ih4|apply alloc_Pulses.mono|apply coder_Put.mono|apply coder_PutNum.mono|apply comb_Index.mono|apply cpack_Right.mono|apply cpack_gains.mono|apply gain_Put.mono|apply yLr|apply yLn|apply yLi|apply yLb|intro _
theorem cpack_Write.mono : ∀ a0 a1 a2 a3 a4 a5 k,LeO (cpack_Write.f k a0 a1 a2 a3 a4 a5) (cpack_Write.f (k+1) a0 a1 a2 a3 a4 a5):=by
 intro a0 a1 a2 a3 a4 a5 k
 obtain ⟨ih0,ih1,ih2,ih3,ih4⟩:=cpack_Write.mono_l k
 unfold cpack_Write.f
 repeat' with_reducible first|apply ih0|apply ih1|apply ih2|apply ih3|apply ih4|apply alloc_Pulses.mono|apply coder_Put.mono|apply coder_PutNum.mono|apply comb_Index.mono|apply cpack_Right.mono|apply cpack_gains.mono|apply gain_Put.mono|apply yLr|apply yLn|apply yLi|apply yLb|intro _
def cpack_Write.T10 : Bool × List (List Nat × List Nat):=(true, [([], []),([], []),([], []),([], []),([2,3], [2,3]),([], []),([5], [5]),([0,1,4,6,4], [0,1,4,6]),([7], [7]),([8], [8]),([8], [8]),([9,7,0,1,2,3,4,5,6,7,8,9], [9])])
def cpack_Write.B10 : List Nat := [0,0,0,0,12,0,32,127,255,511,511,1023]
theorem cpack_Write.tab10 : rtab .any (opsOf Try.f12 10)=cpack_Write.T10:=by kernel_rfl
theorem cpack_Write.bits10 : waitsOk cpack_Write.T10.2 cpack_Write.B10=true:=by kernel_rfl
def cpack_Write.T20 : Bool × List (List Nat × List Nat):=(true, [([], []),([0], [0]),([], []),([], []),([2,3], [2,3]),([4], [4]),([], []),([5,6], [5,6]),([7], [7]),([1,8,1], [1,8]),([9], [9]),([10], [10]),([10], [10]),([11,9,0,1,2,3,4,5,6,7,8,9,10,11], [11]),([12,13,0,1,2,3,4,5,6,7,8,9,10,11,12,13], [12])])
def cpack_Write.B20 : List Nat := [0,1,0,0,12,28,0,124,252,511,1023,2047,2047,4095,16383]
theorem cpack_Write.tab20 : rtab .any (opsOf Try.f12 20)=cpack_Write.T20:=by kernel_rfl
theorem cpack_Write.bits20 : waitsOk cpack_Write.T20.2 cpack_Write.B20=true:=by kernel_rfl
set_option maxHeartbeats 8000000 in
set_option maxRecDepth 100000 in
theorem cpack_Write.calls (k : Nat) (a0 : Int) (a1 : Int) (aM : Bool) (bc : Option Addr) (ba : Nat) (al : List (List Int)) (bf : Option Addr) (bd : Nat) (ai : List (List (List Int))) (A3 : Option Addr) (c3 : Nat) (l3 : List (List Int)) (r1 : List Int) (r2 : Int) (w : World) (hr2_1 : Kd.C (Kd.slice 3 (Kd.int .i64)) w bc al.length al) (hc2_1 : al.length≤ba) (hr2_2 : Kd.C (Kd.slice 49 (Kd.slice 3 (Kd.int .i64))) w bf ai.length ai) (hc2_2 : ai.length≤bd) (hr3 : Kd.C (Kd.slice 3 (Kd.int .i64)) w A3 l3.length l3) (hc3 : l3.length≤c3) (h : cpack_Write.f k a0 a1 aM al ai l3=some (r1,r2)) :
  Calls Try.prog 12 #[.int .i64 a0, .int .i64 a1, .agg #[.bool aM, .slice bc al.length ba, .slice bf ai.length bd], .slice A3 l3.length c3] w fun e w' => ∃ v0_ : Value,e=.returned (.tuple #[v0_, .int .i64 r2])∧Kd.R (Kd.int .u8) 5 w' w.heap.size (fun _=>True) v0_ r1∧Below w.heap.size w w' := by
 have hu25:=Try.underlying25;have hu54:=Try.underlying54;have bp:=zm hr2_1;have bv:=zm hc2_1;clear hr2_1 hc2_1;have bw:=zm hr2_2;have bS:=zm hc2_2;clear hr2_2 hc2_2;have HR3:=zm hr3;have HC3:=zm hc3;clear hr3 hc3;have HB:=zm (Below.refl w.heap.size w);have H:=h
 unfold cpack_Write.f at H
 clear h;have HC5:=zm H;clear H
 go_enter Try.func12,Try.ntmps12
 go_upto_region 1 with (first|((with_reducible refine gate_dst (N:=6) rfl ?_);refine ybx 6 #[.bool aM, .slice bc al.length ba, .slice bf ai.length bd] 25 ?_;intro aU hg w6 hbox hb;have ac:=zm (hbox);have eH:=ygw hg;have eI:=ygw hg;replace HB:=ybs hb;clear hb hbox hg))
 (try simp only [Act.put,List.setIfInBounds_toArray,List.set_cons_zero,List.set_cons_succ])
 go_cut [41] (fun v41 wc => ∃ (kq : Nat) (bx : Bool),v41=.bool bx∧Aside0 (cpack_Write.j0 kq a0 a1 l3 bx aM al ai=some (r1,r2))∧Aside0 (kq≤k)∧Aside0 (wc.heap[aU]? = some (.cells #[.bool aM,(.slice bc al.length ba),(.slice bf ai.length bd)] 25 (0,0)))∧Aside0 (Below w.heap.size w wc))
 case first =>
  have H:=HC5.out;clear HC5
  obtain ⟨cV,A7,H⟩:=ybi H
  by_cases c8 : cV=true
  ·
   subst c8
   rw [if_pos rfl] at H
   by_cases c9 : aM=true
   ·
    subst c9
    rw [if_pos rfl] at H
    have H' := zm H
    clear H
    obtain ⟨_,_,_,_,_,_⟩:=yc3 ac
    go_wp2_with (first|((with_reducible refine gate_callee (f:=15) rfl ?_);refine ygl 29 Try.func15 #[.int .i64 a0, .int .i64 a1, .agg #[.bool true, .slice bc al.length ba, .slice bf ai.length bd]] ?_;(with_reducible refine (cpack_Right.calls k a0 a1 true _ _ al _ _ ai true _ ?am bv.out ?bg bS.out A7.out).mono ?_);(case am=>exact ycb bp);(case bg=>exact ycb bw);rintro e w11 ⟨rfl,hb⟩;refine ⟨_,rfl, ?_⟩;replace ac:=ybb ac hb;replace HB:=ybs hb;(try clear hb);obtain ⟨_,_,_,_,_,_⟩:=yc3 ac))
    go_meet
    case rel=>exact ⟨_,(false),yq,H',⟨yo⟩,⟨yk ac⟩,⟨yhb⟩⟩
   replace c9:=Bool.eq_false_iff.mpr c9
   subst c9
   rw [ynf] at H
   obtain ⟨bY,A13,H⟩:=ybi H
   have H' := zm H
   clear H
   obtain ⟨_,_,_,_,_,_⟩:=yc3 ac
   go_wp2_with (first|((with_reducible refine gate_callee (f:=15) rfl ?_);refine ygl 29 Try.func15 #[.int .i64 a0, .int .i64 a1, .agg #[.bool false, .slice bc al.length ba, .slice bf ai.length bd]] ?_;(with_reducible refine (cpack_Right.calls k a0 a1 false _ _ al _ _ ai true _ ?am bv.out ?bg bS.out A7.out).mono ?_);(case am=>exact ycb bp);(case bg=>exact ycb bw);rintro e w15 ⟨rfl,hb⟩;refine ⟨_,rfl, ?_⟩;replace ac:=ybb ac hb;replace HB:=ybs hb;(try clear hb);obtain ⟨_,_,_,_,_,_⟩:=yc3 ac)|(go_at_call 25;(with_reducible refine (cpack_gains.calls k a1 _ _ l3 bY _ ?am HC3.out A13.out).mono ?_);(case am=>exact ycb HR3);rintro e w' ⟨rfl,⟨nd,rfl⟩⟩))
   go_meet
   case rel=>exact ⟨_,(!bY),yq,H',⟨yo⟩,⟨yk ac⟩,⟨yhb⟩⟩
  replace c8:=Bool.eq_false_iff.mpr c8
  subst c8
  rw [ynf] at H
  have H' := zm H
  clear H
  obtain ⟨_,_,_,_,_,_⟩:=yc3 ac
  go_wp2_with (first|((with_reducible refine gate_callee (f:=15) rfl ?_);refine ygl 29 Try.func15 #[.int .i64 a0, .int .i64 a1, .agg #[.bool aM, .slice bc al.length ba, .slice bf ai.length bd]] ?_;(with_reducible refine (cpack_Right.calls k a0 a1 aM _ _ al _ _ ai false _ ?am bv.out ?bg bS.out A7.out).mono ?_);(case am=>exact ycb bp);(case bg=>exact ycb bw);rintro e w18 ⟨rfl,hb⟩;refine ⟨_,rfl, ?_⟩;replace ac:=ybb ac hb;replace HB:=ybs hb;(try clear hb)))
  go_meet
  case rel=>exact ⟨_,(true),yq,H',⟨yo⟩,⟨yk ac⟩,⟨yhb⟩⟩
 case rest =>
  clear HC5
  try clear c3
  obtain ⟨kq,bx,rfl,HA,HJ4,ac,HB⟩:=hcut
  obtain ⟨kj4,rfl⟩:=ysu kq (fun h=>by subst h;exact absurd HA.out (by simp [cpack_Write.j0]))
  have H:=HA.out;clear HA
  simp only [cpack_Write.j0] at H
  by_cases c19 : bx=true
  ·
   subst c19
   rw [if_pos rfl] at H
   simp only [Option.some.injEq,Prod.mk.injEq] at H
   obtain ⟨rfl,rfl⟩:=H
   go_wp2
   go_ret2
   exact ⟨_,ye,yn,yhb⟩
  replace c19:=Bool.eq_false_iff.mpr c19
  subst c19
  rw [ynf] at H
  have cW:=zm H;clear H
  obtain ⟨bZ,b4,b5,b6,b7,b8⟩:=yc3 ac
  go_upto_if 43 with (fail)
  go_cut [10] (fun v10 wc => ∃ (kq : Nat) (aX : Int),v10=.int .i64 aX∧Aside0 (cpack_Write.j1 kq a0 a1 l3 aX aM al ai=some (r1,r2))∧Aside0 (kq≤kj4)∧Aside0 (wc.heap[aU]? = some (.cells #[.bool aM,(.slice bc al.length ba),(.slice bf ai.length bd)] 25 (0,0)))∧Aside0 (Below w.heap.size w wc))
  case first =>
   have H:=cW.out;clear cW
   by_cases c22 : aM=true
   ·
    subst c22
    rw [if_pos rfl] at H
    have H' := zm H
    clear H
    go_wp2
    go_meet
    case rel=>exact ⟨_,(1),yq,H',⟨yom1 HJ4⟩,⟨yk ac⟩,⟨yhb⟩⟩
   replace c22:=Bool.eq_false_iff.mpr c22
   subst c22
   rw [ynf] at H
   have H' := zm H
   clear H
   go_wp2
   go_meet
   case rel=>exact ⟨_,(0),yq,H',⟨yom1 HJ4⟩,⟨yk ac⟩,⟨yhb⟩⟩
  case rest =>
   clear cW
   try clear bZ
   try clear b4
   try clear b5
   try clear b6
   try clear b7
   try clear b8
   obtain ⟨kq,aX,rfl,HA,bq,ac,HB⟩:=hcut
   obtain ⟨cX,rfl⟩:=ysu kq (fun h=>by subst h;exact absurd HA.out (by simp [cpack_Write.j1]))
   have H:=HA.out;clear HA
   simp only [cpack_Write.j1] at H
   obtain ⟨⟨cY,cZ,da⟩,A23,H⟩:=ybi H
   try dsimp only at H
   obtain ⟨⟨db,dc,b9,d5⟩,A24,H⟩:=ybi H
   try dsimp only at H
   have H' := zm H
   clear H
   go_wp2_with (first|((with_reducible refine gate_callee (f:=27) rfl ?_);refine ygl 45 Try.func27 #[] ?_;(with_reducible refine (coder_New.calls  cY cZ da _ A23.out).mono ?_);rintro e w25 ⟨eU,rfl,ho0,hb⟩;refine ⟨_,rfl, ?_⟩;have bb:=zm (Kd.R_lower ho0 (zE yhb));replace ac:=ybb ac hb;replace HB:=ybs hb;(try clear hb);(try clear ho0);obtain ⟨d6,d7,d8⟩:=Kd.R_slice bb.out;subst d8)|((with_reducible refine gate_callee (f:=26) rfl ?_);refine ygl 49 Try.func26 #[.agg #[.int .u64 cY, .int .u32 cZ, .slice d6 da.length d7], .int .i64 aX, .int .i64 (wrap64 (aX+1)), .int .i64 2] ?_;(with_reducible refine (coder_Put.calls cX cY cZ _ _ da aX (wrap64 (aX+1)) 2 db dc b9 d5 _ ?am ?bh A24.out).mono ?_);(case am=>exact yce (Kd.R_reads' bb.out).2.2);(case bh=>exact (Kd.R_reads' bb.out).2.1);rintro e w27 ⟨eV,rfl,ho0,hb⟩;refine ⟨_,rfl, ?_⟩;have bz:=zm (Kd.R_lower (Kd.R_new' ho0 (Kd.R_lt (yr bb))) (zE yhb));replace bb:=zm (Kd.R_elder' (yr bb) (Kd.R_base ho0) hb);replace ac:=ybb ac hb;replace HB:=ybs hb;(try clear hb);(try clear ho0))|((with_reducible refine gate_dst (N:=11) rfl ?_);refine ybx 11 #[.int .u64 0, .int .u32 0, .slice none 0 0] 54 ?_;intro ao hg w28 hbox hb;replace bb:=yRb bb hb;replace bz:=yRb bz hb;have ae:=zm (hbox);have eJ:=ygw hg;have eK:=ygw hg;replace HB:=ybs hb;have av:=ynl ac hg;have aw:=yng ac hg;replace ac:=ybb ac hb;clear hb hbox hg;have:=aw.out;have:=av.out;obtain ⟨ca,cb,ce,cf,cg,ch⟩:=yc3 ae;obtain ⟨dw,dx,d9⟩:=Kd.R_slice bz.out;subst d9;obtain ⟨ci,cj,ck,cl,cm,cn⟩:=yc3 ac))
   go_loopg [55] cX (fun kq v55 w' => ∃ (aV : Int) (aq : Int) (au : Int) (ax : List Int) (ah : Value),v55=.int .i64 aV∧Aside0 (cpack_Write.l0 kq a0 a1 l3 al (al.length : Int) aV aM al ai aq au ax=some (r1,r2))∧Aside0 (kq≤cX)∧Aside0 (Kd.V (Kd.int .u8) 5 w' w.heap.size (fun k_=>k_≠aU∧k_≠ao) ah ax)∧Aside0 (w'.heap[aU]? = some (.cells #[.bool aM,(.slice bc al.length ba),(.slice bf ai.length bd)] 25 (0,0)))∧Aside0 (w'.heap[ao]? = some (.cells #[.int .u64 aq, .int .u32 au,ah] 54 (0,0)))∧Aside0 (Below w.heap.size w w'))
   case atStart=>exact ⟨(0),(db),(dc),(b9),(.slice dw b9.length dx),yq,H',⟨Nat.le_refl _⟩,⟨Kd.R_V (by (with_reducible repeat (first|apply zo|apply zp|apply zq));exact zG (zH (p:=⟨ao,2,none⟩) (zH (p:=⟨ao,1,none⟩) (zH (p:=⟨ao,0,none⟩) (Kd.R_types (Kd.R_types (Kd.R_types bz.out ac.out (by decide)) ae.out (by decide)) ae.out (by decide)) (fun _ hk=>hk.2) (.int .u64 db)) (fun _ hk=>hk.2) (.int .u32 dc)) (fun _ hk=>hk.2) (.slice dw b9.length dx)) (fun _ hk=>⟨hk.1.1.2,hk.1.2⟩))⟩,⟨yk ac⟩,⟨ykp ae⟩,⟨yhb⟩⟩
   case round =>
    clear H'
    try clear ca
    try clear cb
    try clear ce
    try clear ci
    try clear cj
    try clear ck
    try clear cf
    try clear cg
    try clear ch
    try clear cl
    try clear cm
    try clear cn
    obtain ⟨aV,aq,au,ax,ah,rfl,HA,HK3,aa,ac,ae,HB⟩:=hrel
    obtain ⟨k3,rfl⟩:=ysu gk (fun h=>by subst h;exact absurd HA.out (by simp [cpack_Write.l0]))
    have H:=HA.out;clear HA
    simp only [cpack_Write.l0] at H
    by_cases c33 : aV < (al.length : Int)
    ·
     rw [if_pos c33] at H
     have cO:=yD c33
     clear c33
     obtain ⟨c34,H⟩:=yif H
     have dy : decide (0≤aV)=true:=decide_eq_true c34
     clear c34
     obtain ⟨c35,H⟩:=yif H
     have dz : decide (aV < (al.length : Int))=true:=decide_eq_true c35
     clear c35
     obtain ⟨bO,A36,H⟩:=ybi H
     obtain ⟨⟨dA,dB,dd,ea⟩,A37,H⟩:=ybi H
     try dsimp only at H
     have H' := zm H
     clear H
     have co : 0≤(aV : Int):=yt
     have cp : aV < (al.length : Int):=yt
     obtain ⟨dC,de,df,eb,bj,bA,bB⟩:=at_L1 bp.out aV co cp
     cases eb
     replace bj:=yhx HB bj
     have cq:=zm bB;have cr:=zm bA;clear bB bA
     replace co:=eq_true co
     replace cp:=eq_true cp
     try go_wp2
     replace aa:=zm (zC aa.out)
     replace ac:=zm (zj ac.out)
     replace ae:=zm (zj ae.out)
     replace HB:=zm (zf HB.out)
     refine yst (fun w' => w'.cell? ⟨ao,0,none⟩=some (.int .u64 aq)∧w'.cell? ⟨ao,1,none⟩=some (.int .u32 au)∧w'.cell? ⟨ao,2,none⟩=some (ah)∧w'.cell? ⟨aU,0,none⟩=some (.bool aM)∧w'.cell? ⟨aU,1,none⟩=some (.slice (some dC) al.length ba)∧w'.cell? ⟨aU,2,none⟩=some (.slice bf ai.length bd)) [11] 12 cpack_Write.tab10 cpack_Write.bits10 (fun hHeld HT_ HW_ => ?_)
     generalize wr.drew=w38 at aa ac ae HB hHeld ⊢
     refine yp 1 62 HT_ ?_
     refine yp 2 63 HT_ ?_
     refine yp 3 64 HT_ ?_
     refine yp 5 66 HT_ ?_
     refine yl 0 61 HT_ HW_ hHeld ?_
     refine yl 6 67 HT_ HW_ hHeld ?_
     refine yw 4 65 HT_ (fun K hK => ?_)
     refine ygs Try.func29 #[.slice A3 l3.length c3, .int .i64 aV] ?_
     with_reducible refine (cpack_of.calls (fun k_=>k_ < w.heap.size) _ _ l3 aV bO _ ?am A36.out).mono ?_
     (case am=>exact Kd.V_mk HC3.out (Kd.F_below (Kd.C_F (Kd.heap_slice 3 (Kd.heap_int .i64)) HR3.out) yhb))
     rintro e w39 ⟨eW,rfl,ho0,hb⟩
     refine ⟨_,rfl, ?_⟩
     replace aa:=yVb aa hb
     have br:=yho (fun k_=>k_≠aU∧k_≠ao) ho0 (fun k_ hk_=>⟨yoB ac hk_,yoB ae hk_⟩)
     replace ac:=ybb ac hb
     replace ae:=ybb ae hb
     replace HB:=ybs hb
     (try clear hb)
     (try clear ho0)
     obtain ⟨dD,dE,dF⟩:=Kd.V_slice aa.out
     (first|subst dF|(injection dF with f1_ f2_ f3_;have f4_:=f1_.symm;have f5_:=f3_.symm;clear f1_ f2_ f3_;subst f4_;subst f5_))
     obtain ⟨ec,ed,dG⟩:=Kd.V_slice br.out
     (first|subst dG|(injection dG with f1_ f2_ f3_;have f4_:=f1_.symm;have f5_:=f3_.symm;clear f1_ f2_ f3_;subst f4_;subst f5_))
     refine hK.out _ _ yH (fun hHeld => ?_)
     clear hK K
     refine ym (some 65) ?_
     refine yw 7 68 HT_ (fun K hK => ?_)
     refine ygs Try.func28 #[.agg #[.int .u64 aq, .int .u32 au, .slice dD ax.length dE], .slice de (rd_L1 al aV).length df, .slice ec bO.length ed, .bool aM] ?_
     with_reducible refine (gain_Put.calls k3 aq au (fun k_=>(k_≠aU∧k_≠ao)) _ _ ax _ _ (rd_L1 al aV) _ _ bO aM dA dB dd ea _ ?am ?bh ?bg ?dH ?dI A37.out).mono ?_
     (case am=>exact aa.out)
     (case bh=>exact ycb cq)
     (case bg=>exact cr.out)
     (case dH=>exact yce (Kd.V_reads' br.out).2.2)
     (case dI=>exact (Kd.V_reads' br.out).2.1)
     rintro e w42 ⟨eX,rfl,ho0,hb⟩
     refine ⟨_,rfl, ?_⟩
     replace aa:=yVb aa hb
     replace br:=yVb br hb
     have cP:=yho (fun k_=>k_≠aU∧k_≠ao) ho0 (fun k_ hk_=>⟨yoB ac hk_,yoB ae hk_⟩)
     replace ac:=ybb ac hb
     replace ae:=ybb ae hb
     replace HB:=ybs hb
     (try clear hb)
     (try clear ho0)
     obtain ⟨ee,ef,dJ⟩:=Kd.V_slice cP.out
     (first|subst dJ|(injection dJ with f1_ f2_ f3_;have f4_:=f1_.symm;have f5_:=f3_.symm;clear f1_ f2_ f3_;subst f4_;subst f5_))
     refine hK.out _ _ yH (fun hHeld => ?_)
     clear hK K
     refine ym (some 68) ?_
     refine yp 8 60 HT_ ?_
     refine yp 9 69 HT_ ?_
     refine yp 10 70 HT_ ?_
     refine last_ (i:=11) (N:=none) #[true,true,true,true,true,true,true,true,true,true,true,true] rfl rfl (one_of HT_.out (by kernel_rfl)) (by decide) (fun K hK => ?_)
     have eY : w42.cell? ⟨ao,0,none⟩=some (.int .u64 aq):=(zs ae.out 0).trans rfl
     have hfs43:=zx ae.out 0
     have:=av.out
     have:=aw.out
     have eZ : w42.cell? ⟨ao,1,none⟩=some (.int .u32 au):=(zs ae.out 1).trans rfl
     have hfs44:=zx ae.out 1
     have:=av.out
     have:=aw.out
     have e8 : w42.cell? ⟨ao,2,none⟩=some (.slice dD ax.length dE):=(zs ae.out 2).trans rfl
     have hfs46:=zx ae.out 2
     have:=av.out
     have:=aw.out
     refine skip_ (w1 := ?_) (by rfl) rfl ?_ ?_
     rotate_left
     ·
      go_simp
      rfl
     refine hK.out _ _ ?_
     clear hK K
     refine done_ (done_of HT_.out (by kernel_rfl)) ?_
     try go_wp2
     go_roundg k3
     case measure=>exact yom3 HJ4 bq HK3
     case rel=>exact ⟨(wrap64 (aV+1)),(dA),(dB),(dd),(.slice ee dd.length ef),yq,H',⟨yom3 HJ4 bq HK3⟩,⟨yV0 cP⟩,⟨yk ac⟩,⟨ykp ae⟩,⟨yhb⟩⟩
    rw [if_neg c33] at H
    have cO:=yG c33
    clear c33
    obtain ⟨⟨aW,eg⟩,A47,H⟩:=ybi H
    try dsimp only at H
    have H' := zm H
    clear H
    have:=av.out
    have:=aw.out
    obtain ⟨ct,cu,cv,cw,cx,cy⟩:=yc3 ac
    go_wp2_with (first|((with_reducible refine gate_callee (f:=30) rfl ?_);refine ygl 77 Try.func30 #[.int .i64 a0, .int .i64 a1, .slice bc al.length ba] ?_;(with_reducible refine (alloc_Pulses.calls k3 a0 a1 _ _ al aW eg _ ?am bv.out A47.out).mono ?_);(case am=>exact ycb bp);rintro e w50 ⟨cz,rfl,ho0,hb⟩;refine ⟨_,rfl, ?_⟩;replace aa:=zm (Kd.V_elder' (yr aa) (Kd.S_base ho0) hb);have dK:=zm (Kd.S_lower ho0 (zE yhb));replace ac:=ybb ac hb;replace ae:=ybb ae hb;replace HB:=ybs hb;(try clear hb);(try clear ho0);obtain ⟨cA,cB,cC,cD,cE,cF⟩:=yc3 ac))
    go_loopg [83] k3 (fun kq v83 w' => ∃ (af : Int) (ay : Int) (az : Int) (aA : List Int) (ah : Value),v83=.int .i64 af∧Aside0 (cpack_Write.l1 kq a0 aW ai (ai.length : Int) af ay az aA=some (r1,r2))∧Aside0 (kq≤k3)∧Aside0 (Kd.S (Kd.slice 3 (Kd.int .i64)) 49 w' w.heap.size (fun _=>True) cz aW)∧Aside0 (Kd.V (Kd.int .u8) 5 w' w.heap.size (fun k_=>some k_≠(cz : Value).ownBlock∧k_≠aU∧k_≠ao) ah aA)∧Aside0 (w'.heap[aU]? = some (.cells #[.bool aM,(.slice bc al.length ba),(.slice bf ai.length bd)] 25 (0,0)))∧Aside0 (w'.heap[ao]? = some (.cells #[.int .u64 ay, .int .u32 az,ah] 54 (0,0)))∧Aside0 (Below w.heap.size w w'))
    case atStart=>exact ⟨(0),(aq),(au),(ax),(ah),yq,H',⟨Nat.le_refl _⟩,⟨yr dK⟩,⟨yV0 aa⟩,⟨yk ac⟩,⟨yk ae⟩,⟨yhb⟩⟩
    case round =>
     clear H'
     try clear c3
     try clear cO
     try clear dy
     try clear dz
     try clear ct
     try clear cu
     try clear cv
     try clear cA
     try clear cB
     try clear cC
     try clear cw
     try clear cx
     try clear cy
     try clear cD
     try clear cE
     try clear cF
     try clear bj
     try clear co
     try clear cp
     obtain ⟨af,ay,az,aA,ah,rfl,HA,HK4,ag,aa,ac,ae,HB⟩:=hrel
     obtain ⟨k4,rfl⟩:=ysu gk (fun h=>by subst h;exact absurd HA.out (by simp [cpack_Write.l1]))
     have H:=HA.out;clear HA
     simp only [cpack_Write.l1] at H
     by_cases c52 : af < (ai.length : Int)
     ·
      rw [if_pos c52] at H
      have cQ:=yD c52
      clear c52
      obtain ⟨c53,H⟩:=yif H
      have dL : decide (0≤af)=true:=decide_eq_true c53
      clear c53
      obtain ⟨c54,H⟩:=yif H
      have dM : decide (af < (ai.length : Int))=true:=decide_eq_true c54
      clear c54
      have H' := zm H
      clear H
      have cG : 0≤(af : Int):=yt
      have cH : af < (ai.length : Int):=yt
      obtain ⟨dN,eh,ei,ej,bk,bC,bD⟩:=at_L2 bw.out af cG cH
      cases ej
      replace bk:=yhx HB bk
      have bE:=zm bD;have dY:=zm bC;clear bD bC
      replace cG:=eq_true cG
      replace cH:=eq_true cH
      go_wp2
      go_loopg [90] k4 (fun kq v90 w' => ∃ (aj : Int) (aC : Int) (aD : Int) (aE : List Int) (ah : Value),v90=.int .i64 aj∧Aside0 (cpack_Write.l2 kq a0 aW af ai (ai.length : Int) af (rd_L2 ai af) ((rd_L2 ai af).length : Int) aj aC aD aE=some (r1,r2))∧Aside0 (kq≤k4)∧Aside0 (Kd.S (Kd.slice 3 (Kd.int .i64)) 49 w' w.heap.size (fun _=>True) cz aW)∧Aside0 (Kd.V (Kd.int .u8) 5 w' w.heap.size (fun k_=>some k_≠(cz : Value).ownBlock∧k_≠aU∧k_≠ao) ah aE)∧Aside0 (w'.heap[aU]? = some (.cells #[.bool aM,(.slice bc al.length ba),(.slice (some dN) ai.length bd)] 25 (0,0)))∧Aside0 (w'.heap[ao]? = some (.cells #[.int .u64 aC, .int .u32 aD,ah] 54 (0,0)))∧Aside0 (Below w.heap.size w w'))
      case atStart=>exact ⟨(0),(ay),(az),(aA),(ah),yq,H',⟨Nat.le_refl _⟩,⟨yr ag⟩,⟨yr aa⟩,⟨yk ac⟩,⟨yk ae⟩,⟨yhb⟩⟩
      case round =>
       clear H'
       try clear cQ
       try clear dL
       try clear dM
       try clear bk
       try clear cG
       try clear cH
       obtain ⟨aj,aC,aD,aE,ah,rfl,HA,HK5,ag,aa,ac,ae,HB⟩:=hrel
       obtain ⟨k5,rfl⟩:=ysu gk (fun h=>by subst h;exact absurd HA.out (by simp [cpack_Write.l2]))
       have H:=HA.out;clear HA
       simp only [cpack_Write.l2] at H
       by_cases c55 : aj < ((rd_L2 ai af).length : Int)
       ·
        rw [if_pos c55] at H
        have dO:=yD c55
        clear c55
        obtain ⟨c56,H⟩:=yif H
        have eL : decide (0≤aj)=true:=decide_eq_true c56
        clear c56
        obtain ⟨c57,H⟩:=yif H
        have eM : decide (aj < ((rd_L2 ai af).length : Int))=true:=decide_eq_true c57
        clear c57
        obtain ⟨c58,H⟩:=yif H
        have eN : decide (0≤af)=true:=decide_eq_true c58
        clear c58
        obtain ⟨c59,H⟩:=yif H
        have eO : decide (af < (aW.length : Int))=true:=decide_eq_true c59
        clear c59
        obtain ⟨c60,H⟩:=yif H
        have eP : decide (aj < ((rd_L1 aW af).length : Int))=true:=decide_eq_true c60
        clear c60
        by_cases c61 : (rd (rd_L1 aW af) aj)=0
        ·
         rw [if_pos c61] at H
         obtain ⟨dP,dQ⟩:=yE c61
         clear c61
         have H' := zm H
         clear H
         have bs : 0≤(aj : Int):=yt
         have bu : aj < ((rd_L2 ai af).length : Int):=yt
         obtain ⟨dR,bT,bU,dg,aY,aZ,a7⟩:=at_L1 bE.out aj bs bu
         cases dg
         replace aY:=yhx HB aY
         have bF:=zm a7;have bG:=zm aZ;clear a7 aZ
         replace bs:=eq_true bs
         replace bu:=eq_true bu
         obtain ⟨e9,fa,ek⟩:=Kd.S_slice ag.out
         subst ek
         have bl : 0≤(af : Int):=yt
         have bm : af < (aW.length : Int):=yt
         obtain ⟨bV,dh,di,dj,bn,a8,a9⟩:=at_L1 (Kd.S_reads' ag.out).2.2 af bl bm
         cases dj
         obtain ⟨ce340,hce340,hMe340,hcc340⟩:=Kd.S_get ag.out [] af bl (by first|exact bm|exact yt|(have e_:=(Kd.S_reads' ag.out).1;omega))
         obtain ⟨ve340_0,rfl,ge340_0⟩:=hMe340
         have hv340_0:=hcc340 0 _ rfl
         rw [Nat.add_zero,show ((Kd.slice 3 (Kd.int .i64))).sz=1 from rfl,Nat.mul_one] at hv340_0
         replace hv340_0:=Option.some.inj (hv340_0.symm.trans bn)
         rw [hv340_0] at ge340_0
         have ap:=zm (show Kd.R (Kd.int .i64) 3 _ _ _ _ (rd_L1 aW af) from ge340_0)
         clear hv340_0 ge340_0 hcc340 hce340;have ak:=zm a9;have cI:=zm a8;clear a9 a8
         replace bl:=eq_true bl
         replace bm:=eq_true bm
         obtain ⟨dS,dk,cJ,el,em⟩:=yai ak aj
         cases dk
         go_wp2
         go_roundg k5
         case measure=>exact yom5 HJ4 bq HK3 HK4 HK5
         case rel=>exact ⟨(wrap64 (aj+1)),(aC),(aD),(aE),(ah),yq,H',⟨yom5 HJ4 bq HK3 HK4 HK5⟩,⟨yr ag⟩,⟨yr aa⟩,⟨yk ac⟩,⟨yk ae⟩,⟨yhb⟩⟩
        rw [if_neg c61] at H
        obtain ⟨dP,dQ⟩:=yF c61
        obtain ⟨bQ,A63,H⟩:=ybi H
        obtain ⟨⟨dl,en⟩,A64,H⟩:=ybi H
        try dsimp only at H
        obtain ⟨⟨dm,eo⟩,A65,H⟩:=ybi H
        try dsimp only at H
        obtain ⟨⟨dp,dq,cK,ep⟩,A66,H⟩:=ybi H
        try dsimp only at H
        have H' := zm H
        clear H
        have bs : 0≤(aj : Int):=yt
        have bu : aj < ((rd_L2 ai af).length : Int):=yt
        obtain ⟨dR,bT,bU,dg,aY,aZ,a7⟩:=at_L1 bE.out aj bs bu
        cases dg
        replace aY:=yhx HB aY
        have bF:=zm a7;have bG:=zm aZ;clear a7 aZ
        replace bs:=eq_true bs
        replace bu:=eq_true bu
        obtain ⟨fb,fc,eq⟩:=Kd.S_slice ag.out
        subst eq
        have bl : 0≤(af : Int):=yt
        have bm : af < (aW.length : Int):=yt
        obtain ⟨bV,dh,di,dj,bn,a8,a9⟩:=at_L1 (Kd.S_reads' ag.out).2.2 af bl bm
        cases dj
        obtain ⟨ce340,hce340,hMe340,hcc340⟩:=Kd.S_get ag.out [] af bl (by first|exact bm|exact yt|(have e_:=(Kd.S_reads' ag.out).1;omega))
        obtain ⟨ve340_0,rfl,ge340_0⟩:=hMe340
        have hv340_0:=hcc340 0 _ rfl
        rw [Nat.add_zero,show ((Kd.slice 3 (Kd.int .i64))).sz=1 from rfl,Nat.mul_one] at hv340_0
        replace hv340_0:=Option.some.inj (hv340_0.symm.trans bn)
        rw [hv340_0] at ge340_0
        have ap:=zm (show Kd.R (Kd.int .i64) 3 _ _ _ _ (rd_L1 aW af) from ge340_0)
        clear hv340_0 ge340_0 hcc340 hce340;have ak:=zm a9;have cI:=zm a8;clear a9 a8
        replace bl:=eq_true bl
        replace bm:=eq_true bm
        obtain ⟨dS,dk,cJ,el,em⟩:=yai ak aj
        cases dk
        try go_wp2
        replace ag:=zm (Kd.S_drew ag.out)
        replace aa:=zm (zC aa.out)
        replace ap:=zm (zq ap.out)
        replace ac:=zm (zj ac.out)
        replace ae:=zm (zj ae.out)
        replace ak:=zm (Kd.C_drew ak.out)
        replace HB:=zm (zf HB.out)
        have cL : 0≤(af : Int):=yt
        have cM : af < (aW.length : Int):=yt
        obtain ⟨dT,er,dr,es,bH,bI,bJ⟩:=at_L1 (Kd.S_reads' ag.out).2.2 af cL cM
        obtain rfl : bV=dT:=(by injection es)
        obtain ⟨ce343,hce343,hMe343,hcc343⟩:=Kd.S_get ag.out [] af cL (by first|exact cM|exact yt|(have e_:=(Kd.S_reads' ag.out).1;omega))
        obtain ⟨ve343_0,rfl,ge343_0⟩:=hMe343
        have hv343_0:=hcc343 0 _ rfl
        rw [Nat.add_zero,show ((Kd.slice 3 (Kd.int .i64))).sz=1 from rfl,Nat.mul_one] at hv343_0
        replace hv343_0:=Option.some.inj (hv343_0.symm.trans bH)
        rw [hv343_0] at ge343_0
        have aN:=zm (show Kd.R (Kd.int .i64) 3 _ _ _ _ (rd_L1 aW af) from ge343_0)
        clear hv343_0 ge343_0 hcc343 hce343;have aG:=zm bJ;have dZ:=zm bI;clear bJ bI
        replace cL:=eq_true cL
        replace cM:=eq_true cM
        obtain ⟨cR,et,cN,fd,fe⟩:=yai aG aj
        cases et
        refine yst (fun w' => w'.cell? (bV.add (af).toNat)=some (.slice (some cR) (rd_L1 aW af).length dr)∧w'.cell? (cR.add (aj).toNat)=some (.int .i64 (rd (rd_L1 aW af) aj))) [] 15 cpack_Write.tab20 cpack_Write.bits20 (fun hHeld HT_ HW_ => ?_)
        generalize wr.drew=w68 at ag aa ap ac ae ak HB aN aG bH cN hHeld ⊢
        refine yp 0 104 HT_ ?_
        refine yp 2 106 HT_ ?_
        refine yp 3 107 HT_ ?_
        refine yp 4 108 HT_ ?_
        refine yp 6 110 HT_ ?_
        refine yl 5 109 HT_ HW_ hHeld ?_
        refine yp 7 111 HT_ ?_
        refine yl 8 112 HT_ HW_ hHeld ?_
        refine yw 1 105 HT_ (fun K hK => ?_)
        refine ygs Try.func32 #[.int .i64 aj] ?_
        with_reducible refine (band_Width.calls aj bQ _ A63.out).mono ?_
        rintro e w69 ⟨rfl,hb⟩
        have eu:=yhs hb hHeld.1
        have ev:=yhs hb hHeld.2
        refine ⟨_,rfl, ?_⟩
        replace ag:=ySb ag hb
        replace aa:=yVb aa hb
        replace ap:=yRb ap hb
        replace aN:=yRb aN hb
        replace ac:=ybb ac hb
        replace ae:=ybb ae hb
        replace ak:=yCb ak hb
        replace aG:=yCb aG hb
        replace HB:=ybs hb
        (try clear hb)
        refine hK.out _ _ yH (fun hHeld => ?_)
        clear hK K
        refine ym (some 105) ?_
        refine yw 9 113 HT_ (fun K hK => ?_)
        refine ygs Try.func31 #[.int .i64 bQ, .int .i64 (rd (rd_L1 aW af) aj)] ?_
        with_reducible refine (comb_Count.calls bQ (rd (rd_L1 aW af) aj) dl en _ A64.out).mono ?_
        rintro e w70 ⟨rfl,hb⟩
        have eu:=yhs hb hHeld.1
        have ev:=yhs hb hHeld.2
        refine ⟨_,rfl, ?_⟩
        replace ag:=ySb ag hb
        replace aa:=yVb aa hb
        replace ap:=yRb ap hb
        replace aN:=yRb aN hb
        replace ac:=ybb ac hb
        replace ae:=ybb ae hb
        replace ak:=yCb ak hb
        replace aG:=yCb aG hb
        replace HB:=ybs hb
        (try clear hb)
        refine hK.out _ _ yH (fun hHeld => ?_)
        clear hK K
        refine ym (some 113) ?_
        refine yp 10 103 HT_ ?_
        refine yp 11 114 HT_ ?_
        refine yp 12 115 HT_ ?_
        refine yp 13 21 HT_ ?_
        refine yp 14 22 HT_ ?_
        refine done_ (done_of HT_.out (by kernel_rfl)) ?_
        try go_wp2_with (first|((with_reducible refine gate_callee (f:=33) rfl ?_);refine ygl 118 Try.func33 #[.slice bT (rd_L1 (rd_L2 ai af) aj).length bU] ?_;(with_reducible refine (comb_Index.calls k5 _ _ (rd_L1 (rd_L2 ai af) aj) dm eo _ ?am bG.out A65.out).mono ?_);(case am=>exact ycb bF);rintro e w71 ⟨rfl,hb⟩;refine ⟨_,rfl, ?_⟩;replace ag:=ySb ag hb;replace aa:=yVb aa hb;replace ap:=yRb ap hb;replace aN:=yRb aN hb;replace ac:=ybb ac hb;replace ae:=ybb ae hb;replace ak:=yCb ak hb;replace aG:=yCb aG hb;replace HB:=ybs hb;(try clear hb);have:=aw.out;have:=av.out;obtain ⟨_,_,_,_,_,_⟩:=yc3 ae;obtain ⟨ew,ey,ez⟩:=Kd.V_slice aa.out;subst ez)|((with_reducible refine gate_callee (f:=34) rfl ?_);refine ygl 125 Try.func34 #[.agg #[.int .u64 aC, .int .u32 aD, .slice ew aE.length ey], .int .u64 dm, .int .u64 dl] ?_;(with_reducible refine (coder_PutNum.calls k5 aC aD _ _ aE dm dl dp dq cK ep _ ?am ?bh A66.out).mono ?_);(case am=>exact yce (Kd.V_reads' aa.out).2.2);(case bh=>exact (Kd.V_reads' aa.out).2.1);rintro e w75 ⟨ff,rfl,ho0,hb⟩;refine ⟨_,rfl, ?_⟩;replace ag:=ySb ag hb;replace aa:=zm (Kd.V_elder' (yr aa) (Kd.R_base ho0) hb);replace ap:=yRb ap hb;replace aN:=yRb aN hb;have cS:=zm (Kd.R_lower ho0 (zE yhb));replace ac:=ybb ac hb;replace ae:=ybb ae hb;replace ak:=yCb ak hb;replace aG:=yCb aG hb;replace HB:=ybs hb;(try clear hb);(try clear ho0);obtain ⟨_,_,_,_,_,_⟩:=yc3 ae;obtain ⟨dU,dV,eA⟩:=Kd.R_slice cS.out;subst eA))
        go_roundg k5
        case measure=>exact yom5 HJ4 bq HK3 HK4 HK5
        case rel=>exact ⟨(wrap64 (aj+1)),(dp),(dq),(cK),(.slice dU cK.length dV),yq,H',⟨yom5 HJ4 bq HK3 HK4 HK5⟩,⟨yS1 ag ae⟩,⟨Kd.R_V (by (with_reducible repeat (first|apply zo|apply zp|apply zq));exact zG (zH (p:=⟨ao,2,none⟩) (zH (p:=⟨ao,1,none⟩) (zH (p:=⟨ao,0,none⟩) (Kd.R_types (Kd.R_types (Kd.R_types (Kd.R_apart' cS.out (Kd.S_typed ag.out) (by decide)) ac.out (by decide)) ae.out (by decide)) ae.out (by decide)) (fun _ hk=>hk.2) (.int .u64 dp)) (fun _ hk=>hk.2) (.int .u32 dq)) (fun _ hk=>hk.2) (.slice dU cK.length dV)) (fun _ hk=>⟨hk.1.1.1.2,⟨hk.1.1.2,hk.1.2⟩⟩))⟩,⟨yk ac⟩,⟨ykp ae⟩,⟨yhb⟩⟩
       rw [if_neg c55] at H
       have dO:=yG c55
       clear c55
       have H' := zm H
       clear H
       go_wp2
       go_roundg k5
       case measure=>exact yom5 HJ4 bq HK3 HK4 HK5
       case rel=>exact ⟨(wrap64 (af+1)),(aC),(aD),(aE),(ah),yq,H',⟨yom5 HJ4 bq HK3 HK4 HK5⟩,⟨yr ag⟩,⟨yr aa⟩,⟨yk ac⟩,⟨yk ae⟩,⟨yhb⟩⟩
     rw [if_neg c52] at H
     have cQ:=yG c52
     clear c52
     obtain ⟨c78,H⟩:=yif H
     have eQ:=eq_true c78
     have eR : decide (0≤a0)=true:=decide_eq_true c78
     clear c78
     obtain ⟨c79,H⟩:=yif H
     have eS:=eq_true c79
     have eT : decide ((a0 : Int).toNat≤281474976710656)=true:=decide_eq_true c79
     clear c79
     obtain ⟨bo,bW⟩ : ∃ y_ : List Int,y_=(List.replicate (a0 : Int).toNat 0):=⟨_,rfl⟩
     replace H : ((coder_Finish.f ay az aA).bind fun bi=>(some ((bi.take bo.length ++ bo.drop bi.length),0)))=some (r1,r2):=yrw bW H
     have cT:=zm bW;clear bW
     obtain ⟨bi,A80,H⟩:=ybi H
     by_cases c81 : True
     ·
      have _h:=c81;have LMc81:=zm c81;clear c81
      obtain ⟨eB,bX⟩ : ∃ y_ : List Int,y_=(bi.take bo.length ++ bo.drop bi.length):=⟨_,rfl⟩
      replace H : (some (eB,0))=some (r1,r2):=yrw bX H
      have dW:=zm bX;clear bX
      simp only [Option.some.injEq,Prod.mk.injEq] at H
      obtain ⟨rfl,rfl⟩:=H
      go_wp2_with (first|((with_reducible refine gate_dst (N:=131) rfl ?_);refine Kd.R_make (Kd.int .u8) _ 5 rfl (N:=131) rfl 28 _ _ rfl a0 rfl rfl Try.underlying28 (.int .u8 0) 1 info5 rfl (by decide) (by omega) 0 (ok:=fun _=>True) (okp:=fun _=>True) rfl (fun _ hk=>hk) trivial (yt) (Nat.le_trans (Nat.mul_le_mul_right _ (yt : a0.toNat≤281474976710656)) (by omega)) (Below.refl _ _) (Nat.le_refl _) ?_;intro eC w82 bL hb hg_ hnew_;clear hg_ hnew_;(first|rw [← cT.out] at bL|(simp only [Int.reduceToNat] at bL;rw [← cT.out] at bL));replace ag:=ySb ag hb;replace aa:=zm (Kd.V_elder' (yr aa) (Kd.R_base bL) hb);have bK:=zm (Kd.R_lower bL (zE yhb));replace ac:=ybb ac hb;replace ae:=ybb ae hb;replace HB:=ybs hb;clear hb bL;have:=aw.out;have:=av.out;obtain ⟨_,_,_,_,_,_⟩:=yc3 ae;obtain ⟨eD,eE,eF⟩:=Kd.V_slice aa.out;subst eF)|((with_reducible refine gate_callee (f:=35) rfl ?_);refine ygl 134 Try.func35 #[.agg #[.int .u64 ay, .int .u32 az, .slice eD aA.length eE]] ?_;(with_reducible refine (coder_Finish.calls ay az _ _ aA bi _ ?am ?bh A80.out).mono ?_);(case am=>exact yce (Kd.V_reads' aa.out).2.2);(case bh=>exact (Kd.V_reads' aa.out).2.1);rintro e w87 ⟨fg,rfl,ho0,hb⟩;refine ⟨_,rfl, ?_⟩;replace ag:=ySb ag hb;replace aa:=zm (Kd.V_elder' (yr aa) (Kd.R_base ho0) hb);have cU:=zm (Kd.R_lower (Kd.R_new' ho0 (Kd.R_lt (yr bK))) (zE yhb));replace bK:=zm (Kd.R_elder' (yr bK) (Kd.R_base ho0) hb);replace ac:=ybb ac hb;replace ae:=ybb ae hb;replace HB:=ybs hb;(try clear hb);(try clear ho0);obtain ⟨fh,fi,eG⟩:=Kd.R_slice cU.out;subst eG)|((with_reducible refine gate_builtin (b:=.copy) (xs := #[.tmp 132, .tmp 134]) rfl ?_);refine cpack_Write.copyRow (k:=.u8) (w0:=w) w.heap.size rfl (.tmp 132) (.tmp 134) 28 5 rfl Try.underlying28 info5 eC bo bi _ _ _ (fun _=>True) rfl rfl ?aO ?aR ?aB ?_;(case aO=>exact (yR0 bK));(case aR=>exact yce (Kd.R_reads' cU.out).2.2);(case aB=>exact yhb);intro w88 ho hb;rw [← dW.out] at ho;clear HB;have dX:=zm ho;have HB:=zm hb;clear ho hb))
      go_ret2
      exact ⟨_,ye,yR0 dX,yhb⟩
     exact absurd trivial c81
def w13_As.f (aj : Bool) (aa : List (List Int)) (ac : List (List (List Int))) : Option (Bool × (List (List Int)) × (List (List (List Int)))):=some (aj,aa,ac)
set_option maxHeartbeats 8000000 in
set_option maxRecDepth 100000 in
theorem w13_As.calls (aj : Bool) (ae : Nat→Prop) (am : Option Addr) (ao : Nat) (aa : List (List Int)) (af : Nat→Prop) (ap : Option Addr) (aq : Nat) (ac : List (List (List Int))) (r1 : Bool) (r2 : List (List Int)) (r3 : List (List (List Int))) (w : World) (av : Kd.V (Kd.slice 3 (Kd.int .i64)) 49 w w.heap.size (fun k_=>ae k_) (.slice am aa.length ao) aa) (aw : Kd.V (Kd.slice 49 (Kd.slice 3 (Kd.int .i64))) 22 w w.heap.size (fun k_=>af k_) (.slice ap ac.length aq) ac) (h : w13_As.f aj aa ac=some (r1,r2,r3)) :
  Calls Try.prog 14 #[.agg #[.bool aj, .slice am aa.length ao, .slice ap ac.length aq]] w fun e w' => ∃ v1_ v2_ : Value,e=.returned (.agg #[.bool r1,v1_,v2_])∧Kd.V (Kd.slice 3 (Kd.int .i64)) 49 w' w.heap.size (fun k_=>((ae k_∨af k_)∨w.heap.size≤k_)) v1_ r2∧Kd.V (Kd.slice 49 (Kd.slice 3 (Kd.int .i64))) 22 w' w.heap.size (fun k_=>((ae k_∨af k_)∨w.heap.size≤k_)) v2_ r3∧Below w.heap.size w w' := by
 have hu25:=Try.underlying25;have hu33:=Try.underlying33
 have ag:=zm (show Kd.V (Kd.slice 3 (Kd.int .i64)) 49 w w.heap.size (fun k_=>((ae k_∨af k_)∨w.heap.size≤k_)) (.slice am aa.length ao) aa from zy av (fun k_ hk => .inl (.inl hk)))
 have ah:=zm (show Kd.V (Kd.slice 49 (Kd.slice 3 (Kd.int .i64))) 22 w w.heap.size (fun k_=>((ae k_∨af k_)∨w.heap.size≤k_)) (.slice ap ac.length aq) ac from zy aw (fun k_ hk => .inl (.inr hk)))
 have HB:=zm (Below.refl w.heap.size w);have H:=h
 unfold w13_As.f at H
 clear h
 simp only [Option.some.injEq,Prod.mk.injEq] at H
 obtain ⟨rfl,rfl,rfl⟩:=H
 go_enter Try.func14,Try.ntmps14
 go_wp2_with (first|((with_reducible refine gate_dst (N:=1) rfl ?_);refine ybx 1 #[.bool aj, .slice am aa.length ao, .slice ap ac.length aq] 25 ?_;intro ay hg w2 hbox hb;replace ag:=yVe ag hg hb;replace ah:=yVe ah hg hb;have ai:=zm (hbox);have az:=ygw hg;have aA:=ygw hg;replace HB:=ybs hb;clear hb hbox hg)|((with_reducible refine gate_dst (N:=2) rfl ?_);refine ybx 2 #[.bool false, .slice none 0 0, .slice none 0 0] 33 ?_;intro ax hg w3 hbox hb;replace ag:=yVe ag hg hb;replace ah:=yVe ah hg hb;have au:=zm (hbox);have aC:=ygw hg;have aD:=ygw hg;replace HB:=ybs hb;have ak:=ynl ai hg;have al:=yng ai hg;replace ai:=ybb ai hb;clear hb hbox hg;have:=ak.out;have:=al.out;obtain ⟨_,_,_,_,_,_⟩:=yc3 ai;obtain ⟨_,_,_,_,_,_⟩:=yc3 au))
 refine bodyPost_ret (results_cell_row rfl _ _ ax 33 #[.bool aj, .slice am aa.length ao, .slice ap ac.length aq] (0,0) _ rfl (ykp au) Try.underlying33 rfl (by kernel_rfl)) rfl ?_
 exact ⟨_,_,ye,yV0 ag,yV0 ah,yhb⟩
def w13_wide.l0 : Nat→List (List Int)→Int→Option (Bool)
 | 0,_,_=>none
 | k+1,x0,x3=>if x3 < (x0.length : Int) then (if 0≤x3 then (if ((rd_L1 x0 x3).length : Int) > 60 then (some true) else (w13_wide.l0 k x0 (wrap64 (x3+1)))) else (none)) else (some (decide ((x0.length : Int) > 10)))
def w13_wide.f (k : Nat) (l0 : List (List Int)) : Option (Bool):=w13_wide.l0 k l0 0
theorem w13_wide.mono_l : ∀ k,(∀ y0 y1,LeO (w13_wide.l0 k y0 y1) (w13_wide.l0 (k+1) y0 y1))
 | 0=>fun _ _ r h=>by simp [w13_wide.l0] at h
 | k+1=>by
  have ih0:=w13_wide.mono_l k
  ·
   intro y0 y1
   unfold w13_wide.l0
   repeat' with_reducible first|apply ih0|apply yLr|apply yLn|apply yLi|apply yLb|intro _
theorem w13_wide.mono : ∀ a0 k,LeO (w13_wide.f k a0) (w13_wide.f (k+1) a0):=by
 intro a0 k
 have ih0:=w13_wide.mono_l k
 unfold w13_wide.f
 repeat' with_reducible first|apply ih0|apply yLr|apply yLn|apply yLi|apply yLb|intro _
set_option maxHeartbeats 8000000 in
set_option maxRecDepth 100000 in
theorem w13_wide.calls (k : Nat) (A0 : Option Addr) (c0 : Nat) (l0 : List (List Int)) (r : Bool) (w : World) (hr0 : Kd.C (Kd.slice 3 (Kd.int .i64)) w A0 l0.length l0) (hc0 : l0.length≤c0) (h : w13_wide.f k l0=some r) :
  Calls Try.prog 19 #[.slice A0 l0.length c0] w fun e w' => e=.returned (.bool r)∧Drawn0 w w' := by
 have HR0:=zm hr0;have HC0:=zm hc0;clear hr0 hc0;have H:=h
 unfold w13_wide.f at H
 clear h
 have H' := zm H
 clear H
 go_enter Try.func19,Try.ntmps19
 go_wp2
 go_loopg [3] k (fun kq v3 w' => ∃ (aa : Int),v3=.int .i64 aa∧Aside0 (w13_wide.l0 kq l0 aa=some r)∧Aside0 (kq≤k)∧Drawn0 w w')
 case atStart=>exact ⟨(0),yq,H',⟨Nat.le_refl _⟩,yd⟩
 case round =>
  clear H'
  obtain ⟨aa,rfl,HA,HK1,⟨m1,rfl⟩⟩:=hrel
  obtain ⟨k1,rfl⟩:=ysu gk (fun h=>by subst h;exact absurd HA.out (by simp [w13_wide.l0]))
  have H:=HA.out;clear HA
  simp only [w13_wide.l0] at H
  by_cases c2 : aa < (l0.length : Int)
  ·
   rw [if_pos c2] at H
   have ap:=yD c2
   clear c2
   obtain ⟨c3,H⟩:=yif H
   have av : decide (0≤aa)=true:=decide_eq_true c3
   clear c3
   by_cases c4 : ((rd_L1 l0 aa).length : Int) > 60
   ·
    rw [if_pos c4] at H
    have aq:=yDs c4
    have au : decide (60 < (rd_L1 l0 aa).length)=true:=decide_eq_true (by omega)
    clear c4
    obtain rfl:=Option.some.inj H
    have af : 0≤(aa : Int):=yt
    have ag : aa < (l0.length : Int):=yt
    obtain ⟨ao,ak,al,am,ah,ac,ae⟩:=at_L1 HR0.out aa af ag
    cases am
    have ai:=zm ae;have aj:=zm ac;clear ae ac
    replace af:=eq_true af
    replace ag:=eq_true ag
    go_wp2
    go_ret
    exact ⟨yq,yd⟩
   rw [if_neg c4] at H
   have aq:=yGs c4
   have au : decide (60 < (rd_L1 l0 aa).length)=false:=decide_eq_false (by omega)
   clear c4
   have H' := zm H
   clear H
   have af : 0≤(aa : Int):=yt
   have ag : aa < (l0.length : Int):=yt
   obtain ⟨ao,ak,al,am,ah,ac,ae⟩:=at_L1 HR0.out aa af ag
   cases am
   have ai:=zm ae;have aj:=zm ac;clear ae ac
   replace af:=eq_true af
   replace ag:=eq_true ag
   go_wp2
   go_roundg k1
   case measure=>exact yom1 HK1
   case rel=>exact ⟨(wrap64 (aa+1)),yq,H',⟨yom1 HK1⟩,yd⟩
  rw [if_neg c2] at H
  have ap:=yG c2
  clear c2
  obtain rfl:=Option.some.inj H
  go_wp2
  go_ret
  exact ⟨yq,yd⟩
mutual
def w13_great.j0 : Nat→Bool→Bool→List (List Int)→List (List (List Int))→Option (Bool)
 | 0,_,_,_,_=>none
 | k+1,x18,am,ao,ah=>if x18=true then (some true) else (w13_great.l0 k 0 am ao ah)
def w13_great.l0 : Nat→Int→Bool→List (List Int)→List (List (List Int))→Option (Bool)
 | 0,_,_,_,_=>none
 | k+1,x5,am,ao,ah=>if x5 < (ah.length : Int) then (if 0≤x5 then ((w13_wide.f k (rd_L2 ah x5)).bind fun aJ=>(if aJ=true then (some true) else (w13_great.l0 k (wrap64 (x5+1)) am ao ah))) else (none)) else (some false)
end
def w13_great.f (k : Nat) (al : Bool) (ac : List (List Int)) (aa : List (List (List Int))) (l1 : List (List Int)) : Option (Bool):=(w13_wide.f k ac).bind fun aK=>(if aK=true then (w13_great.j0 k true al ac aa) else ((w13_wide.f k l1).bind fun aM=>(if aM=true then (w13_great.j0 k true al ac aa) else (w13_great.j0 k (decide ((aa.length : Int) > 10)) al ac aa))))
theorem w13_great.mono_l : ∀ k,(∀ y0 y1 y2 y3,LeO (w13_great.j0 k y0 y1 y2 y3) (w13_great.j0 (k+1) y0 y1 y2 y3))∧(∀ y0 y1 y2 y3,LeO (w13_great.l0 k y0 y1 y2 y3) (w13_great.l0 (k+1) y0 y1 y2 y3))
 | 0=>⟨fun _ _ _ _ r h=>by simp [w13_great.j0] at h,fun _ _ _ _ r h=>by simp [w13_great.l0] at h⟩
 | k+1=>by
  obtain ⟨ih0,ih1⟩:=w13_great.mono_l k
  refine ⟨?_, ?_⟩
  ·
   intro y0 y1 y2 y3
   unfold w13_great.j0
   repeat' with_reducible first|apply ih0|apply ih1|apply w13_wide.mono|apply yLr|apply yLn|apply yLi|apply yLb|intro _
  intro y0 y1 y2 y3
  unfold w13_great.l0
  repeat' with_reducible first|apply ih0|apply ih1|apply w13_wide.mono|apply yLr|apply yLn|apply yLi|apply yLb|intro _
theorem w13_great.mono : ∀ a0 a1 a2 a3 k,LeO (w13_great.f k a0 a1 a2 a3) (w13_great.f (k+1) a0 a1 a2 a3):=by
 intro a0 a1 a2 a3 k
 obtain ⟨ih0,ih1⟩:=w13_great.mono_l k
 unfold w13_great.f
 repeat' with_reducible first|apply ih0|apply ih1|apply w13_wide.mono|apply yLr|apply yLn|apply yLi|apply yLb|intro _
set_option maxHeartbeats 8000000 in
set_option maxRecDepth 100000 in
theorem w13_great.calls (k : Nat) (al : Bool) (au : Option Addr) (av : Nat) (ac : List (List Int)) (aC : Option Addr) (aD : Nat) (aa : List (List (List Int))) (A1 : Option Addr) (c1 : Nat) (l1 : List (List Int)) (r : Bool) (w : World) (hr0_1 : Kd.C (Kd.slice 3 (Kd.int .i64)) w au ac.length ac) (hc0_1 : ac.length≤av) (hr0_2 : Kd.C (Kd.slice 49 (Kd.slice 3 (Kd.int .i64))) w aC aa.length aa) (hc0_2 : aa.length≤aD) (hr1 : Kd.C (Kd.slice 3 (Kd.int .i64)) w A1 l1.length l1) (hc1 : l1.length≤c1) (h : w13_great.f k al ac aa l1=some r) :
  Calls Try.prog 10 #[.agg #[.bool al, .slice au ac.length av, .slice aC aa.length aD], .slice A1 l1.length c1] w fun e w' => e=.returned (.bool r)∧Below w.heap.size w w' := by
 have hu25:=Try.underlying25;have aE:=zm hr0_1;have aG:=zm hc0_1;clear hr0_1 hc0_1;have aH:=zm hr0_2;have aU:=zm hc0_2;clear hr0_2 hc0_2;have HR1:=zm hr1;have HC1:=zm hc1;clear hr1 hc1;have HB:=zm (Below.refl w.heap.size w);have H:=h
 unfold w13_great.f at H
 clear h;have HC3:=zm H;clear H
 go_enter Try.func10,Try.ntmps10
 go_upto_region 1 with (first|((with_reducible refine gate_dst (N:=2) rfl ?_);(try (refine gate_guard (by rfl) ?_;dsimp only));refine ybx 2 #[.bool al, .slice au ac.length av, .slice aC aa.length aD] 25 ?_;intro aI hg w4 hbox hb;have ae:=zm (hbox);have aV:=ygw hg;have aW:=ygw hg;replace HB:=ybs hb;clear hb hbox hg))
 (try simp only [Act.put,List.setIfInBounds_toArray,List.set_cons_zero,List.set_cons_succ])
 go_cut [18] (fun v18 wc => ∃ (kq : Nat) (aA : Bool),v18=.bool aA∧Aside0 (w13_great.j0 kq aA al ac aa=some r)∧Aside0 (kq≤k)∧Aside0 (wc.heap[aI]? = some (.cells #[.bool al,(.slice au ac.length av),(.slice aC aa.length aD)] 25 (0,0)))∧Aside0 (Below w.heap.size w wc))
 case first =>
  have H:=HC3.out;clear HC3
  obtain ⟨aK,A5,H⟩:=ybi H
  by_cases c6 : aK=true
  ·
   subst c6
   rw [if_pos rfl] at H
   have H' := zm H
   clear H
   obtain ⟨_,_,_,_,_,_⟩:=yc3 ae
   go_wp2_with (first|((with_reducible refine gate_callee (f:=19) rfl ?_);refine ygl 8 Try.func19 #[.slice au ac.length av] ?_;(with_reducible refine (w13_wide.calls k _ _ ac true _ ?af aG.out A5.out).mono ?_);(case af=>exact ycb aE);rintro e w' ⟨rfl,⟨nd,rfl⟩⟩;refine ⟨_,rfl, ?_⟩))
   go_meet
   case rel=>exact ⟨_,(true),yq,H',⟨yo⟩,⟨yk ae⟩,⟨yhb⟩⟩
  replace c6:=Bool.eq_false_iff.mpr c6
  subst c6
  rw [ynf] at H
  obtain ⟨aM,A8,H⟩:=ybi H
  by_cases c9 : aM=true
  ·
   subst c9
   rw [if_pos rfl] at H
   have H' := zm H
   clear H
   obtain ⟨_,_,_,_,_,_⟩:=yc3 ae
   go_wp2_with (first|((with_reducible refine gate_callee (f:=19) rfl ?_);refine ygl 8 Try.func19 #[.slice au ac.length av] ?_;(with_reducible refine (w13_wide.calls k _ _ ac false _ ?af aG.out A5.out).mono ?_);(case af=>exact ycb aE);rintro e w' ⟨rfl,⟨nd,rfl⟩⟩;refine ⟨_,rfl, ?_⟩)|(go_at_call 19;(with_reducible refine (w13_wide.calls k _ _ l1 true _ ?af HC1.out A8.out).mono ?_);(case af=>exact ycb HR1);rintro e w' ⟨rfl,⟨nd,rfl⟩⟩))
   go_meet
   case rel=>exact ⟨_,(true),yq,H',⟨yo⟩,⟨yk ae⟩,⟨yhb⟩⟩
  replace c9:=Bool.eq_false_iff.mpr c9
  subst c9
  rw [ynf] at H
  have H' := zm H
  clear H
  obtain ⟨_,_,_,_,_,_⟩:=yc3 ae
  go_wp2_with (first|((with_reducible refine gate_callee (f:=19) rfl ?_);refine ygl 8 Try.func19 #[.slice au ac.length av] ?_;(with_reducible refine (w13_wide.calls k _ _ ac false _ ?af aG.out A5.out).mono ?_);(case af=>exact ycb aE);rintro e w' ⟨rfl,⟨nd,rfl⟩⟩;refine ⟨_,rfl, ?_⟩)|(go_at_call 19;(with_reducible refine (w13_wide.calls k _ _ l1 false _ ?af HC1.out A8.out).mono ?_);(case af=>exact ycb HR1);rintro e w' ⟨rfl,⟨nd,rfl⟩⟩))
  go_meet
  case rel=>exact ⟨_,(decide ((aa.length : Int) > 10)),yq,H',⟨yo⟩,⟨yk ae⟩,⟨yhb⟩⟩
 case rest =>
  clear HC3
  try clear c1
  obtain ⟨kq,aA,rfl,HA,HJ2,ae,HB⟩:=hcut
  obtain ⟨kj2,rfl⟩:=ysu kq (fun h=>by subst h;exact absurd HA.out (by simp [w13_great.j0]))
  have H:=HA.out;clear HA
  simp only [w13_great.j0] at H
  by_cases c12 : aA=true
  ·
   subst c12
   rw [if_pos rfl] at H
   obtain rfl:=Option.some.inj H
   go_wp2
   go_ret
   exact ⟨ye,yhb⟩
  replace c12:=Bool.eq_false_iff.mpr c12
  subst c12
  rw [ynf] at H
  have H' := zm H
  clear H
  go_wp2
  go_loopg [5] kj2 (fun kq v5 w' => ∃ (ag : Int),v5=.int .i64 ag∧Aside0 (w13_great.l0 kq ag al ac aa=some r)∧Aside0 (kq≤kj2)∧Aside0 (w'.heap[aI]? = some (.cells #[.bool al,(.slice au ac.length av),(.slice aC aa.length aD)] 25 (0,0)))∧Aside0 (Below w.heap.size w w'))
  case atStart=>exact ⟨(0),yq,H',⟨Nat.le_refl _⟩,⟨yk ae⟩,⟨yhb⟩⟩
  case round =>
   clear H'
   obtain ⟨ag,rfl,HA,HK2,ae,HB⟩:=hrel
   obtain ⟨k2,rfl⟩:=ysu gk (fun h=>by subst h;exact absurd HA.out (by simp [w13_great.l0]))
   have H:=HA.out;clear HA
   simp only [w13_great.l0] at H
   by_cases c13 : ag < (aa.length : Int)
   ·
    rw [if_pos c13] at H
    have aQ:=yD c13
    clear c13
    obtain ⟨c14,H⟩:=yif H
    have aX : decide (0≤ag)=true:=decide_eq_true c14
    clear c14
    obtain ⟨aJ,A15,H⟩:=ybi H
    by_cases c16 : aJ=true
    ·
     subst c16
     rw [if_pos rfl] at H
     obtain rfl:=Option.some.inj H
     obtain ⟨_,_,_,_,_,_⟩:=yc3 ae
     have aw : 0≤(ag : Int):=yt
     have ax : ag < (aa.length : Int):=yt
     obtain ⟨aT,ay,az,aN,ai,aj,ak⟩:=at_L2 aH.out ag aw ax
     cases aN
     replace ai:=yhx HB ai
     have ap:=zm ak;have aq:=zm aj;clear ak aj
     replace aw:=eq_true aw
     replace ax:=eq_true ax
     go_wp2_with (first|((with_reducible refine gate_callee (f:=19) rfl ?_);refine ygl 31 Try.func19 #[.slice ay (rd_L2 aa ag).length az] ?_;(with_reducible refine (w13_wide.calls k2 _ _ (rd_L2 aa ag) true _ ?af aq.out A15.out).mono ?_);(case af=>exact ycb ap);rintro e w' ⟨rfl,⟨nd,rfl⟩⟩;refine ⟨_,rfl, ?_⟩))
     go_ret
     exact ⟨ye,yhb⟩
    replace c16:=Bool.eq_false_iff.mpr c16
    subst c16
    rw [ynf] at H
    have H' := zm H
    clear H
    obtain ⟨_,_,_,_,_,_⟩:=yc3 ae
    have aw : 0≤(ag : Int):=yt
    have ax : ag < (aa.length : Int):=yt
    obtain ⟨aT,ay,az,aN,ai,aj,ak⟩:=at_L2 aH.out ag aw ax
    cases aN
    replace ai:=yhx HB ai
    have ap:=zm ak;have aq:=zm aj;clear ak aj
    replace aw:=eq_true aw
    replace ax:=eq_true ax
    go_wp2_with (first|((with_reducible refine gate_callee (f:=19) rfl ?_);refine ygl 31 Try.func19 #[.slice ay (rd_L2 aa ag).length az] ?_;(with_reducible refine (w13_wide.calls k2 _ _ (rd_L2 aa ag) false _ ?af aq.out A15.out).mono ?_);(case af=>exact ycb ap);rintro e w' ⟨rfl,⟨nd,rfl⟩⟩;refine ⟨_,rfl, ?_⟩))
    go_roundg k2
    case measure=>exact yom2 HJ2 HK2
    case rel=>exact ⟨(wrap64 (ag+1)),yq,H',⟨yom2 HJ2 HK2⟩,⟨yk ae⟩,⟨yhb⟩⟩
   rw [if_neg c13] at H
   have aQ:=yG c13
   clear c13
   obtain rfl:=Option.some.inj H
   obtain ⟨_,_,_,_,_,_⟩:=yc3 ae
   go_wp2
   go_ret
   exact ⟨ye,yhb⟩
def coder_at.f (l0 : List Int) (a1 : Int) : Option (Int):=if a1 ≥ (l0.length : Int) then (some 0) else (if 0≤a1 then (if a1 < (l0.length : Int) then (some (IntKind.u64.wrap (rd l0 a1))) else (none)) else (none))
set_option maxHeartbeats 8000000 in
set_option maxRecDepth 100000 in
theorem coder_at.calls (A0 : Option Addr) (c0 : Nat) (l0 : List Int) (a1 : Int) (r : Int) (w : World) (hr0 : Kd.C (Kd.int .u8) w A0 l0.length l0) (hc0 : l0.length≤c0) (h : coder_at.f l0 a1=some r) :
  Calls Try.prog 85 #[.slice A0 l0.length c0, .int .i64 a1] w fun e w' => e=.returned (.int .u64 r)∧Drawn0 w w' := by
 have HR0:=zm hr0;have HC0:=zm hc0;clear hr0 hc0;have H:=h
 unfold coder_at.f at H
 clear h
 by_cases c3 : a1 ≥ (l0.length : Int)
 ·
  rw [if_pos c3] at H
  have ac:=yDl c3
  clear c3
  obtain rfl:=Option.some.inj H
  go_enter Try.func85,Try.ntmps85
  go_wp2
  go_ret
  exact ⟨yq,yd⟩
 rw [if_neg c3] at H
 have ac:=yGl c3
 clear c3
 obtain ⟨c4,H⟩:=yif H
 have ag : decide (0≤a1)=true:=decide_eq_true c4
 clear c4
 obtain ⟨c5,H⟩:=yif H
 have ah : decide (a1 < (l0.length : Int))=true:=decide_eq_true c5
 clear c5
 obtain rfl:=Option.some.inj H
 obtain ⟨af,ae,aa,ai,aj⟩:=yai HR0 a1
 cases ae
 go_enter Try.func85,Try.ntmps85
 go_wp2
 go_ret
 exact ⟨yq,yd⟩
def coder_Open.f (l0 : List Int) : Option (Int × Int × List Int × Int):=(coder_at.f l0 0).bind fun af=>((coder_at.f l0 1).bind fun ag=>((coder_at.f l0 2).bind fun ah=>((coder_at.f l0 3).bind fun ai=>(some (Go.bits .or .u64 (Go.bits .or .u64 (Go.bits .or .u64 (IntKind.u64.wrap (af * 16777216)) (IntKind.u64.wrap (ag * 65536))) (IntKind.u64.wrap (ah * 256))) ai,4294967295,l0,4)))))
set_option maxHeartbeats 8000000 in
set_option maxRecDepth 100000 in
theorem coder_Open.calls (P0_ : Nat→Prop) (A0 : Option Addr) (c0 : Nat) (l0 : List Int) (r1 : Int) (r2 : Int) (r3 : List Int) (r4 : Int) (w : World) (hs0 : Kd.V (Kd.int .u8) 5 w w.heap.size (fun k_=>P0_ k_) (.slice A0 l0.length c0) l0) (h : coder_Open.f l0=some (r1,r2,r3,r4)) :
  Calls Try.prog 49 #[.slice A0 l0.length c0] w fun e w' => ∃ v2_ : Value,e=.returned (.agg #[.int .u64 r1, .int .u32 r2,v2_, .int .i64 r4])∧Kd.V (Kd.int .u8) 5 w' w.heap.size (fun k_=>(P0_ k_∨w.heap.size≤k_)) v2_ r3∧Below w.heap.size w w' := by
 have hu82:=Try.underlying82
 have HO0:=zm (show Kd.V (Kd.int .u8) 5 w w.heap.size (fun k_=>(P0_ k_∨w.heap.size≤k_)) (.slice A0 l0.length c0) l0 from zy hs0 (fun k_ hk => .inl hk))
 have HB:=zm (Below.refl w.heap.size w);have H:=h
 unfold coder_Open.f at H
 clear h
 obtain ⟨af,A2,H⟩:=ybi H
 obtain ⟨ag,A3,H⟩:=ybi H
 obtain ⟨ah,A4,H⟩:=ybi H
 obtain ⟨ai,A5,H⟩:=ybi H
 simp only [Option.some.injEq,Prod.mk.injEq] at H
 obtain ⟨rfl,rfl,rfl,rfl⟩:=H
 go_enter Try.func49,Try.ntmps49
 go_wp2_with (first|((with_reducible refine gate_dst (N:=2) rfl ?_);refine ybx 2 #[.int .u64 0, .int .u32 0, .slice none 0 0, .int .i64 0] 82 ?_;intro aj hg w6 hbox hb;replace HO0:=yVe HO0 hg hb;have aa:=zm (hbox);have ak:=ygw hg;have al:=ygw hg;replace HB:=ybs hb;clear hb hbox hg)|((with_reducible refine gate_callee (f:=85) rfl ?_);refine ygl 4 Try.func85 #[.slice A0 l0.length c0, .int .i64 0] ?_;(with_reducible refine (coder_at.calls _ _ l0 0 af _ ?ac ?ae A2.out).mono ?_);(case ac=>exact yce (Kd.V_reads' HO0.out).2.2);(case ae=>exact (Kd.V_reads' HO0.out).2.1);rintro e w' ⟨rfl,⟨nd,rfl⟩⟩;refine ⟨_,rfl, ?_⟩;(try (rw [drewN_self w6];generalize hq_ : World.drewN w6 _=w6;replace HO0:=yVq hq_ HO0;replace aa:=ykq hq_ aa;replace HB:=ysq hq_;clear hq_)))|((with_reducible refine gate_callee (f:=85) rfl ?_);refine ygl 7 Try.func85 #[.slice A0 l0.length c0, .int .i64 1] ?_;(with_reducible refine (coder_at.calls _ _ l0 1 ag _ ?ac ?ae A3.out).mono ?_);(case ac=>exact yce (Kd.V_reads' HO0.out).2.2);(case ae=>exact (Kd.V_reads' HO0.out).2.1);rintro e w' ⟨rfl,⟨nd,rfl⟩⟩;refine ⟨_,rfl, ?_⟩;(try (rw [drewN_self w6];generalize hq_ : World.drewN w6 _=w6;replace HO0:=yVq hq_ HO0;replace aa:=ykq hq_ aa;replace HB:=ysq hq_;clear hq_)))|((with_reducible refine gate_callee (f:=85) rfl ?_);refine ygl 11 Try.func85 #[.slice A0 l0.length c0, .int .i64 2] ?_;(with_reducible refine (coder_at.calls _ _ l0 2 ah _ ?ac ?ae A4.out).mono ?_);(case ac=>exact yce (Kd.V_reads' HO0.out).2.2);(case ae=>exact (Kd.V_reads' HO0.out).2.1);rintro e w' ⟨rfl,⟨nd,rfl⟩⟩;refine ⟨_,rfl, ?_⟩;(try (rw [drewN_self w6];generalize hq_ : World.drewN w6 _=w6;replace HO0:=yVq hq_ HO0;replace aa:=ykq hq_ aa;replace HB:=ysq hq_;clear hq_)))|((with_reducible refine gate_callee (f:=85) rfl ?_);refine ygl 15 Try.func85 #[.slice A0 l0.length c0, .int .i64 3] ?_;(with_reducible refine (coder_at.calls _ _ l0 3 ai _ ?ac ?ae A5.out).mono ?_);(case ac=>exact yce (Kd.V_reads' HO0.out).2.2);(case ae=>exact (Kd.V_reads' HO0.out).2.1);rintro e w' ⟨rfl,⟨nd,rfl⟩⟩;refine ⟨_,rfl, ?_⟩;(try (rw [drewN_self w6];generalize hq_ : World.drewN w6 _=w6;replace HO0:=yVq hq_ HO0;replace aa:=ykq hq_ aa;replace HB:=ysq hq_;clear hq_));obtain ⟨_,_,_,_,_,_,_,_⟩:=yc4 aa))
 refine bodyPost_ret (results_cell_row rfl _ _ aj 82 #[.int .u64 (Go.bits .or .u64 (Go.bits .or .u64 (Go.bits .or .u64 (IntKind.u64.wrap (af * 16777216)) (IntKind.u64.wrap (ag * 65536))) (IntKind.u64.wrap (ah * 256))) ai), .int .u32 4294967295, .slice A0 l0.length c0, .int .i64 4] (0,0) _ rfl (ykp aa) Try.underlying82 rfl (by kernel_rfl)) rfl ?_
 exact ⟨_,ye,yV0 HO0,yhb⟩
def coder_RightDec.f (ac : Int) (ae : Int) (aa : List Int) (ag : Int) : Option (Bool):=if ac≤4294967295 then (if ae ≥ 16777216 then (some (decide (ag ≥ 0))) else (some false)) else (some false)
set_option maxHeartbeats 8000000 in
set_option maxRecDepth 100000 in
theorem coder_RightDec.calls (ac : Int) (ae : Int) (ah : Option Addr) (ai : Nat) (aa : List Int) (ag : Int) (r : Bool) (w : World) (hr0_2 : Kd.C (Kd.int .u8) w ah aa.length aa) (hc0_2 : aa.length≤ai) (h : coder_RightDec.f ac ae aa ag=some r) :
  Calls Try.prog 97 #[.agg #[.int .u64 ac, .int .u32 ae, .slice ah aa.length ai, .int .i64 ag]] w fun e w' => e=.returned (.bool r)∧Below w.heap.size w w' := by
 have hu82:=Try.underlying82;have ap:=zm hr0_2;have aq:=zm hc0_2;clear hr0_2 hc0_2;have HB:=zm (Below.refl w.heap.size w);have H:=h
 unfold coder_RightDec.f at H
 clear h
 by_cases c2 : ac≤4294967295
 ·
  rw [if_pos c2] at H
  have am:=yD c2
  clear c2
  by_cases c3 : ae ≥ 16777216
  ·
   rw [if_pos c3] at H
   have ao:=yDl c3
   clear c3
   obtain rfl:=Option.some.inj H
   go_enter Try.func97,Try.ntmps97
   go_wp2_with (first|((with_reducible refine gate_dst (N:=1) rfl ?_);refine ybx 1 #[.int .u64 ac, .int .u32 ae, .slice ah aa.length ai, .int .i64 ag] 82 ?_;intro aj hg w4 hbox hb;have af:=zm (hbox);have ak:=ygw hg;have al:=ygw hg;replace HB:=ybs hb;clear hb hbox hg;obtain ⟨_,_,_,_,_,_,_,_⟩:=yc4 af))
   go_ret
   exact ⟨ye,yhb⟩
  rw [if_neg c3] at H
  have ao:=yGl c3
  clear c3
  obtain rfl:=Option.some.inj H
  go_enter Try.func97,Try.ntmps97
  go_wp2_with (first|((with_reducible refine gate_dst (N:=1) rfl ?_);refine ybx 1 #[.int .u64 ac, .int .u32 ae, .slice ah aa.length ai, .int .i64 ag] 82 ?_;intro aj hg w6 hbox hb;have af:=zm (hbox);have ak:=ygw hg;have al:=ygw hg;replace HB:=ybs hb;clear hb hbox hg;obtain ⟨_,_,_,_,_,_,_,_⟩:=yc4 af))
  go_ret
  exact ⟨ye,yhb⟩
 rw [if_neg c2] at H
 have am:=yG c2
 clear c2
 obtain rfl:=Option.some.inj H
 go_enter Try.func97,Try.ntmps97
 go_wp2_with (first|((with_reducible refine gate_dst (N:=1) rfl ?_);refine ybx 1 #[.int .u64 ac, .int .u32 ae, .slice ah aa.length ai, .int .i64 ag] 82 ?_;intro aj hg w8 hbox hb;have af:=zm (hbox);have ak:=ygw hg;have al:=ygw hg;replace HB:=ybs hb;clear hb hbox hg;obtain ⟨_,_,_,_,_,_,_,_⟩:=yc4 af))
 go_ret
 exact ⟨ye,yhb⟩
def coder_good.f (ai : Int) (aj : Int) (af : List Int) (ak : Int) : Option (Int × Int × List Int × Int):=(coder_RightDec.f ai aj af ak).bind fun ay=>(if ay=true then (some (ai,aj,af,ak)) else ((coder_Open.f ([] : List Int)).bind fun ap=>(some (ap.1,ap.2.1,ap.2.2.1,ap.2.2.2))))
set_option maxHeartbeats 8000000 in
set_option maxRecDepth 100000 in
theorem coder_good.calls (ai : Int) (aj : Int) (aq : Nat→Prop) (al : Option Addr) (am : Nat) (af : List Int) (ak : Int) (r1 : Int) (r2 : Int) (r3 : List Int) (r4 : Int) (w : World) (az : Kd.V (Kd.int .u8) 5 w w.heap.size (fun k_=>aq k_) (.slice al af.length am) af) (h : coder_good.f ai aj af ak=some (r1,r2,r3,r4)) :
  Calls Try.prog 86 #[.agg #[.int .u64 ai, .int .u32 aj, .slice al af.length am, .int .i64 ak]] w fun e w' => ∃ v2_ : Value,e=.returned (.agg #[.int .u64 r1, .int .u32 r2,v2_, .int .i64 r4])∧Kd.V (Kd.int .u8) 5 w' w.heap.size (fun k_=>(aq k_∨w.heap.size≤k_)) v2_ r3∧Below w.heap.size w w' := by
 have hu82:=Try.underlying82
 have aa:=zm (show Kd.V (Kd.int .u8) 5 w w.heap.size (fun k_=>(aq k_∨w.heap.size≤k_)) (.slice al af.length am) af from zy az (fun k_ hk => .inl hk))
 have HB:=zm (Below.refl w.heap.size w);have H:=h
 unfold coder_good.f at H
 clear h
 obtain ⟨ay,A2,H⟩:=ybi H
 by_cases c3 : ay=true
 ·
  subst c3
  rw [if_pos rfl] at H
  simp only [Option.some.injEq,Prod.mk.injEq] at H
  obtain ⟨rfl,rfl,rfl,rfl⟩:=H
  go_enter Try.func86,Try.ntmps86
  go_wp2_with (first|((with_reducible refine gate_dst (N:=1) rfl ?_);refine ybx 1 #[.int .u64 ai, .int .u32 aj, .slice al af.length am, .int .i64 ak] 82 ?_;intro aw hg w4 hbox hb;replace aa:=yVe aa hg hb;have ac:=zm (hbox);have aA:=ygw hg;have aC:=ygw hg;replace HB:=ybs hb;clear hb hbox hg)|((with_reducible refine gate_dst (N:=2) rfl ?_);refine ybx 2 #[.int .u64 0, .int .u32 0, .slice none 0 0, .int .i64 0] 82 ?_;intro au hg w5 hbox hb;replace aa:=yVe aa hg hb;have ae:=zm (hbox);have aD:=ygw hg;have aE:=ygw hg;replace HB:=ybs hb;have ag:=ynl ac hg;have ah:=yng ac hg;replace ac:=ybb ac hb;clear hb hbox hg;have:=ag.out;have:=ah.out;obtain ⟨_,_,_,_,_,_,_,_⟩:=yc4 ac)|((with_reducible refine gate_callee (f:=97) rfl ?_);refine ygl 4 Try.func97 #[.agg #[.int .u64 ai, .int .u32 aj, .slice al af.length am, .int .i64 ak]] ?_;(with_reducible refine (coder_RightDec.calls ai aj _ _ af ak true _ ?ao ?av A2.out).mono ?_);(case ao=>exact yce (Kd.V_reads' aa.out).2.2);(case av=>exact (Kd.V_reads' aa.out).2.1);rintro e w8 ⟨rfl,hb⟩;refine ⟨_,rfl, ?_⟩;replace aa:=yVb aa hb;replace ac:=ybb ac hb;replace ae:=ybb ae hb;replace HB:=ybs hb;(try clear hb);obtain ⟨_,_,_,_,_,_,_,_⟩:=yc4 ac;obtain ⟨_,_,_,_,_,_,_,_⟩:=yc4 ae))
  refine bodyPost_ret (results_cell_row rfl _ _ au 82 #[.int .u64 ai, .int .u32 aj, .slice al af.length am, .int .i64 ak] (0,0) _ rfl (ykp ae) Try.underlying82 rfl (by kernel_rfl)) rfl ?_
  exact ⟨_,ye,yV0 aa,yhb⟩
 replace c3:=Bool.eq_false_iff.mpr c3
 subst c3
 rw [ynf] at H
 obtain ⟨⟨aG,aH,aI,aJ⟩,A11,H⟩:=ybi H
 try dsimp only at H
 simp only [Option.some.injEq,Prod.mk.injEq] at H
 obtain ⟨rfl,rfl,rfl,rfl⟩:=H
 go_enter Try.func86,Try.ntmps86
 go_wp2_with (first|((with_reducible refine gate_dst (N:=1) rfl ?_);refine ybx 1 #[.int .u64 ai, .int .u32 aj, .slice al af.length am, .int .i64 ak] 82 ?_;intro aw hg w12 hbox hb;replace aa:=yVe aa hg hb;have ac:=zm (hbox);have aA:=ygw hg;have aC:=ygw hg;replace HB:=ybs hb;clear hb hbox hg)|((with_reducible refine gate_dst (N:=2) rfl ?_);refine ybx 2 #[.int .u64 0, .int .u32 0, .slice none 0 0, .int .i64 0] 82 ?_;intro au hg w13 hbox hb;replace aa:=yVe aa hg hb;have ae:=zm (hbox);have aD:=ygw hg;have aE:=ygw hg;replace HB:=ybs hb;have ag:=ynl ac hg;have ah:=yng ac hg;replace ac:=ybb ac hb;clear hb hbox hg;have:=ag.out;have:=ah.out;obtain ⟨_,_,_,_,_,_,_,_⟩:=yc4 ac)|((with_reducible refine gate_callee (f:=97) rfl ?_);refine ygl 4 Try.func97 #[.agg #[.int .u64 ai, .int .u32 aj, .slice al af.length am, .int .i64 ak]] ?_;(with_reducible refine (coder_RightDec.calls ai aj _ _ af ak false _ ?ao ?av A2.out).mono ?_);(case ao=>exact yce (Kd.V_reads' aa.out).2.2);(case av=>exact (Kd.V_reads' aa.out).2.1);rintro e w16 ⟨rfl,hb⟩;refine ⟨_,rfl, ?_⟩;replace aa:=yVb aa hb;replace ac:=ybb ac hb;replace ae:=ybb ae hb;replace HB:=ybs hb;(try clear hb))|((with_reducible refine gate_callee (f:=49) rfl ?_);refine ygl 6 Try.func49 #[.slice none 0 0] ?_;(refine (coder_Open.calls (fun k_=>False) _ _ ([] : List Int) aG aH aI aJ _ ?ao A11.out).mono ?_);(case ao=>exact Kd.V_nil _ _ _ _ _);rintro e w17 ⟨aQ,rfl,ho0,hb⟩;refine ⟨_,rfl, ?_⟩;replace aa:=yVb aa hb;have ax:=yho (fun k_=>(aq k_∨w.heap.size≤k_)∧k_≠aw∧k_≠au) ho0 (fun k_ hk_=>⟨Or.elim hk_ (fun hs_=>(hs_).elim) (fun hn_=>(.inr (Nat.le_trans (zE yhb) hn_))),yoB ac hk_,yoB ae hk_⟩);replace ac:=ybb ac hb;replace ae:=ybb ae hb;replace HB:=ybs hb;(try clear hb);(try clear ho0);obtain ⟨_,_,_,_,_,_,_,_⟩:=yc4 ae;obtain ⟨aK,aM,aN⟩:=Kd.V_slice ax.out;subst aN))
 refine bodyPost_ret (results_cell_row rfl _ _ au 82 #[.int .u64 aG, .int .u32 aH, .slice aK aI.length aM, .int .i64 aJ] (0,0) _ rfl (ykp ae) Try.underlying82 rfl (by kernel_rfl)) rfl ?_
 exact ⟨_,ye,yV0 ax,yhb⟩
def num_Clamp.f (a0 : Int) (a1 : Int) (a2 : Int) : Option (Int):=if a0 < a1 then (some a1) else (if a0 > a2 then (some a2) else (some a0))
set_option maxHeartbeats 8000000 in
set_option maxRecDepth 100000 in
theorem num_Clamp.calls (a0 : Int) (a1 : Int) (a2 : Int) (r : Int) (w : World) (h : num_Clamp.f a0 a1 a2=some r) :
  Calls Try.prog 87 #[.int .i64 a0, .int .i64 a1, .int .i64 a2] w fun e w' => e=.returned (.int .i64 r)∧Drawn0 w w' := by
 have H:=h
 unfold num_Clamp.f at H
 clear h
 by_cases c4 : a0 < a1
 ·
  rw [if_pos c4] at H
  have aa:=yD c4
  clear c4
  obtain rfl:=Option.some.inj H
  go_enter Try.func87,Try.ntmps87
  go_wp2
  go_ret
  exact ⟨yq,yd⟩
 rw [if_neg c4] at H
 have aa:=yG c4
 clear c4
 by_cases c5 : a0 > a2
 ·
  rw [if_pos c5] at H
  have ac:=yDs c5
  clear c5
  obtain rfl:=Option.some.inj H
  go_enter Try.func87,Try.ntmps87
  go_wp2
  go_ret
  exact ⟨yq,yd⟩
 rw [if_neg c5] at H
 have ac:=yGs c5
 clear c5
 obtain rfl:=Option.some.inj H
 go_enter Try.func87,Try.ntmps87
 go_wp2
 go_ret
 exact ⟨yq,yd⟩
def coder_Get.f (ah : Int) (ai : Int) (ag : List Int) (aj : Int) (a1 : Int) : Option (Int × Int):=(coder_good.f ah ai ag aj).bind fun az=>(if a1 < 1 then (some (0,1)) else (if a1 > 65536 then (some (0,1)) else (if ((a1) % 4294967296)=0 then (none) else (if ((Int.tdiv az.2.1 ((a1) % 4294967296)) % 4294967296)=0 then (none) else ((num_Clamp.f (wrap64 (IntKind.u64.wrap (Int.tdiv az.1 ((Int.tdiv az.2.1 ((a1) % 4294967296)) % 4294967296)))) 0 (wrap64 (a1 - 1))).bind fun aA=>(some (aA,0)))))))
set_option maxHeartbeats 8000000 in
set_option maxRecDepth 100000 in
theorem coder_Get.calls (ah : Int) (ai : Int) (au : Option Addr) (av : Nat) (ag : List Int) (aj : Int) (a1 : Int) (r1 : Int) (r2 : Int) (w : World) (hr0_2 : Kd.C (Kd.int .u8) w au ag.length ag) (hc0_2 : ag.length≤av) (h : coder_Get.f ah ai ag aj a1=some (r1,r2)) :
  Calls Try.prog 50 #[.agg #[.int .u64 ah, .int .u32 ai, .slice au ag.length av, .int .i64 aj], .int .i64 a1] w fun e w' => e=.returned (.tuple #[.int .i64 r1, .int .i64 r2])∧Below w.heap.size w w' := by
 have hu82:=Try.underlying82;have ak:=zm hr0_2;have al:=zm hc0_2;clear hr0_2 hc0_2;have HB:=zm (Below.refl w.heap.size w);have H:=h
 unfold coder_Get.f at H
 clear h
 obtain ⟨⟨ap,aq,aw,ax⟩,A3,H⟩:=ybi H
 try dsimp only at H
 by_cases c4 : a1 < 1
 ·
  rw [if_pos c4] at H
  have aK:=yD c4
  clear c4
  simp only [Option.some.injEq,Prod.mk.injEq] at H
  obtain ⟨rfl,rfl⟩:=H
  go_enter Try.func50,Try.ntmps50
  go_wp2_with (first|((with_reducible refine gate_dst (N:=2) rfl ?_);refine ybx 2 #[.int .u64 ah, .int .u32 ai, .slice au ag.length av, .int .i64 aj] 82 ?_;intro ac hg w5 hbox hb;have aa:=zm (hbox);have am:=ygw hg;have ao:=ygw hg;replace HB:=ybs hb;clear hb hbox hg;obtain ⟨_,_,_,_,_,_,_,_⟩:=yc4 aa)|(go_at_call 86;(with_reducible refine (coder_good.calls ah ai (fun k_=>k_ < w.heap.size) _ _ ag aj ap aq aw ax _ ?ae A3.out).mono ?_);(case ae=>exact Kd.V_mk al.out (Kd.F_below (Kd.C_F (Kd.heap_int .u8) ak.out) yhb));rintro e w7 ⟨ay,rfl,ho0,hb⟩;have af:=yho (fun k_=>k_≠ac) ho0 (fun k_ hk_=>yoB aa hk_);replace aa:=ybb aa hb;replace HB:=ybs hb;(try clear hb);(try clear ho0);obtain ⟨_,_,_,_,_,_,_,_⟩:=yc4 aa;obtain ⟨Ao9,co9,eo9⟩:=Kd.V_slice af.out;subst eo9))
  repeat (go_quiet (first|((with_reducible refine gate_dst (N:=2) rfl ?_);refine ybx 2 #[.int .u64 ah, .int .u32 ai, .slice au ag.length av, .int .i64 aj] 82 ?_;intro ac hg w5 hbox hb;have aa:=zm (hbox);have am:=ygw hg;have ao:=ygw hg;replace HB:=ybs hb;clear hb hbox hg;obtain ⟨_,_,_,_,_,_,_,_⟩:=yc4 aa)|(go_at_call 86;(with_reducible refine (coder_good.calls ah ai (fun k_=>k_ < w.heap.size) _ _ ag aj ap aq aw ax _ ?ae A3.out).mono ?_);(case ae=>exact Kd.V_mk al.out (Kd.F_below (Kd.C_F (Kd.heap_int .u8) ak.out) yhb));rintro e w7 ⟨ay,rfl,ho0,hb⟩;have af:=yho (fun k_=>k_≠ac) ho0 (fun k_ hk_=>yoB aa hk_);replace aa:=ybb aa hb;replace HB:=ybs hb;(try clear hb);(try clear ho0);obtain ⟨_,_,_,_,_,_,_,_⟩:=yc4 aa;obtain ⟨Ao9,co9,eo9⟩:=Kd.V_slice af.out;subst eo9));try go_wp2_with (first|((with_reducible refine gate_dst (N:=2) rfl ?_);refine ybx 2 #[.int .u64 ah, .int .u32 ai, .slice au ag.length av, .int .i64 aj] 82 ?_;intro ac hg w5 hbox hb;have aa:=zm (hbox);have am:=ygw hg;have ao:=ygw hg;replace HB:=ybs hb;clear hb hbox hg;obtain ⟨_,_,_,_,_,_,_,_⟩:=yc4 aa)|(go_at_call 86;(with_reducible refine (coder_good.calls ah ai (fun k_=>k_ < w.heap.size) _ _ ag aj ap aq aw ax _ ?ae A3.out).mono ?_);(case ae=>exact Kd.V_mk al.out (Kd.F_below (Kd.C_F (Kd.heap_int .u8) ak.out) yhb));rintro e w7 ⟨ay,rfl,ho0,hb⟩;have af:=yho (fun k_=>k_≠ac) ho0 (fun k_ hk_=>yoB aa hk_);replace aa:=ybb aa hb;replace HB:=ybs hb;(try clear hb);(try clear ho0);obtain ⟨_,_,_,_,_,_,_,_⟩:=yc4 aa;obtain ⟨Ao9,co9,eo9⟩:=Kd.V_slice af.out;subst eo9)))
  go_ret2
  exact ⟨ye,yhb⟩
 rw [if_neg c4] at H
 have aK:=yG c4
 clear c4
 by_cases c10 : a1 > 65536
 ·
  rw [if_pos c10] at H
  have aE:=yDs c10
  clear c10
  simp only [Option.some.injEq,Prod.mk.injEq] at H
  obtain ⟨rfl,rfl⟩:=H
  go_enter Try.func50,Try.ntmps50
  go_wp2_with (first|((with_reducible refine gate_dst (N:=2) rfl ?_);refine ybx 2 #[.int .u64 ah, .int .u32 ai, .slice au ag.length av, .int .i64 aj] 82 ?_;intro ac hg w11 hbox hb;have aa:=zm (hbox);have am:=ygw hg;have ao:=ygw hg;replace HB:=ybs hb;clear hb hbox hg;obtain ⟨_,_,_,_,_,_,_,_⟩:=yc4 aa)|(go_at_call 86;(with_reducible refine (coder_good.calls ah ai (fun k_=>k_ < w.heap.size) _ _ ag aj ap aq aw ax _ ?ae A3.out).mono ?_);(case ae=>exact Kd.V_mk al.out (Kd.F_below (Kd.C_F (Kd.heap_int .u8) ak.out) yhb));rintro e w13 ⟨ay,rfl,ho0,hb⟩;have af:=yho (fun k_=>k_≠ac) ho0 (fun k_ hk_=>yoB aa hk_);replace aa:=ybb aa hb;replace HB:=ybs hb;(try clear hb);(try clear ho0);obtain ⟨_,_,_,_,_,_,_,_⟩:=yc4 aa;obtain ⟨aG,aH,aC⟩:=Kd.V_slice af.out;subst aC))
  repeat (go_quiet (first|((with_reducible refine gate_dst (N:=2) rfl ?_);refine ybx 2 #[.int .u64 ah, .int .u32 ai, .slice au ag.length av, .int .i64 aj] 82 ?_;intro ac hg w11 hbox hb;have aa:=zm (hbox);have am:=ygw hg;have ao:=ygw hg;replace HB:=ybs hb;clear hb hbox hg;obtain ⟨_,_,_,_,_,_,_,_⟩:=yc4 aa)|(go_at_call 86;(with_reducible refine (coder_good.calls ah ai (fun k_=>k_ < w.heap.size) _ _ ag aj ap aq aw ax _ ?ae A3.out).mono ?_);(case ae=>exact Kd.V_mk al.out (Kd.F_below (Kd.C_F (Kd.heap_int .u8) ak.out) yhb));rintro e w13 ⟨ay,rfl,ho0,hb⟩;have af:=yho (fun k_=>k_≠ac) ho0 (fun k_ hk_=>yoB aa hk_);replace aa:=ybb aa hb;replace HB:=ybs hb;(try clear hb);(try clear ho0);obtain ⟨_,_,_,_,_,_,_,_⟩:=yc4 aa;obtain ⟨aG,aH,aC⟩:=Kd.V_slice af.out;subst aC));try go_wp2_with (first|((with_reducible refine gate_dst (N:=2) rfl ?_);refine ybx 2 #[.int .u64 ah, .int .u32 ai, .slice au ag.length av, .int .i64 aj] 82 ?_;intro ac hg w11 hbox hb;have aa:=zm (hbox);have am:=ygw hg;have ao:=ygw hg;replace HB:=ybs hb;clear hb hbox hg;obtain ⟨_,_,_,_,_,_,_,_⟩:=yc4 aa)|(go_at_call 86;(with_reducible refine (coder_good.calls ah ai (fun k_=>k_ < w.heap.size) _ _ ag aj ap aq aw ax _ ?ae A3.out).mono ?_);(case ae=>exact Kd.V_mk al.out (Kd.F_below (Kd.C_F (Kd.heap_int .u8) ak.out) yhb));rintro e w13 ⟨ay,rfl,ho0,hb⟩;have af:=yho (fun k_=>k_≠ac) ho0 (fun k_ hk_=>yoB aa hk_);replace aa:=ybb aa hb;replace HB:=ybs hb;(try clear hb);(try clear ho0);obtain ⟨_,_,_,_,_,_,_,_⟩:=yc4 aa;obtain ⟨aG,aH,aC⟩:=Kd.V_slice af.out;subst aC)))
  go_ret2
  exact ⟨ye,yhb⟩
 rw [if_neg c10] at H
 have aE:=yGs c10
 clear c10
 obtain ⟨c16,H⟩:=yie H
 obtain ⟨aM,aN⟩:=yF c16
 obtain ⟨c17,H⟩:=yie H
 obtain ⟨aQ,aT⟩:=yF c17
 obtain ⟨aA,A18,H⟩:=ybi H
 simp only [Option.some.injEq,Prod.mk.injEq] at H
 obtain ⟨rfl,rfl⟩:=H
 go_enter Try.func50,Try.ntmps50
 go_wp2_with (first|((with_reducible refine gate_dst (N:=2) rfl ?_);refine ybx 2 #[.int .u64 ah, .int .u32 ai, .slice au ag.length av, .int .i64 aj] 82 ?_;intro ac hg w19 hbox hb;have aa:=zm (hbox);have am:=ygw hg;have ao:=ygw hg;replace HB:=ybs hb;clear hb hbox hg;obtain ⟨_,_,_,_,_,_,_,_⟩:=yc4 aa)|(go_at_call 86;(with_reducible refine (coder_good.calls ah ai (fun k_=>k_ < w.heap.size) _ _ ag aj ap aq aw ax _ ?ae A3.out).mono ?_);(case ae=>exact Kd.V_mk al.out (Kd.F_below (Kd.C_F (Kd.heap_int .u8) ak.out) yhb));rintro e w21 ⟨ay,rfl,ho0,hb⟩;have af:=yho (fun k_=>k_≠ac) ho0 (fun k_ hk_=>yoB aa hk_);replace aa:=ybb aa hb;replace HB:=ybs hb;(try clear hb);(try clear ho0);obtain ⟨_,_,_,_,_,_,_,_⟩:=yc4 aa;obtain ⟨aI,aJ,aD⟩:=Kd.V_slice af.out;subst aD)|(go_at_call 87;(with_reducible refine (num_Clamp.calls (wrap64 (IntKind.u64.wrap (Int.tdiv ap ((Int.tdiv aq ((a1) % 4294967296)) % 4294967296)))) 0 (wrap64 (a1 - 1)) aA _ A18.out).mono ?_);rintro e w' ⟨rfl,⟨nd,rfl⟩⟩;(try exact yww)))
 repeat (go_quiet (first|((with_reducible refine gate_dst (N:=2) rfl ?_);refine ybx 2 #[.int .u64 ah, .int .u32 ai, .slice au ag.length av, .int .i64 aj] 82 ?_;intro ac hg w19 hbox hb;have aa:=zm (hbox);have am:=ygw hg;have ao:=ygw hg;replace HB:=ybs hb;clear hb hbox hg;obtain ⟨_,_,_,_,_,_,_,_⟩:=yc4 aa)|(go_at_call 86;(with_reducible refine (coder_good.calls ah ai (fun k_=>k_ < w.heap.size) _ _ ag aj ap aq aw ax _ ?ae A3.out).mono ?_);(case ae=>exact Kd.V_mk al.out (Kd.F_below (Kd.C_F (Kd.heap_int .u8) ak.out) yhb));rintro e w21 ⟨ay,rfl,ho0,hb⟩;have af:=yho (fun k_=>k_≠ac) ho0 (fun k_ hk_=>yoB aa hk_);replace aa:=ybb aa hb;replace HB:=ybs hb;(try clear hb);(try clear ho0);obtain ⟨_,_,_,_,_,_,_,_⟩:=yc4 aa;obtain ⟨aI,aJ,aD⟩:=Kd.V_slice af.out;subst aD)|(go_at_call 87;(with_reducible refine (num_Clamp.calls (wrap64 (IntKind.u64.wrap (Int.tdiv ap ((Int.tdiv aq ((a1) % 4294967296)) % 4294967296)))) 0 (wrap64 (a1 - 1)) aA _ A18.out).mono ?_);rintro e w' ⟨rfl,⟨nd,rfl⟩⟩;(try exact yww)));try go_wp2_with (first|((with_reducible refine gate_dst (N:=2) rfl ?_);refine ybx 2 #[.int .u64 ah, .int .u32 ai, .slice au ag.length av, .int .i64 aj] 82 ?_;intro ac hg w19 hbox hb;have aa:=zm (hbox);have am:=ygw hg;have ao:=ygw hg;replace HB:=ybs hb;clear hb hbox hg;obtain ⟨_,_,_,_,_,_,_,_⟩:=yc4 aa)|(go_at_call 86;(with_reducible refine (coder_good.calls ah ai (fun k_=>k_ < w.heap.size) _ _ ag aj ap aq aw ax _ ?ae A3.out).mono ?_);(case ae=>exact Kd.V_mk al.out (Kd.F_below (Kd.C_F (Kd.heap_int .u8) ak.out) yhb));rintro e w21 ⟨ay,rfl,ho0,hb⟩;have af:=yho (fun k_=>k_≠ac) ho0 (fun k_ hk_=>yoB aa hk_);replace aa:=ybb aa hb;replace HB:=ybs hb;(try clear hb);(try clear ho0);obtain ⟨_,_,_,_,_,_,_,_⟩:=yc4 aa;obtain ⟨aI,aJ,aD⟩:=Kd.V_slice af.out;subst aD)|(go_at_call 87;(with_reducible refine (num_Clamp.calls (wrap64 (IntKind.u64.wrap (Int.tdiv ap ((Int.tdiv aq ((a1) % 4294967296)) % 4294967296)))) 0 (wrap64 (a1 - 1)) aA _ A18.out).mono ?_);rintro e w' ⟨rfl,⟨nd,rfl⟩⟩;(try exact yww))))
 go_ret2
 exact ⟨ye,yhb⟩
def coder_Take.l0 : Nat→Int→Int→Int→List Int→Int→Option (Int × Int × List Int × Int × Int)
 | 0,_,_,_,_,_=>none
 | k+1,x10,aH,aQ,av,aw=>if x10 < 16777216 then ((coder_at.f av aw).bind fun aM=>(if aw < (av.length : Int) then (coder_Take.l0 k ((x10 * 256) % 4294967296) (Go.bits .or .u64 (Go.bits .and .u64 (IntKind.u64.wrap (aH * 256)) 4294967295) aM) aQ av (wrap64 (aw+1))) else (coder_Take.l0 k ((x10 * 256) % 4294967296) (Go.bits .or .u64 (Go.bits .and .u64 (IntKind.u64.wrap (aH * 256)) 4294967295) aM) aQ av aw))) else (some (aH,x10,av,aw,0))
def coder_Take.f (k : Nat) (aA : Int) (aC : Int) (aq : List Int) (aD : Int) (a1 : Int) (a2 : Int) (a3 : Int) : Option (Int × Int × List Int × Int × Int):=(coder_good.f aA aC aq aD).bind fun au=>((coder_fair.f a1 a2 a3).bind fun bF=>(if bF=true then ((coder_part.f au.2.1 a1 a2 a3).bind fun bE=>(coder_Take.l0 k bE.1 (IntKind.u64.wrap (au.1 - (mn au.1 bE.2))) au.2.1 au.2.2.1 au.2.2.2)) else (some (au.1,au.2.1,au.2.2.1,au.2.2.2,1))))
theorem coder_Take.mono_l : ∀ k,(∀ y0 y1 y2 y3 y4,LeO (coder_Take.l0 k y0 y1 y2 y3 y4) (coder_Take.l0 (k+1) y0 y1 y2 y3 y4))
 | 0=>fun _ _ _ _ _ r h=>by simp [coder_Take.l0] at h
 | k+1=>by
  have ih0:=coder_Take.mono_l k
  ·
   intro y0 y1 y2 y3 y4
   unfold coder_Take.l0
   repeat' with_reducible first|apply ih0|apply yLr|apply yLn|apply yLi|apply yLb|intro _
theorem coder_Take.mono : ∀ a0 a1 a2 a3 a4 a5 a6 k,LeO (coder_Take.f k a0 a1 a2 a3 a4 a5 a6) (coder_Take.f (k+1) a0 a1 a2 a3 a4 a5 a6):=by
 intro a0 a1 a2 a3 a4 a5 a6 k
 have ih0:=coder_Take.mono_l k
 unfold coder_Take.f
 repeat' with_reducible first|apply ih0|apply yLr|apply yLn|apply yLi|apply yLb|intro _
def coder_Take.T7 : Bool × List (List Nat × List Nat):=(true, [([], []),([0], [0]),([1], [1]),([2], [2]),([], []),([4], [4]),([], []),([6], [6]),([5,7], [5,7]),([3,8], [3,8]),([0,1,2,3,4,5,6,7,8,9], []),([10,9,8,0,1,2,3,4,5,6,7,8,9], [9,10])])
def coder_Take.B7 : List Nat := [0,1,3,7,0,16,0,64,240,511,1023,2047]
theorem coder_Take.tab7 : rtab .any (opsOf Try.f51 7)=coder_Take.T7:=by kernel_rfl
theorem coder_Take.bits7 : waitsOk coder_Take.T7.2 coder_Take.B7=true:=by kernel_rfl
set_option maxHeartbeats 8000000 in
set_option maxRecDepth 100000 in
theorem coder_Take.calls (k : Nat) (aA : Int) (aC : Int) (ap : Nat→Prop) (aI : Option Addr) (aJ : Nat) (aq : List Int) (aD : Int) (a1 : Int) (a2 : Int) (a3 : Int) (r1 : Int) (r2 : Int) (r3 : List Int) (r4 : Int) (r5 : Int) (w : World) (bG : Kd.V (Kd.int .u8) 5 w w.heap.size (fun k_=>ap k_) (.slice aI aq.length aJ) aq) (h : coder_Take.f k aA aC aq aD a1 a2 a3=some (r1,r2,r3,r4,r5)) :
  Calls Try.prog 51 #[.agg #[.int .u64 aA, .int .u32 aC, .slice aI aq.length aJ, .int .i64 aD], .int .i64 a1, .int .i64 a2, .int .i64 a3] w fun e w' => ∃ v2_ : Value,e=.returned (.tuple #[.agg #[.int .u64 r1, .int .u32 r2,v2_, .int .i64 r4], .int .i64 r5])∧Kd.V (Kd.int .u8) 5 w' w.heap.size (fun k_=>(ap k_∨w.heap.size≤k_)) v2_ r3∧Below w.heap.size w w' := by
 have hu82:=Try.underlying82
 have ai:=zm (show Kd.V (Kd.int .u8) 5 w w.heap.size (fun k_=>(ap k_∨w.heap.size≤k_)) (.slice aI aq.length aJ) aq from zy bG (fun k_ hk => .inl hk))
 have HB:=zm (Below.refl w.heap.size w);have H:=h
 unfold coder_Take.f at H
 clear h
 obtain ⟨⟨ay,ax,al,aK⟩,A5,H⟩:=ybi H
 try dsimp only at H
 obtain ⟨bF,A6,H⟩:=ybi H
 by_cases c7 : bF=true
 ·
  subst c7
  rw [if_pos rfl] at H
  obtain ⟨⟨bH,aV⟩,A8,H⟩:=ybi H
  try dsimp only at H
  obtain ⟨ji9,aN⟩ : ∃ j_ : Int,(mn ay aV)=j_:=⟨_,rfl⟩
  (first|rw [aN] at H|simp only [aN] at H)
  (try rw [aN] at A5)
  (try rw [aN] at A6)
  (try rw [aN] at A8)
  have bR : (if aV < ay then aV else ay)=ji9:=aN
  have H' := zm H
  clear H
  go_enter Try.func51,Try.ntmps51
  go_wp2_with (first|((with_reducible refine gate_dst (N:=4) rfl ?_);refine ybx 4 #[.int .u64 aA, .int .u32 aC, .slice aI aq.length aJ, .int .i64 aD] 82 ?_;intro af hg w10 hbox hb;replace ai:=yVe ai hg hb;have aa:=zm (hbox);have bI:=ygw hg;have bJ:=ygw hg;replace HB:=ybs hb;clear hb hbox hg)|((with_reducible refine gate_dst (N:=8) rfl ?_);refine ybx 8 #[.int .u64 0, .int .u32 0, .slice none 0 0, .int .i64 0] 82 ?_;intro am hg w11 hbox hb;replace ai:=yVe ai hg hb;have ag:=zm (hbox);have bK:=ygw hg;have bL:=ygw hg;replace HB:=ybs hb;have aj:=ynl aa hg;have ak:=yng aa hg;replace aa:=ybb aa hb;clear hb hbox hg;have:=aj.out;have:=ak.out;obtain ⟨aW,aX,aY,aZ,a7,a8,a9,ba⟩:=yc4 aa)|((with_reducible refine gate_callee (f:=86) rfl ?_);refine ygl 13 Try.func86 #[.agg #[.int .u64 aA, .int .u32 aC, .slice aI aq.length aJ, .int .i64 aD]] ?_;(with_reducible refine (coder_good.calls aA aC (fun k_=>(((ap k_∨w.heap.size≤k_)∧k_≠af)∧k_≠am)) _ _ aq aD ay ax al aK _ ai.out A5.out).mono ?_);rintro e w14 ⟨bO,rfl,ho0,hb⟩;refine ⟨_,rfl, ?_⟩;replace ai:=yVb ai hb;have ao:=yho (fun k_=>(ap k_∨w.heap.size≤k_)∧k_≠af∧k_≠am) ho0 (fun k_ hk_=>⟨Or.elim hk_ (fun hs_=>hs_.1.1) (fun hn_=>(.inr (Nat.le_trans (zE yhb) hn_))),yoB aa hk_,yoB ag hk_⟩);replace aa:=ybb aa hb;replace ag:=ybb ag hb;replace HB:=ybs hb;(try clear hb);(try clear ho0);obtain ⟨bb,bc,bd,bf,bg,bh,bi,bj⟩:=yc4 aa;obtain ⟨aE,aG,bP⟩:=Kd.V_slice ao.out;subst bP)|((with_reducible refine gate_store (t:=82) (p:=4) rfl ?_);refine store_event (t:=82) (p:=4) (v := ?vo_w17) (w1:=((((w14.setCell ⟨af,0,none⟩ (.int .u64 ay)).setCell ⟨af,1,none⟩ (.int .u32 ax)).setCell ⟨af,2,none⟩ (.slice aE al.length aG)).setCell ⟨af,3,none⟩ (.int .i64 aK))) ?hg ?ho ?hn ?hr ?_;(case ho=>rfl);(case hg=>rfl);(case hn=>rfl);(case hr=>first|(go_simp;done)|(go_simp;rfl));intro w17 hw;replace ai : Aside0 (Kd.V (Kd.int .u8) 5 w17 w.heap.size (fun k_=>(ap k_∨w.heap.size≤k_)∧k_≠af∧k_≠am) (.slice aI aq.length aJ) aq):=⟨(by rw [hw];exact (yV0 ai))⟩;replace ao : Aside0 (Kd.V (Kd.int .u8) 5 w17 w.heap.size (fun k_=>(ap k_∨w.heap.size≤k_)∧k_≠af∧k_≠am) (.slice aE al.length aG) al):=⟨(by rw [hw];exact (yV0 ao))⟩;replace aa : Aside0 (w17.heap[af]? = some (.cells #[.int .u64 ay, .int .u32 ax, .slice aE al.length aG, .int .i64 aK] 82 (0,0))):=⟨(by rw [hw];exact (ykp aa))⟩;replace ag : Aside0 (w17.heap[am]? = some (.cells #[.int .u64 0, .int .u32 0, .slice none 0 0, .int .i64 0] 82 (0,0))):=⟨(by rw [hw];exact (yk ag))⟩;replace HB : Aside0 (Below w.heap.size w w17):=⟨(by rw [hw];exact yhb)⟩;clear hw)|((with_reducible refine gate_callee (f:=64) rfl ?_);refine ygl 17 Try.func64 #[.int .i64 a1, .int .i64 a2, .int .i64 a3] ?_;(with_reducible refine (coder_fair.calls a1 a2 a3 true _ A6.out).mono ?_);rintro e w' ⟨rfl,⟨nd,rfl⟩⟩;refine ⟨_,rfl, ?_⟩;(try (rw [drewN_self w17];generalize hq_ : World.drewN w17 _=w17;replace ai:=yVq hq_ ai;replace ao:=yVq hq_ ao;replace aa:=ykq hq_ aa;replace ag:=ykq hq_ ag;replace HB:=ysq hq_;clear hq_));obtain ⟨bk,bl,bm,bn,bo,bp,bq,br⟩:=yc4 aa)|((with_reducible refine gate_callee (f:=65) rfl ?_);refine ygl 26 Try.func65 #[.int .u32 ax, .int .i64 a1, .int .i64 a2, .int .i64 a3] ?_;(with_reducible refine (coder_part.calls ax a1 a2 a3 bH aV _ A8.out).mono ?_);rintro e w' ⟨rfl,⟨nd,rfl⟩⟩;refine ⟨_,rfl, ?_⟩;(try (rw [drewN_self w17];generalize hq_ : World.drewN w17 _=w17;replace ai:=yVq hq_ ai;replace ao:=yVq hq_ ao;replace aa:=ykq hq_ aa;replace ag:=ykq hq_ ag;replace HB:=ysq hq_;clear hq_));obtain ⟨bs,bu,bv,bw,bx,bz,bA,bB⟩:=yc4 aa))
  go_loopg [10] k (fun kq v10 w' => ∃ (az : Int) (ah : Int) (ac : Int),v10=.int .u32 az∧Aside0 (coder_Take.l0 kq az ah ax al ac=some (r1,r2,r3,r4,r5))∧Aside0 (kq≤k)∧Aside0 (Kd.V (Kd.int .u8) 5 w' w.heap.size (fun k_=>(ap k_∨w.heap.size≤k_)∧k_≠af∧k_≠am) (.slice aE al.length aG) al)∧Aside0 (w'.heap[af]? = some (.cells #[.int .u64 ah, .int .u32 ax,(.slice aE al.length aG), .int .i64 ac] 82 (0,0)))∧Aside0 (w'.heap[am]? = some (.cells #[.int .u64 0, .int .u32 0,(.slice none 0 0), .int .i64 0] 82 (0,0)))∧Aside0 (Below w.heap.size w w'))
  case atStart=>exact ⟨(bH),(IntKind.u64.wrap (ay - (ji9))),(aK),yq,H',⟨Nat.le_refl _⟩,⟨yV0 ao⟩,⟨ykp aa⟩,⟨yk ag⟩,⟨yhb⟩⟩
  case round =>
   clear H'
   try clear aW
   try clear aX
   try clear aY
   try clear aZ
   try clear bb
   try clear bc
   try clear bd
   try clear bf
   try clear bk
   try clear bl
   try clear bm
   try clear bn
   try clear bs
   try clear bu
   try clear bv
   try clear bw
   try clear a7
   try clear a8
   try clear a9
   try clear ba
   try clear bg
   try clear bh
   try clear bi
   try clear bj
   try clear bo
   try clear bp
   try clear bq
   try clear br
   try clear bx
   try clear bz
   try clear bA
   try clear bB
   obtain ⟨az,ah,ac,rfl,HA,HK1,ae,aa,ag,HB⟩:=hrel
   obtain ⟨k1,rfl⟩:=ysu gk (fun h=>by subst h;exact absurd HA.out (by simp [coder_Take.l0]))
   have H:=HA.out;clear HA
   simp only [coder_Take.l0] at H
   by_cases c20 : az < 16777216
   ·
    rw [if_pos c20] at H
    have bM:=yD c20
    clear c20
    obtain ⟨aM,A21,H⟩:=ybi H
    by_cases c22 : ac < (al.length : Int)
    ·
     rw [if_pos c22] at H
     have bN:=yD c22
     clear c22
     have H' := zm H
     clear H
     try go_wp2
     replace ae:=zm (zC ae.out)
     replace aa:=zm (zj aa.out)
     replace ag:=zm (zj ag.out)
     replace HB:=zm (zf HB.out)
     refine yst (fun w' => w'.cell? ⟨af,0,none⟩=some (.int .u64 ah)∧w'.cell? ⟨af,1,none⟩=some (.int .u32 ax)∧w'.cell? ⟨af,2,none⟩=some (.slice aE al.length aG)∧w'.cell? ⟨af,3,none⟩=some (.int .i64 ac)) [11] 12 coder_Take.tab7 coder_Take.bits7 (fun hHeld HT_ HW_ => ?_)
     generalize wr.drew=w23 at ae aa ag HB hHeld ⊢
     refine yp 0 39 HT_ ?_
     refine yp 4 43 HT_ ?_
     refine yp 6 45 HT_ ?_
     refine yl 1 40 HT_ HW_ hHeld ?_
     refine yp 2 41 HT_ ?_
     refine yp 3 42 HT_ ?_
     refine yl 5 44 HT_ HW_ hHeld ?_
     refine yl 7 46 HT_ HW_ hHeld ?_
     refine yw 8 47 HT_ (fun K hK => ?_)
     refine ygs Try.func85 #[.slice aE al.length aG, .int .i64 ac] ?_
     with_reducible refine (coder_at.calls _ _ al ac aM _ ?aT ?aU A21.out).mono ?_
     (case aT=>exact yce (Kd.V_reads' ae.out).2.2)
     (case aU=>exact (Kd.V_reads' ae.out).2.1)
     rintro e w' ⟨rfl,⟨nd,rfl⟩⟩
     refine ⟨_,rfl, ?_⟩
     refine hK.out _ _ yH (fun hHeld => ?_)
     clear hK K
     refine ym (some 47) ?_
     refine yp 9 48 HT_ ?_
     refine yp 10 49 HT_ ?_
     refine last_ (i:=11) (N:=none) #[true,true,true,true,true,true,true,true,true,true,true,true] rfl rfl (one_of HT_.out (by kernel_rfl)) (by decide) (fun K hK => ?_)
     have bS : w23.cell? ⟨af,0,none⟩=some (.int .u64 ah):=(zs aa.out 0).trans rfl
     have hfs24:=zx aa.out 0
     have:=ak.out
     have:=aj.out
     refine skip_ (w1 := ?_) (by rfl) rfl ?_ ?_
     rotate_left
     ·
      go_simp
      rfl
     refine hK.out _ _ ?_
     clear hK K
     refine done_ (done_of HT_.out (by kernel_rfl)) ?_
     have:=aj.out
     have:=ak.out
     obtain ⟨_,_,_,_,_,_,_,_⟩:=yc4 aa
     try go_wp2
     go_roundg k1
     case measure=>exact yom1 HK1
     case rel=>exact ⟨((az * 256) % 4294967296),(Go.bits .or .u64 (Go.bits .and .u64 (IntKind.u64.wrap (ah * 256)) 4294967295) aM),(wrap64 (ac+1)),yq,H',⟨yom1 HK1⟩,⟨yV0 ae⟩,⟨ykp aa⟩,⟨yk ag⟩,⟨yhb⟩⟩
    rw [if_neg c22] at H
    have bN:=yG c22
    clear c22
    have H' := zm H
    clear H
    try go_wp2
    replace ae:=zm (zC ae.out)
    replace aa:=zm (zj aa.out)
    replace ag:=zm (zj ag.out)
    replace HB:=zm (zf HB.out)
    refine yst (fun w' => w'.cell? ⟨af,0,none⟩=some (.int .u64 ah)∧w'.cell? ⟨af,1,none⟩=some (.int .u32 ax)∧w'.cell? ⟨af,2,none⟩=some (.slice aE al.length aG)∧w'.cell? ⟨af,3,none⟩=some (.int .i64 ac)) [11] 12 coder_Take.tab7 coder_Take.bits7 (fun hHeld HT_ HW_ => ?_)
    generalize wr.drew=w27 at ae aa ag HB hHeld ⊢
    refine yp 0 39 HT_ ?_
    refine yp 4 43 HT_ ?_
    refine yp 6 45 HT_ ?_
    refine yl 1 40 HT_ HW_ hHeld ?_
    refine yp 2 41 HT_ ?_
    refine yp 3 42 HT_ ?_
    refine yl 5 44 HT_ HW_ hHeld ?_
    refine yl 7 46 HT_ HW_ hHeld ?_
    refine yw 8 47 HT_ (fun K hK => ?_)
    refine ygs Try.func85 #[.slice aE al.length aG, .int .i64 ac] ?_
    with_reducible refine (coder_at.calls _ _ al ac aM _ ?aT ?aU A21.out).mono ?_
    (case aT=>exact yce (Kd.V_reads' ae.out).2.2)
    (case aU=>exact (Kd.V_reads' ae.out).2.1)
    rintro e w' ⟨rfl,⟨nd,rfl⟩⟩
    refine ⟨_,rfl, ?_⟩
    refine hK.out _ _ yH (fun hHeld => ?_)
    clear hK K
    refine ym (some 47) ?_
    refine yp 9 48 HT_ ?_
    refine yp 10 49 HT_ ?_
    refine last_ (i:=11) (N:=none) #[true,true,true,true,true,true,true,true,true,true,true,true] rfl rfl (one_of HT_.out (by kernel_rfl)) (by decide) (fun K hK => ?_)
    have bT : w27.cell? ⟨af,0,none⟩=some (.int .u64 ah):=(zs aa.out 0).trans rfl
    have hfs28:=zx aa.out 0
    have:=ak.out
    have:=aj.out
    refine skip_ (w1 := ?_) (by rfl) rfl ?_ ?_
    rotate_left
    ·
     go_simp
     rfl
    refine hK.out _ _ ?_
    clear hK K
    refine done_ (done_of HT_.out (by kernel_rfl)) ?_
    have:=aj.out
    have:=ak.out
    obtain ⟨_,_,_,_,_,_,_,_⟩:=yc4 aa
    try go_wp2
    go_roundg k1
    case measure=>exact yom1 HK1
    case rel=>exact ⟨((az * 256) % 4294967296),(Go.bits .or .u64 (Go.bits .and .u64 (IntKind.u64.wrap (ah * 256)) 4294967295) aM),(ac),yq,H',⟨yom1 HK1⟩,⟨yV0 ae⟩,⟨ykp aa⟩,⟨yk ag⟩,⟨yhb⟩⟩
   rw [if_neg c20] at H
   have bM:=yG c20
   clear c20
   simp only [Option.some.injEq,Prod.mk.injEq] at H
   obtain ⟨rfl,rfl,rfl,rfl,rfl⟩:=H
   have:=aj.out
   have:=ak.out
   obtain ⟨_,_,_,_,_,_,_,_⟩:=yc4 aa
   obtain ⟨_,_,_,_,_,_,_,_⟩:=yc4 ag
   go_wp2
   refine bodyPost_ret (results_ct rfl _ _ am 82 #[.int .u64 ah, .int .u32 az, .slice aE al.length aG, .int .i64 ac] (0,0) _ rfl (ykp ag) Try.underlying82 rfl (by kernel_rfl)) rfl ?_
   exact ⟨_,by first|rfl|(simp [errW_none,errW_some] <;> rfl)|(simp only [← aN];first|rfl|(simp [errW_none,errW_some] <;> rfl))|(simp [*,errW_none,errW_some] <;> rfl),yV0 ae,yhb⟩
 replace c7:=Bool.eq_false_iff.mpr c7
 subst c7
 rw [ynf] at H
 simp only [Option.some.injEq,Prod.mk.injEq] at H
 obtain ⟨rfl,rfl,rfl,rfl,rfl⟩:=H
 go_enter Try.func51,Try.ntmps51
 go_wp2_with (first|((with_reducible refine gate_dst (N:=4) rfl ?_);refine ybx 4 #[.int .u64 aA, .int .u32 aC, .slice aI aq.length aJ, .int .i64 aD] 82 ?_;intro af hg w34 hbox hb;replace ai:=yVe ai hg hb;have aa:=zm (hbox);have bI:=ygw hg;have bJ:=ygw hg;replace HB:=ybs hb;clear hb hbox hg)|((with_reducible refine gate_dst (N:=8) rfl ?_);refine ybx 8 #[.int .u64 0, .int .u32 0, .slice none 0 0, .int .i64 0] 82 ?_;intro am hg w35 hbox hb;replace ai:=yVe ai hg hb;have ag:=zm (hbox);have bK:=ygw hg;have bL:=ygw hg;replace HB:=ybs hb;have aj:=ynl aa hg;have ak:=yng aa hg;replace aa:=ybb aa hb;clear hb hbox hg;have:=aj.out;have:=ak.out;obtain ⟨_,_,_,_,_,_,_,_⟩:=yc4 aa)|((with_reducible refine gate_callee (f:=86) rfl ?_);refine ygl 13 Try.func86 #[.agg #[.int .u64 aA, .int .u32 aC, .slice aI aq.length aJ, .int .i64 aD]] ?_;(with_reducible refine (coder_good.calls aA aC (fun k_=>(((ap k_∨w.heap.size≤k_)∧k_≠af)∧k_≠am)) _ _ aq aD ay ax al aK _ ai.out A5.out).mono ?_);rintro e w38 ⟨bO,rfl,ho0,hb⟩;refine ⟨_,rfl, ?_⟩;replace ai:=yVb ai hb;have ao:=yho (fun k_=>(ap k_∨w.heap.size≤k_)∧k_≠af∧k_≠am) ho0 (fun k_ hk_=>⟨Or.elim hk_ (fun hs_=>hs_.1.1) (fun hn_=>(.inr (Nat.le_trans (zE yhb) hn_))),yoB aa hk_,yoB ag hk_⟩);replace aa:=ybb aa hb;replace ag:=ybb ag hb;replace HB:=ybs hb;(try clear hb);(try clear ho0);obtain ⟨_,_,_,_,_,_,_,_⟩:=yc4 aa;obtain ⟨bC,bD,bQ⟩:=Kd.V_slice ao.out;subst bQ)|((with_reducible refine gate_store (t:=82) (p:=4) rfl ?_);refine store_event (t:=82) (p:=4) (v := ?vo_w41) (w1:=((((w38.setCell ⟨af,0,none⟩ (.int .u64 ay)).setCell ⟨af,1,none⟩ (.int .u32 ax)).setCell ⟨af,2,none⟩ (.slice bC al.length bD)).setCell ⟨af,3,none⟩ (.int .i64 aK))) ?hg ?ho ?hn ?hr ?_;(case ho=>rfl);(case hg=>rfl);(case hn=>rfl);(case hr=>first|(go_simp;done)|(go_simp;rfl));intro w41 hw;replace ai : Aside0 (Kd.V (Kd.int .u8) 5 w41 w.heap.size (fun k_=>(ap k_∨w.heap.size≤k_)∧k_≠af∧k_≠am) (.slice aI aq.length aJ) aq):=⟨(by rw [hw];exact (yV0 ai))⟩;replace ao : Aside0 (Kd.V (Kd.int .u8) 5 w41 w.heap.size (fun k_=>(ap k_∨w.heap.size≤k_)∧k_≠af∧k_≠am) (.slice bC al.length bD) al):=⟨(by rw [hw];exact (yV0 ao))⟩;replace aa : Aside0 (w41.heap[af]? = some (.cells #[.int .u64 ay, .int .u32 ax, .slice bC al.length bD, .int .i64 aK] 82 (0,0))):=⟨(by rw [hw];exact (ykp aa))⟩;replace ag : Aside0 (w41.heap[am]? = some (.cells #[.int .u64 0, .int .u32 0, .slice none 0 0, .int .i64 0] 82 (0,0))):=⟨(by rw [hw];exact (yk ag))⟩;replace HB : Aside0 (Below w.heap.size w w41):=⟨(by rw [hw];exact yhb)⟩;clear hw)|((with_reducible refine gate_callee (f:=64) rfl ?_);refine ygl 17 Try.func64 #[.int .i64 a1, .int .i64 a2, .int .i64 a3] ?_;(with_reducible refine (coder_fair.calls a1 a2 a3 false _ A6.out).mono ?_);rintro e w' ⟨rfl,⟨nd,rfl⟩⟩;refine ⟨_,rfl, ?_⟩;(try (rw [drewN_self w41];generalize hq_ : World.drewN w41 _=w41;replace ai:=yVq hq_ ai;replace ao:=yVq hq_ ao;replace aa:=ykq hq_ aa;replace ag:=ykq hq_ ag;replace HB:=ysq hq_;clear hq_));obtain ⟨_,_,_,_,_,_,_,_⟩:=yc4 aa;obtain ⟨_,_,_,_,_,_,_,_⟩:=yc4 ag))
 refine bodyPost_ret (results_ct rfl _ _ am 82 #[.int .u64 ay, .int .u32 ax, .slice bC al.length bD, .int .i64 aK] (0,0) _ rfl (ykp ag) Try.underlying82 rfl (by kernel_rfl)) rfl ?_
 exact ⟨_,ye,yV0 ao,yhb⟩
def coder_TakeNum.j0 : Nat→Int→Bool→Int→Int→List Int→Int→Option (Int × Int × List Int × Int × Int × Int)
 | 0,_,_,_,_,_,_=>none
 | k+1,x1,x21,aE,aG,aH,aI=>if x21=true then (some (aE,aG,aH,aI,0,1)) else ((coder_halves.f x1).bind fun aD=>((coder_Get.f aE aG aH aI aD.1).bind fun a8=>((coder_Take.f k aE aG aH aI a8.1 (wrap64 (a8.1+1)) aD.1).bind fun ah=>(if aD.2 > 1 then ((coder_Get.f ah.1 ah.2.1 ah.2.2.1 ah.2.2.2.1 aD.2).bind fun bb=>((coder_Take.f k ah.1 ah.2.1 ah.2.2.1 ah.2.2.2.1 bb.1 (wrap64 (bb.1+1)) aD.2).bind fun a9=>(some (a9.1,a9.2.1,a9.2.2.1,a9.2.2.2.1,mn (IntKind.u64.wrap ((IntKind.u64.wrap ((IntKind.u64.wrap (a8.1)) * (IntKind.u64.wrap (aD.2))))+(IntKind.u64.wrap (bb.1)))) (IntKind.u64.wrap (x1 - 1)),0)))) else (some (ah.1,ah.2.1,ah.2.2.1,ah.2.2.2.1,mn (IntKind.u64.wrap (a8.1)) (IntKind.u64.wrap (x1 - 1)),0))))))
def coder_TakeNum.f (k : Nat) (aW : Int) (aX : Int) (ax : List Int) (aY : Int) (a1 : Int) : Option (Int × Int × List Int × Int × Int × Int):=(coder_good.f aW aX ax aY).bind fun aq=>(if a1 < 1 then (coder_TakeNum.j0 k a1 true aq.1 aq.2.1 aq.2.2.1 aq.2.2.2) else (coder_TakeNum.j0 k a1 (decide (a1 > 4294967296)) aq.1 aq.2.1 aq.2.2.1 aq.2.2.2))
theorem coder_TakeNum.mono_l : ∀ k,(∀ y0 y1 y2 y3 y4 y5,LeO (coder_TakeNum.j0 k y0 y1 y2 y3 y4 y5) (coder_TakeNum.j0 (k+1) y0 y1 y2 y3 y4 y5))
 | 0=>fun _ _ _ _ _ _ r h=>by simp [coder_TakeNum.j0] at h
 | k+1=>by
  have ih0:=coder_TakeNum.mono_l k
  ·
   intro y0 y1 y2 y3 y4 y5
   unfold coder_TakeNum.j0
   repeat' with_reducible first|apply ih0|apply coder_Take.mono|apply yLr|apply yLn|apply yLi|apply yLb|intro _
theorem coder_TakeNum.mono : ∀ a0 a1 a2 a3 a4 k,LeO (coder_TakeNum.f k a0 a1 a2 a3 a4) (coder_TakeNum.f (k+1) a0 a1 a2 a3 a4):=by
 intro a0 a1 a2 a3 a4 k
 have ih0:=coder_TakeNum.mono_l k
 unfold coder_TakeNum.f
 repeat' with_reducible first|apply ih0|apply coder_Take.mono|apply yLr|apply yLn|apply yLi|apply yLb|intro _
set_option maxHeartbeats 8000000 in
set_option maxRecDepth 100000 in
theorem coder_TakeNum.calls (k : Nat) (aW : Int) (aX : Int) (ag : Nat→Prop) (bc : Option Addr) (bd : Nat) (ax : List Int) (aY : Int) (a1 : Int) (r1 : Int) (r2 : Int) (r3 : List Int) (r4 : Int) (r5 : Int) (r6 : Int) (w : World) (bB : Kd.V (Kd.int .u8) 5 w w.heap.size (fun k_=>ag k_) (.slice bc ax.length bd) ax) (h : coder_TakeNum.f k aW aX ax aY a1=some (r1,r2,r3,r4,r5,r6)) :
  Calls Try.prog 53 #[.agg #[.int .u64 aW, .int .u32 aX, .slice bc ax.length bd, .int .i64 aY], .int .u64 a1] w fun e w' => ∃ v2_ : Value,e=.returned (.tuple #[.agg #[.int .u64 r1, .int .u32 r2,v2_, .int .i64 r4], .int .u64 r5, .int .i64 r6])∧Kd.V (Kd.int .u8) 5 w' w.heap.size (fun k_=>(ag k_∨w.heap.size≤k_)) v2_ r3∧Below w.heap.size w w' := by
 have hu82:=Try.underlying82
 have ay:=zm (show Kd.V (Kd.int .u8) 5 w w.heap.size (fun k_=>(ag k_∨w.heap.size≤k_)) (.slice bc ax.length bd) ax from zy bB (fun k_ hk => .inl hk))
 have HB:=zm (Below.refl w.heap.size w);have H:=h
 unfold coder_TakeNum.f at H
 clear h
 obtain ⟨⟨au,av,ao,aw⟩,A3,H⟩:=ybi H
 try dsimp only at H
 have HC4:=zm H;clear H
 go_enter Try.func53,Try.ntmps53
 go_upto_region 2 with (first|((with_reducible refine gate_dst (N:=2) rfl ?_);refine ybx 2 #[.int .u64 aW, .int .u32 aX, .slice bc ax.length bd, .int .i64 aY] 82 ?_;intro ai hg w5 hbox hb;replace ay:=yVe ay hg hb;have ac:=zm (hbox);have bY:=ygw hg;have bZ:=ygw hg;replace HB:=ybs hb;clear hb hbox hg)|((with_reducible refine gate_dst (N:=4) rfl ?_);refine ybx 4 #[.int .u64 0, .int .u32 0, .slice none 0 0, .int .i64 0] 82 ?_;intro af hg w6 hbox hb;replace ay:=yVe ay hg hb;have ae:=zm (hbox);have b4:=ygw hg;have b5:=ygw hg;replace HB:=ybs hb;have ak:=ynl ac hg;have al:=yng ac hg;replace ac:=ybb ac hb;clear hb hbox hg;have:=ak.out;have:=al.out;obtain ⟨bq,br,bs,bu,bv,bw,bx,bz⟩:=yc4 ac)|((with_reducible refine gate_callee (f:=86) rfl ?_);refine ygl 15 Try.func86 #[.agg #[.int .u64 aW, .int .u32 aX, .slice bc ax.length bd, .int .i64 aY]] ?_;(with_reducible refine (coder_good.calls aW aX (fun k_=>(((ag k_∨w.heap.size≤k_)∧k_≠ai)∧k_≠af)) _ _ ax aY au av ao aw _ ay.out A3.out).mono ?_);rintro e w9 ⟨b6,rfl,ho0,hb⟩;refine ⟨_,rfl, ?_⟩;replace ay:=yVb ay hb;have bf:=yho (fun k_=>(ag k_∨w.heap.size≤k_)∧k_≠ai∧k_≠af) ho0 (fun k_ hk_=>⟨Or.elim hk_ (fun hs_=>hs_.1.1) (fun hn_=>(.inr (Nat.le_trans (zE yhb) hn_))),yoB ac hk_,yoB ae hk_⟩);replace ac:=ybb ac hb;replace ae:=ybb ae hb;replace HB:=ybs hb;(try clear hb);(try clear ho0);obtain ⟨bg,bh,bi,bj,bk,bl,bm,bn⟩:=yc4 ac;obtain ⟨aZ,a7,bJ⟩:=Kd.V_slice bf.out;subst bJ))
 (try simp only [Act.put,List.setIfInBounds_toArray,List.set_cons_zero,List.set_cons_succ])
 go_cut [21] (fun v21 wc => ∃ (kq : Nat) (ba : Bool),v21=.bool ba∧Aside0 (coder_TakeNum.j0 kq a1 ba au av ao aw=some (r1,r2,r3,r4,r5,r6))∧Aside0 (kq≤k)∧Aside0 (Kd.V (Kd.int .u8) 5 wc w.heap.size (fun k_=>(ag k_∨w.heap.size≤k_)∧k_≠ai∧k_≠af) (.slice aZ ao.length a7) ao)∧Aside0 (wc.heap[ai]? = some (.cells #[.int .u64 au, .int .u32 av,(.slice aZ ao.length a7), .int .i64 aw] 82 (0,0)))∧Aside0 (wc.heap[af]? = some (.cells #[.int .u64 0, .int .u32 0,(.slice none 0 0), .int .i64 0] 82 (0,0)))∧Aside0 (Below w.heap.size w wc))
 case first =>
  have H:=HC4.out;clear HC4
  by_cases c12 : a1 < 1
  ·
   rw [if_pos c12] at H
   have aK:=yD c12
   clear c12
   (first|rw [aK]|(simp only [i64_w,i32_w];rw [aK])|skip)
   have H' := zm H
   clear H
   go_wp2
   go_meet
   case rel=>exact ⟨_,(true),yq,H',⟨yo⟩,⟨yV0 bf⟩,⟨ykp ac⟩,⟨yk ae⟩,⟨yhb⟩⟩
  rw [if_neg c12] at H
  have aK:=yG c12
  clear c12
  (first|rw [aK]|(simp only [i64_w,i32_w];rw [aK])|skip)
  have H' := zm H
  clear H
  go_wp2
  go_meet
  case rel=>exact ⟨_,(decide (a1 > 4294967296)),yq,H',⟨yo⟩,⟨yV0 bf⟩,⟨ykp ac⟩,⟨yk ae⟩,⟨yhb⟩⟩
 case rest =>
  clear HC4
  try clear bg
  try clear bh
  try clear bi
  try clear bj
  try clear bq
  try clear br
  try clear bs
  try clear bu
  try clear bk
  try clear bl
  try clear bm
  try clear bn
  try clear bv
  try clear bw
  try clear bx
  try clear bz
  obtain ⟨kq,ba,rfl,HA,HJ3,aa,ac,ae,HB⟩:=hcut
  obtain ⟨kj3,rfl⟩:=ysu kq (fun h=>by subst h;exact absurd HA.out (by simp [coder_TakeNum.j0]))
  have H:=HA.out;clear HA
  simp only [coder_TakeNum.j0] at H
  by_cases c13 : ba=true
  ·
   subst c13
   rw [if_pos rfl] at H
   simp only [Option.some.injEq,Prod.mk.injEq] at H
   obtain ⟨rfl,rfl,rfl,rfl,rfl,rfl⟩:=H
   have:=ak.out
   have:=al.out
   obtain ⟨_,_,_,_,_,_,_,_⟩:=yc4 ac
   obtain ⟨_,_,_,_,_,_,_,_⟩:=yc4 ae
   go_wp2
   refine bodyPost_ret (results_ctt rfl _ _ af 82 #[.int .u64 au, .int .u32 av, .slice aZ ao.length a7, .int .i64 aw] (0,0) _ rfl (ykp ae) Try.underlying82 rfl (by kernel_rfl)) rfl ?_
   exact ⟨_,ye,yV0 aa,yhb⟩
  replace c13:=Bool.eq_false_iff.mpr c13
  subst c13
  rw [ynf] at H
  obtain ⟨⟨aA,aC⟩,A17,H⟩:=ybi H
  try dsimp only at H
  obtain ⟨⟨am,bC⟩,A18,H⟩:=ybi H
  try dsimp only at H
  obtain ⟨⟨aM,aN,aJ,aQ,bD⟩,A19,H⟩:=ybi H
  try dsimp only at H
  by_cases c20 : aC > 1
  ·
   rw [if_pos c20] at H
   have bE:=yDs c20
   clear c20
   obtain ⟨⟨aT,bK⟩,A21,H⟩:=ybi H
   try dsimp only at H
   obtain ⟨⟨bF,bG,bH,bI,bL⟩,A22,H⟩:=ybi H
   try dsimp only at H
   obtain ⟨bM,ap⟩ : ∃ j_ : Int,(mn (IntKind.u64.wrap ((IntKind.u64.wrap ((IntKind.u64.wrap (am)) * (IntKind.u64.wrap (aC))))+(IntKind.u64.wrap (aT)))) (IntKind.u64.wrap (a1 - 1)))=j_:=⟨_,rfl⟩
   (first|rw [ap] at H|simp only [ap] at H)
   (try rw [ap] at A17)
   (try rw [ap] at A18)
   (try rw [ap] at A19)
   (try rw [ap] at A21)
   (try rw [ap] at A22)
   have bN : (if (IntKind.u64.wrap (a1 - 1)) < (IntKind.u64.wrap ((IntKind.u64.wrap ((IntKind.u64.wrap (am)) * (IntKind.u64.wrap (aC))))+(IntKind.u64.wrap (aT)))) then (IntKind.u64.wrap (a1 - 1)) else (IntKind.u64.wrap ((IntKind.u64.wrap ((IntKind.u64.wrap (am)) * (IntKind.u64.wrap (aC))))+(IntKind.u64.wrap (aT)))))=bM:=ap
   simp only [Option.some.injEq,Prod.mk.injEq] at H
   obtain ⟨rfl,rfl,rfl,rfl,rfl,rfl⟩:=H
   go_wp2_with (first|((with_reducible refine gate_callee (f:=76) rfl ?_);refine ygl 25 Try.func76 #[.int .u64 a1] ?_;(with_reducible refine (coder_halves.calls a1 aA aC _ A17.out).mono ?_);rintro e w' ⟨rfl,⟨nd,rfl⟩⟩;refine ⟨_,rfl, ?_⟩;(try (rw [drewN_self wc];generalize hq_ : World.drewN wc _=wc;replace aa:=yVq hq_ aa;replace ac:=ykq hq_ ac;replace ae:=ykq hq_ ae;replace HB:=ysq hq_;clear hq_));have:=ak.out;have:=al.out;obtain ⟨_,_,_,_,_,_,_,_⟩:=yc4 ac)|((with_reducible refine gate_callee (f:=50) rfl ?_);refine ygl 31 Try.func50 #[.agg #[.int .u64 au, .int .u32 av, .slice aZ ao.length a7, .int .i64 aw], .int .i64 aA] ?_;(with_reducible refine (coder_Get.calls au av _ _ ao aw aA am bC _ ?aU ?aV A18.out).mono ?_);(case aU=>exact yce (Kd.V_reads' aa.out).2.2);(case aV=>exact (Kd.V_reads' aa.out).2.1);rintro e w26 ⟨rfl,hb⟩;refine ⟨_,rfl, ?_⟩;replace aa:=yVb aa hb;replace ac:=ybb ac hb;replace ae:=ybb ae hb;replace HB:=ybs hb;(try clear hb);obtain ⟨_,_,_,_,_,_,_,_⟩:=yc4 ac)|((with_reducible refine gate_callee (f:=51) rfl ?_);refine ygl 40 Try.func51 #[.agg #[.int .u64 au, .int .u32 av, .slice aZ ao.length a7, .int .i64 aw], .int .i64 am, .int .i64 (wrap64 (am+1)), .int .i64 aA] ?_;(with_reducible refine (coder_Take.calls kj3 au av (fun k_=>((ag k_∨w.heap.size≤k_)∧(k_≠ai∧k_≠af))) _ _ ao aw am (wrap64 (am+1)) aA aM aN aJ aQ bD _ aa.out A19.out).mono ?_);rintro e w28 ⟨bO,rfl,ho0,hb⟩;refine ⟨_,rfl, ?_⟩;replace aa:=yVb aa hb;have aj:=yho (fun k_=>(ag k_∨w.heap.size≤k_)∧k_≠ai∧k_≠af) ho0 (fun k_ hk_=>⟨Or.elim hk_ (fun hs_=>hs_.1) (fun hn_=>(.inr (Nat.le_trans (zE yhb) hn_))),yoB ac hk_,yoB ae hk_⟩);replace ac:=ybb ac hb;replace ae:=ybb ae hb;replace HB:=ybs hb;(try clear hb);(try clear ho0);obtain ⟨_,_,_,_,_,_,_,_⟩:=yc4 ac;obtain ⟨bA,bo,bP⟩:=Kd.V_slice aj.out;subst bP)|((with_reducible refine gate_callee (f:=50) rfl ?_);refine ygl 50 Try.func50 #[.agg #[.int .u64 aM, .int .u32 aN, .slice bA aJ.length bo, .int .i64 aQ], .int .i64 aC] ?_;(with_reducible refine (coder_Get.calls aM aN _ _ aJ aQ aC aT bK _ ?aU ?aV A21.out).mono ?_);(case aU=>refine (Kd.V_reads' (e:=5) (base:=w.heap.size) (ok:=fun k_=>((ag k_∨w.heap.size≤k_)∧(k_≠ai∧k_≠af))) (n:=aJ.length) (c:=bo) ?_).2.2;exact (yV0 aj));(case aV=>exact (Kd.V_reads' aj.out).2.1);rintro e w31 ⟨rfl,hb⟩;refine ⟨_,rfl, ?_⟩;replace aa:=zm (Kd.V_below (yV0 aa) hb);replace aj:=zm (Kd.V_below (yV0 aj) hb);replace ac:=zm (zF (g:=ai) (o:=.cells #[.int .u64 aM, .int .u32 aN, .slice bA aJ.length bo, .int .i64 aQ] 82 (0,0)) (ykp ac) hb);replace ae:=ybb ae hb;replace HB:=ybs hb;(try clear hb);obtain ⟨_,_,_,_,_,_,_,_⟩:=yc4 ac)|((with_reducible refine gate_callee (f:=51) rfl ?_);refine ygl 59 Try.func51 #[.agg #[.int .u64 aM, .int .u32 aN, .slice bA aJ.length bo, .int .i64 aQ], .int .i64 aT, .int .i64 (wrap64 (aT+1)), .int .i64 aC] ?_;(with_reducible refine (coder_Take.calls kj3 aM aN (fun k_=>((ag k_∨w.heap.size≤k_)∧(k_≠ai∧k_≠af))) _ _ aJ aQ aT (wrap64 (aT+1)) aC bF bG bH bI bL _ aj.out A22.out).mono ?_);rintro e w33 ⟨b7,rfl,ho0,hb⟩;refine ⟨_,rfl, ?_⟩;replace aa:=yVb aa hb;replace aj:=yVb aj hb;have bp:=yho (fun k_=>(ag k_∨w.heap.size≤k_)∧k_≠ai∧k_≠af) ho0 (fun k_ hk_=>⟨Or.elim hk_ (fun hs_=>hs_.1) (fun hn_=>(.inr (Nat.le_trans (zE yhb) hn_))),yoB ac hk_,yoB ae hk_⟩);replace ac:=ybb ac hb;replace ae:=ybb ae hb;replace HB:=ybs hb;(try clear hb);(try clear ho0);obtain ⟨_,_,_,_,_,_,_,_⟩:=yc4 ac;obtain ⟨bQ,bR,bS⟩:=Kd.V_slice bp.out;subst bS;obtain ⟨_,_,_,_,_,_,_,_⟩:=yc4 ae))
   refine bodyPost_ret (results_ctt rfl _ _ af 82 #[.int .u64 bF, .int .u32 bG, .slice bQ bH.length bR, .int .i64 bI] (0,0) _ rfl (ykp ae) Try.underlying82 rfl (by kernel_rfl)) rfl ?_
   exact ⟨_,by first|rfl|(simp [errW_none,errW_some] <;> rfl)|(simp only [← ap];first|rfl|(simp [errW_none,errW_some] <;> rfl))|(simp [*,errW_none,errW_some] <;> rfl),yV0 bp,yhb⟩
  rw [if_neg c20] at H
  have bE:=yGs c20
  clear c20
  obtain ⟨bT,az⟩ : ∃ j_ : Int,(mn (IntKind.u64.wrap (am)) (IntKind.u64.wrap (a1 - 1)))=j_:=⟨_,rfl⟩
  (first|rw [az] at H|simp only [az] at H)
  (try rw [az] at A17)
  (try rw [az] at A18)
  (try rw [az] at A19)
  have bU : (if (IntKind.u64.wrap (a1 - 1)) < (IntKind.u64.wrap (am)) then (IntKind.u64.wrap (a1 - 1)) else (IntKind.u64.wrap (am)))=bT:=az
  simp only [Option.some.injEq,Prod.mk.injEq] at H
  obtain ⟨rfl,rfl,rfl,rfl,rfl,rfl⟩:=H
  go_wp2_with (first|((with_reducible refine gate_callee (f:=76) rfl ?_);refine ygl 25 Try.func76 #[.int .u64 a1] ?_;(with_reducible refine (coder_halves.calls a1 aA aC _ A17.out).mono ?_);rintro e w' ⟨rfl,⟨nd,rfl⟩⟩;refine ⟨_,rfl, ?_⟩;(try (rw [drewN_self wc];generalize hq_ : World.drewN wc _=wc;replace aa:=yVq hq_ aa;replace ac:=ykq hq_ ac;replace ae:=ykq hq_ ae;replace HB:=ysq hq_;clear hq_));have:=ak.out;have:=al.out;obtain ⟨_,_,_,_,_,_,_,_⟩:=yc4 ac)|((with_reducible refine gate_callee (f:=50) rfl ?_);refine ygl 31 Try.func50 #[.agg #[.int .u64 au, .int .u32 av, .slice aZ ao.length a7, .int .i64 aw], .int .i64 aA] ?_;(with_reducible refine (coder_Get.calls au av _ _ ao aw aA am bC _ ?aU ?aV A18.out).mono ?_);(case aU=>exact yce (Kd.V_reads' aa.out).2.2);(case aV=>exact (Kd.V_reads' aa.out).2.1);rintro e w40 ⟨rfl,hb⟩;refine ⟨_,rfl, ?_⟩;replace aa:=yVb aa hb;replace ac:=ybb ac hb;replace ae:=ybb ae hb;replace HB:=ybs hb;(try clear hb);obtain ⟨_,_,_,_,_,_,_,_⟩:=yc4 ac)|((with_reducible refine gate_callee (f:=51) rfl ?_);refine ygl 40 Try.func51 #[.agg #[.int .u64 au, .int .u32 av, .slice aZ ao.length a7, .int .i64 aw], .int .i64 am, .int .i64 (wrap64 (am+1)), .int .i64 aA] ?_;(with_reducible refine (coder_Take.calls kj3 au av (fun k_=>((ag k_∨w.heap.size≤k_)∧(k_≠ai∧k_≠af))) _ _ ao aw am (wrap64 (am+1)) aA aM aN aJ aQ bD _ aa.out A19.out).mono ?_);rintro e w42 ⟨bO,rfl,ho0,hb⟩;refine ⟨_,rfl, ?_⟩;replace aa:=yVb aa hb;have aj:=yho (fun k_=>(ag k_∨w.heap.size≤k_)∧k_≠ai∧k_≠af) ho0 (fun k_ hk_=>⟨Or.elim hk_ (fun hs_=>hs_.1) (fun hn_=>(.inr (Nat.le_trans (zE yhb) hn_))),yoB ac hk_,yoB ae hk_⟩);replace ac:=ybb ac hb;replace ae:=ybb ae hb;replace HB:=ybs hb;(try clear hb);(try clear ho0);obtain ⟨_,_,_,_,_,_,_,_⟩:=yc4 ac;obtain ⟨bV,bW,bX⟩:=Kd.V_slice aj.out;subst bX;obtain ⟨_,_,_,_,_,_,_,_⟩:=yc4 ae))
  refine bodyPost_ret (results_ctt rfl _ _ af 82 #[.int .u64 aM, .int .u32 aN, .slice bV aJ.length bW, .int .i64 aQ] (0,0) _ rfl (ykp ae) Try.underlying82 rfl (by kernel_rfl)) rfl ?_
  exact ⟨_,by first|rfl|(simp [errW_none,errW_some] <;> rfl)|(simp only [← az];first|rfl|(simp [errW_none,errW_some] <;> rfl))|(simp [*,errW_none,errW_some] <;> rfl),yV0 aj,yhb⟩
mutual
def comb_Vector.l0 : Nat→Int→Int→Int→List Int→Option (List Int × Int)
 | 0,_,_,_,_=>none
 | k+1,x0,x1,x2,x9=>if x0 > 0 then ((comb_table.f (wrap64 (x0 - 1)) x1).bind fun al=>(if x2 ≥ al then ((comb_table.f (wrap64 (x0 - 1)) (wrap64 (x1 - 1))).bind fun ax=>(comb_Vector.l1 k x0 x1 (IntKind.u64.wrap (x2 - al)) x9 1 ax)) else (if x9.length < 17592186044416 then (comb_Vector.l0 k (wrap64 (x0 - 1)) x1 x2 (x9 ++ [0])) else (none)))) else (some (x9,0))
def comb_Vector.l1 : Nat→Int→Int→Int→List Int→Int→Int→Option (List Int × Int)
 | 0,_,_,_,_,_,_=>none
 | k+1,x0,x1,x2,x9,x10,x12=>if x2 ≥ (IntKind.u64.wrap (2 * x12)) then ((comb_table.f (wrap64 (x0 - 1)) (wrap64 (x1 - (wrap64 (x10+1))))).bind fun ay=>(comb_Vector.l1 k x0 x1 (IntKind.u64.wrap (x2 - (IntKind.u64.wrap (2 * x12)))) x9 (wrap64 (x10+1)) ay)) else ((comb_table.f (wrap64 (x0 - 1)) (wrap64 (x1 - x10))).bind fun ak=>(if x2 ≥ ak then (if x9.length < 17592186044416 then (comb_Vector.l0 k (wrap64 (x0 - 1)) (wrap64 (x1 - x10)) (IntKind.u64.wrap (x2 - ak)) (x9 ++ [wrap64 (-x10)])) else (none)) else (if x9.length < 17592186044416 then (comb_Vector.l0 k (wrap64 (x0 - 1)) (wrap64 (x1 - x10)) x2 (x9 ++ [x10])) else (none))))
end
def comb_Vector.f (k : Nat) (a0 : Int) (a1 : Int) (a2 : Int) : Option (List Int × Int):=(comb_fair.f a0 a1).bind fun az=>(if az=true then ((comb_table.f a0 a1).bind fun am=>(if a2 ≥ am then (some (([] : List Int),5)) else (comb_Vector.l0 k a0 a1 a2 ([] : List Int)))) else (some (([] : List Int),1)))
theorem comb_Vector.mono_l : ∀ k,(∀ y0 y1 y2 y3,LeO (comb_Vector.l0 k y0 y1 y2 y3) (comb_Vector.l0 (k+1) y0 y1 y2 y3))∧(∀ y0 y1 y2 y3 y4 y5,LeO (comb_Vector.l1 k y0 y1 y2 y3 y4 y5) (comb_Vector.l1 (k+1) y0 y1 y2 y3 y4 y5))
 | 0=>⟨fun _ _ _ _ r h=>by simp [comb_Vector.l0] at h,fun _ _ _ _ _ _ r h=>by simp [comb_Vector.l1] at h⟩
 | k+1=>by
  obtain ⟨ih0,ih1⟩:=comb_Vector.mono_l k
  refine ⟨?_, ?_⟩
  ·
   intro y0 y1 y2 y3
   unfold comb_Vector.l0
   repeat' with_reducible first|apply ih0|apply ih1|apply yLr|apply yLn|apply yLi|apply yLb|intro _
  intro y0 y1 y2 y3 y4 y5
  unfold comb_Vector.l1
  repeat' with_reducible first|apply ih0|apply ih1|apply yLr|apply yLn|apply yLi|apply yLb|intro _
theorem comb_Vector.mono : ∀ a0 a1 a2 k,LeO (comb_Vector.f k a0 a1 a2) (comb_Vector.f (k+1) a0 a1 a2):=by
 intro a0 a1 a2 k
 obtain ⟨ih0,ih1⟩:=comb_Vector.mono_l k
 unfold comb_Vector.f
 repeat' with_reducible first|apply ih0|apply ih1|apply yLr|apply yLn|apply yLi|apply yLb|intro _
set_option maxHeartbeats 8000000 in
set_option maxRecDepth 100000 in
theorem comb_Vector.calls (k : Nat) (a0 : Int) (a1 : Int) (a2 : Int) (r1 : List Int) (r2 : Int) (w : World) (h : comb_Vector.f k a0 a1 a2=some (r1,r2)) :
  Calls Try.prog 54 #[.int .i64 a0, .int .i64 a1, .int .u64 a2] w fun e w' => ∃ v0_ : Value,e=.returned (.tuple #[v0_, .int .i64 r2])∧Kd.R (Kd.int .i64) 3 w' w.heap.size (fun _=>True) v0_ r1∧Below w.heap.size w w' := by
 have HB:=zm (Below.refl w.heap.size w);have H:=h
 unfold comb_Vector.f at H
 clear h
 obtain ⟨az,A4,H⟩:=ybi H
 by_cases c5 : az=true
 ·
  subst c5
  rw [if_pos rfl] at H
  obtain ⟨aU,ao⟩ : ∃ y_ : List Int,y_=(([0] : List Int)):=⟨_,rfl⟩
  replace H : ((comb_table.f a0 a1).bind fun am=>(if a2 ≥ am then (some (([] : List Int),5)) else (comb_Vector.l0 k a0 a1 a2 ([] : List Int))))=some (r1,r2):=yrw ao H
  have aT:=zm ao;clear ao
  obtain ⟨am,A6,H⟩:=ybi H
  by_cases c7 : a2 ≥ am
  ·
   rw [if_pos c7] at H
   have aA:=yDl c7
   clear c7
   simp only [Option.some.injEq,Prod.mk.injEq] at H
   obtain ⟨rfl,rfl⟩:=H
   go_enter Try.func54,Try.ntmps54
   obtain ⟨Z,hz,HZs⟩:=comb_table.zsize
   obtain ⟨ia0,ib0,ic0,id0⟩:=comb_table.inn A6.out
   go_wp2_with (first|((with_reducible refine gate_callee (f:=71) rfl ?_);refine ygl 16 Try.func71 #[.int .i64 a0, .int .i64 a1] ?_;(with_reducible refine (comb_fair.calls a0 a1 true _ A4.out).mono ?_);rintro e w' ⟨rfl,⟨nd,rfl⟩⟩;refine ⟨_,rfl, ?_⟩)|((with_reducible refine gate_callee (f:=72) rfl ?_);refine goesL_ (some 18) rfl rfl Try.func72 (by kernel_rfl) rfl #[] rfl (by first|rfl|simp) ?_;(with_reducible refine (comb_table.made _).mono ?_);rintro e w5 ⟨rfl,hb5⟩;refine ⟨_,rfl, ?_⟩;have hst:=run_storeCells_new (P:=Try.prog) w5 118 Z (ABl (comb_table.T 16)) comb_table.size16 HZs.out (ABl_one _);have n1_:=zm (ze (zJ yhb hb5) (.cells (ABl (comb_table.T 16)) 118));clear HB;have HB:=n1_;clear n1_;have hbn:=zm (blk_new w5 (.cells (ABl (comb_table.T 16)) 118));have hcl0:=comb_table.look hbn.out A6.out))
   go_ret2
   exact ⟨_,ye,yn,yhb⟩
  rw [if_neg c7] at H
  have aA:=yGl c7
  clear c7
  have H' := zm H
  clear H
  go_enter Try.func54,Try.ntmps54
  obtain ⟨Z,hz,HZs⟩:=comb_table.zsize
  obtain ⟨ia0,ib0,ic0,id0⟩:=comb_table.inn A6.out
  go_wp2_with (first|((with_reducible refine gate_callee (f:=71) rfl ?_);refine ygl 16 Try.func71 #[.int .i64 a0, .int .i64 a1] ?_;(with_reducible refine (comb_fair.calls a0 a1 true _ A4.out).mono ?_);rintro e w' ⟨rfl,⟨nd,rfl⟩⟩;refine ⟨_,rfl, ?_⟩)|((with_reducible refine gate_callee (f:=72) rfl ?_);refine goesL_ (some 18) rfl rfl Try.func72 (by kernel_rfl) rfl #[] rfl (by first|rfl|simp) ?_;(with_reducible refine (comb_table.made _).mono ?_);rintro e w5 ⟨rfl,hb5⟩;refine ⟨_,rfl, ?_⟩;have hst:=run_storeCells_new (P:=Try.prog) w5 118 Z (ABl (comb_table.T 16)) comb_table.size16 HZs.out (ABl_one _);have n1_:=zm (ze (zJ yhb hb5) (.cells (ABl (comb_table.T 16)) 118));clear HB;have HB:=n1_;clear n1_;have hbn:=zm (blk_new w5 (.cells (ABl (comb_table.T 16)) 118));have hcl0:=comb_table.look hbn.out A6.out))
  have hb0:=HB.out
  obtain ⟨W0,hW0⟩ : ∃ W0,W0=w5.alloc (.cells (ABl (comb_table.T 16)) 118):=⟨_,rfl⟩
  rw [← hW0] at hb0 hbn
  rw [← hW0]
  clear hW0 HB hst hz HZs hcl0
  generalize w5.heap.size=B at hbn ⊢
  have HB:=zm (Below.refl W0.heap.size W0)
  go_loopg [0,1,2,9] k (fun kq v0 v1 v2 v9 w' => ∃ (ac : Int) (af : Int) (aj : Int) (ae : List Int),v0=.int .i64 ac∧v1=.int .i64 af∧v2=.int .u64 aj∧Aside0 (comb_Vector.l0 kq ac af aj ae=some (r1,r2))∧Aside0 (kq≤k)∧Aside0 (Kd.R (Kd.int .i64) 3 w' W0.heap.size (fun _=>True) v9 ae)∧Aside0 (Below W0.heap.size W0 w'))
  case atStart=>exact ⟨(a0),(a1),(a2),(([] : List Int)),yq,yq,yq,H',⟨Nat.le_refl _⟩,⟨yn⟩,⟨yhb⟩⟩
  case round =>
   clear H'
   try clear aA
   obtain ⟨ac,af,aj,ae,rfl,rfl,rfl,HA,HK1,ag,HB⟩:=hrel
   obtain ⟨k1,rfl⟩:=ysu gk (fun h=>by subst h;exact absurd HA.out (by simp [comb_Vector.l0]))
   have H:=HA.out;clear HA
   simp only [comb_Vector.l0] at H
   by_cases c12 : ac > 0
   ·
    rw [if_pos c12] at H
    have av:=yDs c12
    clear c12
    obtain ⟨al,A13,H⟩:=ybi H
    by_cases c14 : aj ≥ al
    ·
     rw [if_pos c14] at H
     have aw:=yDl c14
     clear c14
     obtain ⟨ax,A15,H⟩:=ybi H
     have H' := zm H
     clear H
     obtain ⟨ia0,ib0,ic0,id0⟩:=comb_table.inn A13.out
     have hcl0:=(HB.out.cell (zb W0 _ (comb_table.look hbn.out A13.out))).trans (comb_table.look hbn.out A13.out)
     obtain ⟨ia1,ib1,ic1,id1⟩:=comb_table.inn A15.out
     have hcl1:=(HB.out.cell (zb W0 _ (comb_table.look hbn.out A15.out))).trans (comb_table.look hbn.out A15.out)
     go_wp2
     go_loopg [2,10,12] k1 (fun kq v2 v10 v12 w' => ∃ (ah : Int) (aa : Int) (ai : Int),v2=.int .u64 ah∧v10=.int .i64 aa∧v12=.int .u64 ai∧Aside0 (comb_Vector.l1 kq ac af ah ae aa ai=some (r1,r2))∧Aside0 (kq≤k1)∧Aside0 (Kd.R (Kd.int .i64) 3 w' W0.heap.size (fun _=>True) u9 ae)∧Aside0 (Below W0.heap.size W0 w'))
     case atStart=>exact ⟨(IntKind.u64.wrap (aj - al)),(1),(ax),yq,yq,yq,H',⟨Nat.le_refl _⟩,⟨yr ag⟩,⟨yhb⟩⟩
     case round =>
      clear H'
      try clear av
      try clear aw
      obtain ⟨ah,aa,ai,rfl,rfl,rfl,HA,HK2,ag,HB⟩:=hrel
      obtain ⟨k2,rfl⟩:=ysu gk (fun h=>by subst h;exact absurd HA.out (by simp [comb_Vector.l1]))
      have H:=HA.out;clear HA
      simp only [comb_Vector.l1] at H
      by_cases c16 : ah ≥ (IntKind.u64.wrap (2 * ai))
      ·
       rw [if_pos c16] at H
       have aC:=yDl c16
       clear c16
       obtain ⟨ay,A17,H⟩:=ybi H
       have H' := zm H
       clear H
       obtain ⟨ia2,ib2,ic2,id2⟩:=comb_table.inn A17.out
       have hcl2:=(HB.out.cell (zb W0 _ (comb_table.look hbn.out A17.out))).trans (comb_table.look hbn.out A17.out)
       go_wp2
       go_roundg k2
       case measure=>exact yom2 HK1 HK2
       case rel=>exact ⟨(IntKind.u64.wrap (ah - (IntKind.u64.wrap (2 * ai)))),(wrap64 (aa+1)),(ay),yq,yq,yq,H',⟨yom2 HK1 HK2⟩,⟨yr ag⟩,⟨yhb⟩⟩
      rw [if_neg c16] at H
      have aC:=yGl c16
      clear c16
      obtain ⟨ak,A18,H⟩:=ybi H
      by_cases c19 : ah ≥ ak
      ·
       rw [if_pos c19] at H
       have aD:=yDl c19
       clear c19
       obtain ⟨c20,H⟩:=yif H
       have LMc20:=zm c20;clear c20
       obtain ⟨aE,ap⟩ : ∃ y_ : List Int,y_=(ae ++ [wrap64 (-aa)]):=⟨_,rfl⟩
       replace H : (comb_Vector.l0 k2 (wrap64 (ac - 1)) (wrap64 (af - aa)) (IntKind.u64.wrap (ah - ak)) aE)=some (r1,r2):=yrw ap H
       have aG:=zm ap;clear ap
       have H' := zm H
       clear H
       obtain ⟨ia3,ib3,ic3,id3⟩:=comb_table.inn A18.out
       have hcl3:=(HB.out.cell (zb W0 _ (comb_table.look hbn.out A18.out))).trans (comb_table.look hbn.out A18.out)
       go_wp2_with (first|((with_reducible refine gate_builtin (b:=.append) (xs := #[.tmp 85, .tmp 87]) rfl ?_);at_builtin;refine Kd.R_append (Kd.int .i64) (w0:=W0) W0.heap.size rfl (.tmp 85) (.tmp 87) 49 3 (.int .i64 0) 8 rfl Try.underlying49 info3 rfl (by decide) (by omega) u9 ae (wrap64 (-aa)) [.int .i64 (wrap64 (-aa))] (fun _=>True) (fun _=>False) rfl rfl ?aP (fun _ hk=>hk.elim) ?aF ?aO ?aB ?aS ?aL ?_;(case aP=>exact rfl);(case aB=>exact yhb);(case aF=>exact (fun _ _=>trivial));(case aO=>exact (yr ag));(case aS=>exact (zE yhb));(case aL=>have:=LMc20.out;omega);intro aV w21 ho hb hg hat;rw [← aG.out] at ho;replace HB:=zm (hb);have aH:=zm (ho);clear ag;clear ho hb hg hat))
       go_roundg k2
       case measure=>exact yom2 HK1 HK2
       case rel=>exact ⟨(wrap64 (ac - 1)),(wrap64 (af - aa)),(IntKind.u64.wrap (ah - ak)),(aE),yq,yq,yq,H',⟨yom2 HK1 HK2⟩,⟨yr aH⟩,⟨yhb⟩⟩
      rw [if_neg c19] at H
      have aD:=yGl c19
      clear c19
      obtain ⟨c22,H⟩:=yif H
      have LMc22:=zm c22;clear c22
      obtain ⟨aI,aq⟩ : ∃ y_ : List Int,y_=(ae ++ [aa]):=⟨_,rfl⟩
      replace H : (comb_Vector.l0 k2 (wrap64 (ac - 1)) (wrap64 (af - aa)) ah aI)=some (r1,r2):=yrw aq H
      have aJ:=zm aq;clear aq
      have H' := zm H
      clear H
      obtain ⟨ia4,ib4,ic4,id4⟩:=comb_table.inn A18.out
      have hcl4:=(HB.out.cell (zb W0 _ (comb_table.look hbn.out A18.out))).trans (comb_table.look hbn.out A18.out)
      go_wp2_with (first|((with_reducible refine gate_builtin (b:=.append) (xs := #[.tmp 85, .tmp 87]) rfl ?_);at_builtin;refine Kd.R_append (Kd.int .i64) (w0:=W0) W0.heap.size rfl (.tmp 85) (.tmp 87) 49 3 (.int .i64 0) 8 rfl Try.underlying49 info3 rfl (by decide) (by omega) u9 ae aa [.int .i64 aa] (fun _=>True) (fun _=>False) rfl rfl ?aP (fun _ hk=>hk.elim) ?aF ?aO ?aB ?aS ?aL ?_;(case aP=>exact rfl);(case aB=>exact yhb);(case aF=>exact (fun _ _=>trivial));(case aO=>exact (yr ag));(case aS=>exact (zE yhb));(case aL=>have:=LMc22.out;omega);intro aW w23 ho hb hg hat;rw [← aJ.out] at ho;replace HB:=zm (hb);have aK:=zm (ho);clear ag;clear ho hb hg hat))
      go_roundg k2
      case measure=>exact yom2 HK1 HK2
      case rel=>exact ⟨(wrap64 (ac - 1)),(wrap64 (af - aa)),(ah),(aI),yq,yq,yq,H',⟨yom2 HK1 HK2⟩,⟨yr aK⟩,⟨yhb⟩⟩
    rw [if_neg c14] at H
    have aw:=yGl c14
    clear c14
    obtain ⟨c24,H⟩:=yif H
    have LMc24:=zm c24;clear c24
    obtain ⟨aM,au⟩ : ∃ y_ : List Int,y_=(ae ++ [0]):=⟨_,rfl⟩
    replace H : (comb_Vector.l0 k1 (wrap64 (ac - 1)) af aj aM)=some (r1,r2):=yrw au H
    have aN:=zm au;clear au
    have H' := zm H
    clear H
    obtain ⟨ia5,ib5,ic5,id5⟩:=comb_table.inn A13.out
    have hcl5:=(HB.out.cell (zb W0 _ (comb_table.look hbn.out A13.out))).trans (comb_table.look hbn.out A13.out)
    go_wp2_with (first|((with_reducible refine gate_builtin (b:=.append) (xs := #[.tmp 85, .tmp 87]) rfl ?_);at_builtin;refine Kd.R_append (Kd.int .i64) (w0:=W0) W0.heap.size rfl (.tmp 85) (.tmp 87) 49 3 (.int .i64 0) 8 rfl Try.underlying49 info3 rfl (by decide) (by omega) u9 ae 0 [.int .i64 0] (fun _=>True) (fun _=>False) rfl rfl ?aP (fun _ hk=>hk.elim) ?aF ?aO ?aB ?aS ?aL ?_;(case aP=>exact rfl);(case aB=>exact yhb);(case aF=>exact (fun _ _=>trivial));(case aO=>exact (yr ag));(case aS=>exact (zE yhb));(case aL=>have:=LMc24.out;omega);intro aX w25 ho hb hg hat;rw [← aN.out] at ho;replace HB:=zm (hb);have aQ:=zm (ho);clear ag;clear ho hb hg hat))
    go_roundg k1
    case measure=>exact yom1 HK1
    case rel=>exact ⟨(wrap64 (ac - 1)),(af),(aj),(aM),yq,yq,yq,H',⟨yom1 HK1⟩,⟨yr aQ⟩,⟨yhb⟩⟩
   rw [if_neg c12] at H
   have av:=yGs c12
   clear c12
   simp only [Option.some.injEq,Prod.mk.injEq] at H
   obtain ⟨rfl,rfl⟩:=H
   go_wp2
   go_ret2
   exact ⟨_,ye,Kd.R_lower (yr ag) (zE hb0),zJ hb0 yhb⟩
 replace c5:=Bool.eq_false_iff.mpr c5
 subst c5
 rw [ynf] at H
 simp only [Option.some.injEq,Prod.mk.injEq] at H
 obtain ⟨rfl,rfl⟩:=H
 go_enter Try.func54,Try.ntmps54
 go_wp2_with (first|((with_reducible refine gate_callee (f:=71) rfl ?_);refine ygl 16 Try.func71 #[.int .i64 a0, .int .i64 a1] ?_;(with_reducible refine (comb_fair.calls a0 a1 false _ A4.out).mono ?_);rintro e w' ⟨rfl,⟨nd,rfl⟩⟩;refine ⟨_,rfl, ?_⟩))
 go_ret2
 exact ⟨_,ye,yn,yhb⟩
def gain_take.f (k : Nat) (al : Int) (am : Int) (ag : List Int) (ao : Int) (a1 : Int) (a2 : Bool) : Option (Int × Int × List Int × Int × Int):=if a2=true then ((coder_TakeNum.f k al am ag ao 45).bind fun aA=>(some (aA.1,aA.2.1,aA.2.2.1,aA.2.2.2.1,wrap64 (aA.2.2.2.2.1)))) else ((coder_Get.f al am ag ao 8).bind fun aH=>((coder_Take.f k al am ag ao aH.1 (wrap64 (aH.1+1)) 8).bind fun au=>(if aH.1=7 then ((coder_TakeNum.f k au.1 au.2.1 au.2.2.1 au.2.2.2.1 45).bind fun aC=>(some (aC.1,aC.2.1,aC.2.2.1,aC.2.2.2.1,wrap64 (aC.2.2.2.2.1)))) else (some (au.1,au.2.1,au.2.2.1,au.2.2.2.1,mx 0 (mn (wrap64 ((wrap64 (a1+aH.1)) - 3)) 44))))))
theorem gain_take.mono : ∀ a0 a1 a2 a3 a4 a5 k,LeO (gain_take.f k a0 a1 a2 a3 a4 a5) (gain_take.f (k+1) a0 a1 a2 a3 a4 a5):=by
 intro a0 a1 a2 a3 a4 a5 k
 unfold gain_take.f
 repeat' with_reducible first|apply coder_Take.mono|apply coder_TakeNum.mono|apply yLr|apply yLn|apply yLi|apply yLb|intro _
set_option maxHeartbeats 8000000 in
set_option maxRecDepth 100000 in
theorem gain_take.calls (k : Nat) (al : Int) (am : Int) (ai : Nat→Prop) (av : Option Addr) (aw : Nat) (ag : List Int) (ao : Int) (a1 : Int) (a2 : Bool) (r1 : Int) (r2 : Int) (r3 : List Int) (r4 : Int) (r5 : Int) (w : World) (bd : Kd.V (Kd.int .u8) 5 w w.heap.size (fun k_=>ai k_) (.slice av ag.length aw) ag) (h : gain_take.f k al am ag ao a1 a2=some (r1,r2,r3,r4,r5)) :
  Calls Try.prog 88 #[.agg #[.int .u64 al, .int .u32 am, .slice av ag.length aw, .int .i64 ao], .int .i64 a1, .bool a2] w fun e w' => ∃ v2_ : Value,e=.returned (.tuple #[.agg #[.int .u64 r1, .int .u32 r2,v2_, .int .i64 r4], .int .i64 r5])∧Kd.V (Kd.int .u8) 5 w' w.heap.size (fun k_=>(ai k_∨w.heap.size≤k_)) v2_ r3∧Below w.heap.size w w' := by
 have hu82:=Try.underlying82
 have ac:=zm (show Kd.V (Kd.int .u8) 5 w w.heap.size (fun k_=>(ai k_∨w.heap.size≤k_)) (.slice av ag.length aw) ag from zy bd (fun k_ hk => .inl hk))
 have HB:=zm (Below.refl w.heap.size w);have H:=h
 unfold gain_take.f at H
 clear h
 by_cases c4 : a2=true
 ·
  subst c4
  rw [if_pos rfl] at H
  obtain ⟨⟨bf,bg,bh,bi,bu,bv⟩,A5,H⟩:=ybi H
  try dsimp only at H
  simp only [Option.some.injEq,Prod.mk.injEq] at H
  obtain ⟨rfl,rfl,rfl,rfl,rfl⟩:=H
  go_enter Try.func88,Try.ntmps88
  go_wp2_with (first|((with_reducible refine gate_dst (N:=3) rfl ?_);refine ybx 3 #[.int .u64 al, .int .u32 am, .slice av ag.length aw, .int .i64 ao] 82 ?_;intro af hg w6 hbox hb;replace ac:=yVe ac hg hb;have aa:=zm (hbox);have a9:=ygw hg;have ba:=ygw hg;replace HB:=ybs hb;clear hb hbox hg)|((with_reducible refine gate_dst (N:=6) rfl ?_);refine ybx 6 #[.int .u64 0, .int .u32 0, .slice none 0 0, .int .i64 0] 82 ?_;intro ah hg w7 hbox hb;replace ac:=yVe ac hg hb;have ae:=zm (hbox);have bb:=ygw hg;have bc:=ygw hg;replace HB:=ybs hb;have aj:=ynl aa hg;have ak:=yng aa hg;replace aa:=ybb aa hb;clear hb hbox hg;have:=aj.out;have:=ak.out;obtain ⟨_,_,_,_,_,_,_,_⟩:=yc4 aa)|((with_reducible refine gate_callee (f:=53) rfl ?_);refine ygl 39 Try.func53 #[.agg #[.int .u64 al, .int .u32 am, .slice av ag.length aw, .int .i64 ao], .int .u64 45] ?_;(with_reducible refine (coder_TakeNum.calls k al am (fun k_=>(((ai k_∨w.heap.size≤k_)∧k_≠af)∧k_≠ah)) _ _ ag ao 45 bf bg bh bi bu bv _ ac.out A5.out).mono ?_);rintro e w10 ⟨bT,rfl,ho0,hb⟩;refine ⟨_,rfl, ?_⟩;replace ac:=yVb ac hb;have aI:=yho (fun k_=>(ai k_∨w.heap.size≤k_)∧k_≠af∧k_≠ah) ho0 (fun k_ hk_=>⟨Or.elim hk_ (fun hs_=>hs_.1.1) (fun hn_=>(.inr (Nat.le_trans (zE yhb) hn_))),yoB aa hk_,yoB ae hk_⟩);replace aa:=ybb aa hb;replace ae:=ybb ae hb;replace HB:=ybs hb;(try clear hb);(try clear ho0))|((with_reducible refine gate_dst (N:=10) rfl ?_);refine ybx 10 #[.int .u64 0, .int .u32 0, .slice none 0 0, .int .i64 0] 82 ?_;intro bN hg w11 hbox hb;replace ac:=yVe ac hg hb;replace aI:=yVe aI hg hb;have bj:=zm (hbox);have bO:=ygw hg;have bP:=ygw hg;replace HB:=ybs hb;have aK:=ynl aa hg;have aM:=yng aa hg;replace aa:=ybb aa hb;have aN:=ynl ae hg;have aQ:=yng ae hg;replace ae:=ybb ae hb;clear hb hbox hg;have:=aM.out;have:=aK.out;have:=aQ.out;have:=aN.out;obtain ⟨_,_,_,_,_,_,_,_⟩:=yc4 bj;obtain ⟨bw,bx,bz⟩:=Kd.V_slice aI.out;subst bz;obtain ⟨_,_,_,_,_,_,_,_⟩:=yc4 ae))
  refine bodyPost_ret (results_ct rfl _ _ ah 82 #[.int .u64 bf, .int .u32 bg, .slice bw bh.length bx, .int .i64 bi] (0,0) _ rfl (ykp ae) Try.underlying82 rfl (by kernel_rfl)) rfl ?_
  exact ⟨_,ye,yV0 aI,yhb⟩
 replace c4:=Bool.eq_false_iff.mpr c4
 subst c4
 rw [ynf] at H
 obtain ⟨⟨aq,bk⟩,A17,H⟩:=ybi H
 try dsimp only at H
 obtain ⟨⟨aD,aE,az,aG,bl⟩,A18,H⟩:=ybi H
 try dsimp only at H
 by_cases c19 : aq=7
 ·
  rw [if_pos c19] at H
  obtain ⟨bm,bn⟩:=yE c19
  clear c19
  obtain ⟨⟨bo,bp,bq,br,bA,bB⟩,A20,H⟩:=ybi H
  try dsimp only at H
  simp only [Option.some.injEq,Prod.mk.injEq] at H
  obtain ⟨rfl,rfl,rfl,rfl,rfl⟩:=H
  go_enter Try.func88,Try.ntmps88
  go_wp2_with (first|((with_reducible refine gate_dst (N:=3) rfl ?_);refine ybx 3 #[.int .u64 al, .int .u32 am, .slice av ag.length aw, .int .i64 ao] 82 ?_;intro af hg w21 hbox hb;replace ac:=yVe ac hg hb;have aa:=zm (hbox);have a9:=ygw hg;have ba:=ygw hg;replace HB:=ybs hb;clear hb hbox hg)|((with_reducible refine gate_dst (N:=6) rfl ?_);refine ybx 6 #[.int .u64 0, .int .u32 0, .slice none 0 0, .int .i64 0] 82 ?_;intro ah hg w22 hbox hb;replace ac:=yVe ac hg hb;have ae:=zm (hbox);have bb:=ygw hg;have bc:=ygw hg;replace HB:=ybs hb;have aj:=ynl aa hg;have ak:=yng aa hg;replace aa:=ybb aa hb;clear hb hbox hg;have:=aj.out;have:=ak.out;obtain ⟨_,_,_,_,_,_,_,_⟩:=yc4 aa)|((with_reducible refine gate_callee (f:=50) rfl ?_);refine ygl 17 Try.func50 #[.agg #[.int .u64 al, .int .u32 am, .slice av ag.length aw, .int .i64 ao], .int .i64 8] ?_;(with_reducible refine (coder_Get.calls al am _ _ ag ao 8 aq bk _ ?aY ?aZ A17.out).mono ?_);(case aY=>exact yce (Kd.V_reads' ac.out).2.2);(case aZ=>exact (Kd.V_reads' ac.out).2.1);rintro e w25 ⟨rfl,hb⟩;refine ⟨_,rfl, ?_⟩;replace ac:=yVb ac hb;replace aa:=ybb aa hb;replace ae:=ybb ae hb;replace HB:=ybs hb;(try clear hb);obtain ⟨_,_,_,_,_,_,_,_⟩:=yc4 aa)|((with_reducible refine gate_callee (f:=51) rfl ?_);refine ygl 25 Try.func51 #[.agg #[.int .u64 al, .int .u32 am, .slice av ag.length aw, .int .i64 ao], .int .i64 aq, .int .i64 (wrap64 (aq+1)), .int .i64 8] ?_;(with_reducible refine (coder_Take.calls k al am (fun k_=>(((ai k_∨w.heap.size≤k_)∧k_≠af)∧k_≠ah)) _ _ ag ao aq (wrap64 (aq+1)) 8 aD aE az aG bl _ ac.out A18.out).mono ?_);rintro e w27 ⟨bC,rfl,ho0,hb⟩;refine ⟨_,rfl, ?_⟩;replace ac:=yVb ac hb;have ap:=yho (fun k_=>(ai k_∨w.heap.size≤k_)∧k_≠af∧k_≠ah) ho0 (fun k_ hk_=>⟨Or.elim hk_ (fun hs_=>hs_.1.1) (fun hn_=>(.inr (Nat.le_trans (zE yhb) hn_))),yoB aa hk_,yoB ae hk_⟩);replace aa:=ybb aa hb;replace ae:=ybb ae hb;replace HB:=ybs hb;(try clear hb);(try clear ho0);obtain ⟨_,_,_,_,_,_,_,_⟩:=yc4 aa;obtain ⟨a7,a8,bD⟩:=Kd.V_slice ap.out;subst bD)|((with_reducible refine gate_store (t:=82) (p:=3) rfl ?_);refine store_event (t:=82) (p:=3) (v := ?vo_w30) (w1:=((((w27.setCell ⟨af,0,none⟩ (.int .u64 aD)).setCell ⟨af,1,none⟩ (.int .u32 aE)).setCell ⟨af,2,none⟩ (.slice a7 az.length a8)).setCell ⟨af,3,none⟩ (.int .i64 aG))) ?hg ?ho ?hn ?hr ?_;(case ho=>rfl);(case hg=>rfl);(case hn=>rfl);(case hr=>first|(go_simp;done)|(go_simp;rfl));intro w30 hw;replace ac : Aside0 (Kd.V (Kd.int .u8) 5 w30 w.heap.size (fun k_=>(ai k_∨w.heap.size≤k_)∧k_≠af∧k_≠ah) (.slice av ag.length aw) ag):=⟨(by rw [hw];exact (yV0 ac))⟩;replace ap : Aside0 (Kd.V (Kd.int .u8) 5 w30 w.heap.size (fun k_=>(ai k_∨w.heap.size≤k_)∧k_≠af∧k_≠ah) (.slice a7 az.length a8) az):=⟨(by rw [hw];exact (yV0 ap))⟩;replace aa : Aside0 (w30.heap[af]? = some (.cells #[.int .u64 aD, .int .u32 aE, .slice a7 az.length a8, .int .i64 aG] 82 (0,0))):=⟨(by rw [hw];exact (ykp aa))⟩;replace ae : Aside0 (w30.heap[ah]? = some (.cells #[.int .u64 0, .int .u32 0, .slice none 0 0, .int .i64 0] 82 (0,0))):=⟨(by rw [hw];exact (yk ae))⟩;replace HB : Aside0 (Below w.heap.size w w30):=⟨(by rw [hw];exact yhb)⟩;clear hw;obtain ⟨_,_,_,_,_,_,_,_⟩:=yc4 aa)|((with_reducible refine gate_callee (f:=53) rfl ?_);refine ygl 39 Try.func53 #[.agg #[.int .u64 aD, .int .u32 aE, .slice a7 az.length a8, .int .i64 aG], .int .u64 45] ?_;(with_reducible refine (coder_TakeNum.calls k aD aE (fun k_=>((ai k_∨w.heap.size≤k_)∧(k_≠af∧k_≠ah))) _ _ az aG 45 bo bp bq br bA bB _ ap.out A20.out).mono ?_);rintro e w32 ⟨bU,rfl,ho0,hb⟩;refine ⟨_,rfl, ?_⟩;replace ac:=yVb ac hb;replace ap:=yVb ap hb;have aJ:=yho (fun k_=>(ai k_∨w.heap.size≤k_)∧k_≠af∧k_≠ah) ho0 (fun k_ hk_=>⟨Or.elim hk_ (fun hs_=>hs_.1) (fun hn_=>(.inr (Nat.le_trans (zE yhb) hn_))),yoB aa hk_,yoB ae hk_⟩);replace aa:=ybb aa hb;replace ae:=ybb ae hb;replace HB:=ybs hb;(try clear hb);(try clear ho0))|((with_reducible refine gate_dst (N:=10) rfl ?_);refine ybx 10 #[.int .u64 0, .int .u32 0, .slice none 0 0, .int .i64 0] 82 ?_;intro bQ hg w33 hbox hb;replace ac:=yVe ac hg hb;replace ap:=yVe ap hg hb;replace aJ:=yVe aJ hg hb;have bs:=zm (hbox);have bR:=ygw hg;have bS:=ygw hg;replace HB:=ybs hb;have aT:=ynl aa hg;have aU:=yng aa hg;replace aa:=ybb aa hb;have aV:=ynl ae hg;have aW:=yng ae hg;replace ae:=ybb ae hb;clear hb hbox hg;have:=aU.out;have:=aT.out;have:=aW.out;have:=aV.out;obtain ⟨_,_,_,_,_,_,_,_⟩:=yc4 bs;obtain ⟨bE,bF,bG⟩:=Kd.V_slice aJ.out;subst bG;obtain ⟨_,_,_,_,_,_,_,_⟩:=yc4 ae))
  refine bodyPost_ret (results_ct rfl _ _ ah 82 #[.int .u64 bo, .int .u32 bp, .slice bE bq.length bF, .int .i64 br] (0,0) _ rfl (ykp ae) Try.underlying82 rfl (by kernel_rfl)) rfl ?_
  exact ⟨_,ye,yV0 aJ,yhb⟩
 rw [if_neg c19] at H
 obtain ⟨bm,bn⟩:=yF c19
 obtain ⟨aX,ax⟩ : ∃ j_ : Int,(mn (wrap64 ((wrap64 (a1+aq)) - 3)) 44)=j_:=⟨_,rfl⟩
 (first|rw [ax] at H|simp only [ax] at H)
 (try rw [ax] at A17)
 (try rw [ax] at A18)
 (try (have hji39h : aX≤44:=by (rw [← ax];unfold mn;(repeat' split) <;> omega)))
 (try (have hji39g : aX≤64:=by omega))
 have bH : (if 44 < (wrap64 ((wrap64 (a1+aq)) - 3)) then 44 else (wrap64 ((wrap64 (a1+aq)) - 3)))=aX:=ax
 obtain ⟨bI,ay⟩ : ∃ j_ : Int,(mx 0 (aX))=j_:=⟨_,rfl⟩
 (first|rw [ay] at H|simp only [ay] at H)
 (try rw [ay] at A17)
 (try rw [ay] at A18)
 have bJ : (if 0 < (aX) then (aX) else 0)=bI:=ay
 simp only [Option.some.injEq,Prod.mk.injEq] at H
 obtain ⟨rfl,rfl,rfl,rfl,rfl⟩:=H
 go_enter Try.func88,Try.ntmps88
 go_wp2_with (first|((with_reducible refine gate_dst (N:=3) rfl ?_);refine ybx 3 #[.int .u64 al, .int .u32 am, .slice av ag.length aw, .int .i64 ao] 82 ?_;intro af hg w41 hbox hb;replace ac:=yVe ac hg hb;have aa:=zm (hbox);have a9:=ygw hg;have ba:=ygw hg;replace HB:=ybs hb;clear hb hbox hg)|((with_reducible refine gate_dst (N:=6) rfl ?_);refine ybx 6 #[.int .u64 0, .int .u32 0, .slice none 0 0, .int .i64 0] 82 ?_;intro ah hg w42 hbox hb;replace ac:=yVe ac hg hb;have ae:=zm (hbox);have bb:=ygw hg;have bc:=ygw hg;replace HB:=ybs hb;have aj:=ynl aa hg;have ak:=yng aa hg;replace aa:=ybb aa hb;clear hb hbox hg;have:=aj.out;have:=ak.out;obtain ⟨_,_,_,_,_,_,_,_⟩:=yc4 aa)|((with_reducible refine gate_callee (f:=50) rfl ?_);refine ygl 17 Try.func50 #[.agg #[.int .u64 al, .int .u32 am, .slice av ag.length aw, .int .i64 ao], .int .i64 8] ?_;(with_reducible refine (coder_Get.calls al am _ _ ag ao 8 aq bk _ ?aY ?aZ A17.out).mono ?_);(case aY=>exact yce (Kd.V_reads' ac.out).2.2);(case aZ=>exact (Kd.V_reads' ac.out).2.1);rintro e w45 ⟨rfl,hb⟩;refine ⟨_,rfl, ?_⟩;replace ac:=yVb ac hb;replace aa:=ybb aa hb;replace ae:=ybb ae hb;replace HB:=ybs hb;(try clear hb);obtain ⟨_,_,_,_,_,_,_,_⟩:=yc4 aa)|((with_reducible refine gate_callee (f:=51) rfl ?_);refine ygl 25 Try.func51 #[.agg #[.int .u64 al, .int .u32 am, .slice av ag.length aw, .int .i64 ao], .int .i64 aq, .int .i64 (wrap64 (aq+1)), .int .i64 8] ?_;(with_reducible refine (coder_Take.calls k al am (fun k_=>(((ai k_∨w.heap.size≤k_)∧k_≠af)∧k_≠ah)) _ _ ag ao aq (wrap64 (aq+1)) 8 aD aE az aG bl _ ac.out A18.out).mono ?_);rintro e w47 ⟨bC,rfl,ho0,hb⟩;refine ⟨_,rfl, ?_⟩;replace ac:=yVb ac hb;have ap:=yho (fun k_=>(ai k_∨w.heap.size≤k_)∧k_≠af∧k_≠ah) ho0 (fun k_ hk_=>⟨Or.elim hk_ (fun hs_=>hs_.1.1) (fun hn_=>(.inr (Nat.le_trans (zE yhb) hn_))),yoB aa hk_,yoB ae hk_⟩);replace aa:=ybb aa hb;replace ae:=ybb ae hb;replace HB:=ybs hb;(try clear hb);(try clear ho0);obtain ⟨_,_,_,_,_,_,_,_⟩:=yc4 aa;obtain ⟨bK,bL,bM⟩:=Kd.V_slice ap.out;subst bM;obtain ⟨_,_,_,_,_,_,_,_⟩:=yc4 ae))
 refine bodyPost_ret (results_ct rfl _ _ ah 82 #[.int .u64 aD, .int .u32 aE, .slice bK az.length bL, .int .i64 aG] (0,0) _ rfl (ykp ae) Try.underlying82 rfl (by kernel_rfl)) rfl ?_
 exact ⟨_,by first|rfl|(simp [errW_none,errW_some] <;> rfl)|(simp only [← ax, ← ay];first|rfl|(simp [errW_none,errW_some] <;> rfl))|(simp [*,errW_none,errW_some] <;> rfl),yV0 ap,yhb⟩
mutual
def gain_Take.j0 : Nat→List Int→Bool→Bool→Int→Int→List Int→Int→Option (Int × Int × List Int × Int × List Int × Int)
 | 0,_,_,_,_,_,_,_=>none
 | k+1,x1,x2,x20,aH,aI,aJ,aK=>if x20=true then ((coder_Take.f k aH aI aJ aK 0 1 1).bind fun a9=>(some (a9.1,a9.2.1,a9.2.2.1,a9.2.2.2.1,([] : List Int),1))) else (gain_Take.l0 k x1 x2 ([] : List Int) 0 aH aI aJ aK)
def gain_Take.l0 : Nat→List Int→Bool→List Int→Int→Int→Int→List Int→Int→Option (Int × Int × List Int × Int × List Int × Int)
 | 0,_,_,_,_,_,_,_,_=>none
 | k+1,x1,x2,x9,x27,aH,aI,aJ,aK=>if x27 < 5 then (if x2=true then ((gain_take.f k aH aI aJ aK 0 x2).bind fun aY=>(if x9.length < 17592186044416 then (gain_Take.l0 k x1 x2 (x9 ++ [aY.2.2.2.2]) (wrap64 (x27+1)) aY.1 aY.2.1 aY.2.2.1 aY.2.2.2.1) else (none))) else (if 0≤x27 then (if x27 < (x1.length : Int) then ((gain_take.f k aH aI aJ aK (rd x1 x27) x2).bind fun aZ=>(if x9.length < 17592186044416 then (gain_Take.l0 k x1 x2 (x9 ++ [aZ.2.2.2.2]) (wrap64 (x27+1)) aZ.1 aZ.2.1 aZ.2.2.1 aZ.2.2.2.1) else (none))) else (none)) else (none))) else (some (aH,aI,aJ,aK,x9,0))
end
def gain_Take.f (k : Nat) (aM : Int) (aN : Int) (aD : List Int) (aQ : Int) (l1 : List Int) (a2 : Bool) : Option (Int × Int × List Int × Int × List Int × Int):=if a2=true then (gain_Take.j0 k l1 a2 false aM aN aD aQ) else ((gain_Right.f k l1).bind fun bu=>(gain_Take.j0 k l1 a2 (!bu) aM aN aD aQ))
theorem gain_Take.mono_l : ∀ k,(∀ y0 y1 y2 y3 y4 y5 y6,LeO (gain_Take.j0 k y0 y1 y2 y3 y4 y5 y6) (gain_Take.j0 (k+1) y0 y1 y2 y3 y4 y5 y6))∧(∀ y0 y1 y2 y3 y4 y5 y6 y7,LeO (gain_Take.l0 k y0 y1 y2 y3 y4 y5 y6 y7) (gain_Take.l0 (k+1) y0 y1 y2 y3 y4 y5 y6 y7))
 | 0=>⟨fun _ _ _ _ _ _ _ r h=>by simp [gain_Take.j0] at h,fun _ _ _ _ _ _ _ _ r h=>by simp [gain_Take.l0] at h⟩
 | k+1=>by
  obtain ⟨ih0,ih1⟩:=gain_Take.mono_l k
  refine ⟨?_, ?_⟩
  ·
   intro y0 y1 y2 y3 y4 y5 y6
   unfold gain_Take.j0
   repeat' with_reducible first|apply ih0|apply ih1|apply coder_Take.mono|apply gain_Right.mono|apply gain_take.mono|apply yLr|apply yLn|apply yLi|apply yLb|intro _
  intro y0 y1 y2 y3 y4 y5 y6 y7
  unfold gain_Take.l0
  repeat' with_reducible first|apply ih0|apply ih1|apply coder_Take.mono|apply gain_Right.mono|apply gain_take.mono|apply yLr|apply yLn|apply yLi|apply yLb|intro _
theorem gain_Take.mono : ∀ a0 a1 a2 a3 a4 a5 k,LeO (gain_Take.f k a0 a1 a2 a3 a4 a5) (gain_Take.f (k+1) a0 a1 a2 a3 a4 a5):=by
 intro a0 a1 a2 a3 a4 a5 k
 obtain ⟨ih0,ih1⟩:=gain_Take.mono_l k
 unfold gain_Take.f
 repeat' with_reducible first|apply ih0|apply ih1|apply coder_Take.mono|apply gain_Right.mono|apply gain_take.mono|apply yLr|apply yLn|apply yLi|apply yLb|intro _
set_option maxHeartbeats 8000000 in
set_option maxRecDepth 100000 in
theorem gain_Take.calls (k : Nat) (aM : Int) (aN : Int) (ap : Nat→Prop) (a7 : Option Addr) (a8 : Nat) (aD : List Int) (aQ : Int) (A1 : Option Addr) (c1 : Nat) (l1 : List Int) (a2 : Bool) (r1 : Int) (r2 : Int) (r3 : List Int) (r4 : Int) (r5 : List Int) (r6 : Int) (w : World) (b7 : Kd.V (Kd.int .u8) 5 w w.heap.size (fun k_=>ap k_) (.slice a7 aD.length a8) aD) (hr1 : Kd.C (Kd.int .i64) w A1 l1.length l1) (hc1 : l1.length≤c1) (h : gain_Take.f k aM aN aD aQ l1 a2=some (r1,r2,r3,r4,r5,r6)) :
  Calls Try.prog 52 #[.agg #[.int .u64 aM, .int .u32 aN, .slice a7 aD.length a8, .int .i64 aQ], .slice A1 l1.length c1, .bool a2] w fun e w' => ∃ v2_ v4_ : Value,e=.returned (.tuple #[.agg #[.int .u64 r1, .int .u32 r2,v2_, .int .i64 r4],v4_, .int .i64 r6])∧Kd.V (Kd.int .u8) 5 w' w.heap.size (fun k_=>(ap k_∨w.heap.size≤k_)∧some k_≠(v4_ : Value).ownBlock) v2_ r3∧Kd.R (Kd.int .i64) 3 w' w.heap.size (fun k_=>(w.heap.size≤k_)) v4_ r5∧Below w.heap.size w w' := by
 have hu82:=Try.underlying82
 have aT:=zm (show Kd.V (Kd.int .u8) 5 w w.heap.size (fun k_=>(ap k_∨w.heap.size≤k_)) (.slice a7 aD.length a8) aD from zy b7 (fun k_ hk => .inl hk))
 have HR1:=zm hr1;have HC1:=zm hc1;clear hr1 hc1;have HB:=zm (Below.refl w.heap.size w);have H:=h
 unfold gain_Take.f at H
 clear h;have HC4:=zm H;clear H
 go_enter Try.func52,Try.ntmps52
 go_upto_region 1 with (first|((with_reducible refine gate_dst (N:=3) rfl ?_);refine ybx 3 #[.int .u64 aM, .int .u32 aN, .slice a7 aD.length a8, .int .i64 aQ] 82 ?_;intro al hg w5 hbox hb;replace aT:=yVe aT hg hb;have ac:=zm (hbox);have cz:=ygw hg;have cA:=ygw hg;replace HB:=ybs hb;clear hb hbox hg)|((with_reducible refine gate_dst (N:=6) rfl ?_);refine ybx 6 #[.int .u64 0, .int .u32 0, .slice none 0 0, .int .i64 0] 82 ?_;intro am hg w6 hbox hb;replace aT:=yVe aT hg hb;have ae:=zm (hbox);have cB:=ygw hg;have cC:=ygw hg;replace HB:=ybs hb;have ag:=ynl ac hg;have ah:=yng ac hg;replace ac:=ybb ac hb;clear hb hbox hg))
 (try simp only [Act.put,List.setIfInBounds_toArray,List.set_cons_zero,List.set_cons_succ])
 go_cut [20] (fun v20 wc => ∃ (kq : Nat) (ba : Bool),v20=.bool ba∧Aside0 (gain_Take.j0 kq l1 a2 ba aM aN aD aQ=some (r1,r2,r3,r4,r5,r6))∧Aside0 (kq≤k)∧Aside0 (Kd.V (Kd.int .u8) 5 wc w.heap.size (fun k_=>(ap k_∨w.heap.size≤k_)∧k_≠al∧k_≠am) (.slice a7 aD.length a8) aD)∧Aside0 (wc.heap[al]? = some (.cells #[.int .u64 aM, .int .u32 aN,(.slice a7 aD.length a8), .int .i64 aQ] 82 (0,0)))∧Aside0 (wc.heap[am]? = some (.cells #[.int .u64 0, .int .u32 0,(.slice none 0 0), .int .i64 0] 82 (0,0)))∧Aside0 (Below w.heap.size w wc))
 case first =>
  have H:=HC4.out;clear HC4
  by_cases c7 : a2=true
  ·
   subst c7
   rw [if_pos rfl] at H
   have H' := zm H
   clear H
   go_wp2
   go_meet
   case rel=>exact ⟨_,(false),yq,H',⟨yo⟩,⟨yV0 aT⟩,⟨yk ac⟩,⟨yk ae⟩,⟨yhb⟩⟩
  replace c7:=Bool.eq_false_iff.mpr c7
  subst c7
  rw [ynf] at H
  obtain ⟨bu,A8,H⟩:=ybi H
  have H' := zm H
  clear H
  go_wp2_with (first|(go_at_call 62;(with_reducible refine (gain_Right.calls k _ _ l1 bu _ ?b8 HC1.out A8.out).mono ?_);(case b8=>exact ycb HR1);rintro e w' ⟨rfl,⟨nd,rfl⟩⟩))
  go_meet
  case rel=>exact ⟨_,(!bu),yq,H',⟨yo⟩,⟨yV0 aT⟩,⟨yk ac⟩,⟨yk ae⟩,⟨yhb⟩⟩
 case rest =>
  clear HC4
  try clear c1
  obtain ⟨kq,ba,rfl,HA,HJ3,aa,ac,ae,HB⟩:=hcut
  obtain ⟨kj3,rfl⟩:=ysu kq (fun h=>by subst h;exact absurd HA.out (by simp [gain_Take.j0]))
  have H:=HA.out;clear HA
  simp only [gain_Take.j0] at H
  by_cases c9 : ba=true
  ·
   subst c9
   rw [if_pos rfl] at H
   obtain ⟨⟨b9,ca,cb,ce,cm⟩,A10,H⟩:=ybi H
   try dsimp only at H
   simp only [Option.some.injEq,Prod.mk.injEq] at H
   obtain ⟨rfl,rfl,rfl,rfl,rfl,rfl⟩:=H
   have:=ag.out
   have:=ah.out
   obtain ⟨bv,bw,bx,bz,bA,bB,bC,bD⟩:=yc4 ac
   go_wp2_with (first|((with_reducible refine gate_callee (f:=51) rfl ?_);refine ygl 23 Try.func51 #[.agg #[.int .u64 aM, .int .u32 aN, .slice a7 aD.length a8, .int .i64 aQ], .int .i64 0, .int .i64 1, .int .i64 1] ?_;(with_reducible refine (coder_Take.calls kj3 aM aN (fun k_=>((ap k_∨w.heap.size≤k_)∧(k_≠al∧k_≠am))) _ _ aD aQ 0 1 1 b9 ca cb ce cm _ aa.out A10.out).mono ?_);rintro e w13 ⟨cK,rfl,ho0,hb⟩;refine ⟨_,rfl, ?_⟩;replace aa:=yVb aa hb;have b4:=yho (fun k_=>(ap k_∨w.heap.size≤k_)∧k_≠al∧k_≠am) ho0 (fun k_ hk_=>⟨Or.elim hk_ (fun hs_=>hs_.1) (fun hn_=>(.inr (Nat.le_trans (zE yhb) hn_))),yoB ac hk_,yoB ae hk_⟩);replace ac:=ybb ac hb;replace ae:=ybb ae hb;replace HB:=ybs hb;(try clear hb);(try clear ho0);obtain ⟨bE,bF,bG,bH,bI,bJ,bK,bL⟩:=yc4 ac;obtain ⟨cn,co,cp⟩:=Kd.V_slice b4.out;subst cp;obtain ⟨bM,bN,bO,bP,bQ,bR,bS,bT⟩:=yc4 ae))
   refine bodyPost_ret (results_ctt rfl _ _ am 82 #[.int .u64 b9, .int .u32 ca, .slice cn cb.length co, .int .i64 ce] (0,0) _ rfl (ykp ae) Try.underlying82 rfl (by kernel_rfl)) rfl ?_
   exact ⟨_,_,ye,yV0 b4,yn,yhb⟩
  replace c9:=Bool.eq_false_iff.mpr c9
  subst c9
  rw [ynf] at H
  have H' := zm H
  clear H
  go_wp2
  go_loopg [9,27] kj3 (fun kq v9 v27 w' => ∃ (aU : List Int) (av : Int) (ai : Int) (aj : Int) (af : List Int) (ak : Int) (aV : Value),v27=.int .i64 av∧Aside0 (gain_Take.l0 kq l1 a2 aU av ai aj af ak=some (r1,r2,r3,r4,r5,r6))∧Aside0 (kq≤kj3)∧Aside0 (Kd.R (Kd.int .i64) 3 w' w.heap.size (fun k_=>(w.heap.size≤k_)) v9 aU)∧Aside0 (Kd.V (Kd.int .u8) 5 w' w.heap.size (fun k_=>(ap k_∨w.heap.size≤k_)∧some k_≠(v9 : Value).ownBlock∧k_≠al∧k_≠am) aV af)∧Aside0 (w'.heap[al]? = some (.cells #[.int .u64 ai, .int .u32 aj,aV, .int .i64 ak] 82 (0,0)))∧Aside0 (w'.heap[am]? = some (.cells #[.int .u64 0, .int .u32 0,(.slice none 0 0), .int .i64 0] 82 (0,0)))∧Aside0 (Below w.heap.size w w'))
  case atStart=>exact ⟨(([] : List Int)),(0),(aM),(aN),(aD),(aQ),(.slice a7 aD.length a8),yq,H',⟨Nat.le_refl _⟩,⟨yn⟩,⟨yV0 aa⟩,⟨yk ac⟩,⟨yk ae⟩,⟨yhb⟩⟩
  case round =>
   clear H'
   try clear bv
   try clear bw
   try clear bx
   try clear bz
   try clear bE
   try clear bF
   try clear bG
   try clear bH
   try clear bM
   try clear bN
   try clear bO
   try clear bP
   try clear bA
   try clear bB
   try clear bC
   try clear bD
   try clear bI
   try clear bJ
   try clear bK
   try clear bL
   try clear bQ
   try clear bR
   try clear bS
   try clear bT
   obtain ⟨aU,av,ai,aj,af,ak,aV,rfl,HA,HK2,ao,aa,ac,ae,HB⟩:=hrel
   obtain ⟨k2,rfl⟩:=ysu gk (fun h=>by subst h;exact absurd HA.out (by simp [gain_Take.l0]))
   have H:=HA.out;clear HA
   simp only [gain_Take.l0] at H
   by_cases c17 : av < 5
   ·
    rw [if_pos c17] at H
    have cf:=yD c17
    clear c17
    by_cases c18 : a2=true
    ·
     subst c18
     rw [if_pos rfl] at H
     obtain ⟨⟨bc,bd,aW,bf,bU⟩,A19,H⟩:=ybi H
     try dsimp only at H
     obtain ⟨c20,H⟩:=yif H
     have LMc20:=zm c20;clear c20
     obtain ⟨cg,bn⟩ : ∃ y_ : List Int,y_=(aU ++ [bU]):=⟨_,rfl⟩
     replace H : (gain_Take.l0 k2 l1 true cg (wrap64 (av+1)) bc bd aW bf)=some (r1,r2,r3,r4,r5,r6):=yrw bn H
     have ch:=zm bn;clear bn
     have H' := zm H
     clear H
     have:=ag.out
     have:=ah.out
     obtain ⟨_,_,_,_,_,_,_,_⟩:=yc4 ac
     obtain ⟨bV,bW,cq⟩:=Kd.V_slice aa.out
     subst cq
     try go_wp2_with (first|((with_reducible refine gate_callee (f:=88) rfl ?_);refine ygl 40 Try.func88 #[.agg #[.int .u64 ai, .int .u32 aj, .slice bV af.length bW, .int .i64 ak], .int .i64 0, .bool true] ?_;(with_reducible refine (gain_take.calls k2 ai aj (fun k_=>((ap k_∨w.heap.size≤k_)∧(some k_≠(u9 : Value).ownBlock∧(k_≠al∧k_≠am)))) _ _ af ak 0 true bc bd aW bf bU _ aa.out A19.out).mono ?_);rintro e w24 ⟨cL,rfl,ho0,hb⟩;refine ⟨_,rfl, ?_⟩;replace aa:=yVb aa hb;have aE:=yho (fun k_=>(ap k_∨w.heap.size≤k_)∧some k_≠(u9 : Value).ownBlock∧k_≠al∧k_≠am) ho0 (fun k_ hk_=>⟨Or.elim hk_ (fun hs_=>hs_.1) (fun hn_=>(.inr (Nat.le_trans (zE yhb) hn_))),yoR ao hk_,yoB ac hk_,yoB ae hk_⟩);replace ao:=yRb ao hb;replace ac:=ybb ac hb;replace ae:=ybb ae hb;replace HB:=ybs hb;(try clear hb);(try clear ho0))|((with_reducible refine gate_dst (N:=12) rfl ?_);refine ybx 12 #[.int .u64 0, .int .u32 0, .slice none 0 0, .int .i64 0] 82 ?_;intro aw hg w25 hbox hb;replace ao:=yRb ao hb;replace aa:=yVe aa hg hb;replace aE:=yVe aE hg hb;have aq:=zm (hbox);have cD:=ygw hg;have cE:=ygw hg;replace HB:=ybs hb;have ax:=ynl ac hg;have ay:=yng ac hg;replace ac:=ybb ac hb;have bg:=ynl ae hg;have bh:=yng ae hg;replace ae:=ybb ae hb;clear hb hbox hg;have:=ay.out;have:=ax.out;have:=bh.out;have:=bg.out;obtain ⟨_,_,_,_,_,_,_,_⟩:=yc4 aq;obtain ⟨bo,bp,cr⟩:=Kd.V_slice aE.out;subst cr))
     obtain ⟨w30,hw_⟩ : ∃ x,x=((((w25.setCell ⟨aw,0,none⟩ (.int .u64 bc)).setCell ⟨aw,1,none⟩ (.int .u32 bd)).setCell ⟨aw,2,none⟩ (.slice bo aW.length bp)).setCell ⟨aw,3,none⟩ (.int .i64 bf)):=⟨_,rfl⟩
     rw [← hw_]
     replace ao : Aside0 (Kd.R (Kd.int .i64) 3 w30 w.heap.size (fun k_=>(w.heap.size≤k_)) u9 aU):=⟨by rw [hw_];exact (yR1 ao aq)⟩
     replace aa : Aside0 (Kd.V (Kd.int .u8) 5 w30 w.heap.size (fun k_=>(ap k_∨w.heap.size≤k_)∧some k_≠(u9 : Value).ownBlock∧k_≠al∧k_≠am∧k_≠aw) (.slice bV af.length bW) af):=⟨by rw [hw_];exact (yV0 aa)⟩
     replace aE : Aside0 (Kd.V (Kd.int .u8) 5 w30 w.heap.size (fun k_=>(ap k_∨w.heap.size≤k_)∧some k_≠(u9 : Value).ownBlock∧k_≠al∧k_≠am∧k_≠aw) (.slice bo aW.length bp) aW):=⟨by rw [hw_];exact (yV0 aE)⟩
     replace ac : Aside0 (w30.heap[al]? = some (.cells #[.int .u64 ai, .int .u32 aj, .slice bV af.length bW, .int .i64 ak] 82 (0,0))):=⟨by rw [hw_];exact (yk ac)⟩
     replace ae : Aside0 (w30.heap[am]? = some (.cells #[.int .u64 0, .int .u32 0, .slice none 0 0, .int .i64 0] 82 (0,0))):=⟨by rw [hw_];exact (yk ae)⟩
     replace aq : Aside0 (w30.heap[aw]? = some (.cells #[.int .u64 bc, .int .u32 bd, .slice bo aW.length bp, .int .i64 bf] 82 (0,0))):=⟨by rw [hw_];exact (ykp aq)⟩
     replace HB : Aside0 (Below w.heap.size w w30):=⟨by rw [hw_];exact (yhb)⟩
     clear hw_
     replace ao:=zm (zq ao.out)
     replace aa:=zm (zC aa.out)
     replace aE:=zm (zC aE.out)
     replace ac:=zm (zj ac.out)
     replace ae:=zm (zj ae.out)
     replace aq:=zm (zj aq.out)
     replace HB:=zm (zf HB.out)
     refine start_ (n:=7) (S:=fun w' => w'.cell? ⟨aw,0,none⟩=some (.int .u64 bc)∧w'.cell? ⟨aw,1,none⟩=some (.int .u32 bd)∧w'.cell? ⟨aw,2,none⟩=some (.slice bo aW.length bp)∧w'.cell? ⟨aw,3,none⟩=some (.int .i64 bf)) (ds := []) #[false,false,false,false,false,false,false] (by kernel_rfl) rfl rfl ⟨(zs aq.out 0).trans rfl,(zs aq.out 1).trans rfl,(zs aq.out 2).trans rfl,(zs aq.out 3).trans rfl⟩ (fun hHeld => ?_)
     generalize w30.drew=w31 at ao aa aE ac ae aq HB hHeld ⊢
     refine pure_ (i:=1) (N:=some 44) (v := ?_) (a' := ?_) #[false,true,false,false,false,false,false] rfl rfl (by kernel_rfl) (fun _ _ _ h=>h) (Or.inl ⟨by rfl, ?_⟩) ?_ ?_
     rotate_left
     ·
      intro w'
      go_simp
      with_reducible rfl
     rotate_left
     ·
      simp only [Act.put,List.setIfInBounds_toArray,List.set_cons_zero,List.set_cons_succ,i64_w,i32_w]
      rfl
     refine pure_ (i:=2) (N:=some 45) (v := ?_) (a' := ?_) #[false,true,true,false,false,false,false] rfl rfl (by kernel_rfl) (fun _ _ _ h=>h) (Or.inl ⟨by rfl, ?_⟩) ?_ ?_
     rotate_left
     ·
      intro w'
      go_simp
      with_reducible rfl
     rotate_left
     ·
      simp only [Act.put,List.setIfInBounds_toArray,List.set_cons_zero,List.set_cons_succ,i64_w,i32_w]
      rfl
     refine take_ (i:=0) (N:=some 43) (v := ?_) (a' := ?_) #[true,true,true,false,false,false,false] rfl rfl (by kernel_rfl) (fun _ _ _ h=>h) (Or.inl ⟨by rfl, ?_⟩) hHeld ?_ ?_
     rotate_left
     ·
      rintro w' ⟨s0,s1,s2,s3⟩
      go_simp
      with_reducible rfl
     rotate_left
     ·
      simp only [Act.put,List.setIfInBounds_toArray,List.set_cons_zero,List.set_cons_succ,i64_w,i32_w]
      rfl
     refine one_ (i:=3) (N:=some 46) #[true,true,true,true,false,false,false] rfl rfl (by kernel_rfl) (by decide) (fun K hK => ?_)
     refine value_ (w1 := ?_) (v := ?_) (by rfl) rfl ?_ ?_
     rotate_left 2
     ·
      go_simp
      constructor
      ·
       rfl
      rfl
     refine hK.out _ _ ⟨(zs (zi aq.out _) 0).trans rfl,(zs (zi aq.out _) 1).trans rfl,(zs (zi aq.out _) 2).trans rfl,(zs (zi aq.out _) 3).trans rfl⟩ (fun hHeld => ?_)
     clear hK K
     refine ym (some 46) ?_
     refine one_ (i:=4) (N:=some 47) #[true,true,true,true,true,false,false] rfl rfl (by kernel_rfl) (by decide) (fun K hK => ?_)
     refine Kd.R_append_step (Kd.int .i64) (w0:=w) w.heap.size (by rfl) (.tmp 44) (.tmp 46) 49 3 (.int .i64 0) 8 rfl Try.underlying49 info3 rfl (by decide) (by omega) u9 aU bU [.int .i64 bU] (fun k_=>(w.heap.size≤k_)) (fun _=>False) rfl rfl ?aP (fun _ hk=>hk.elim) ?aF ?aO ?aB ?aS ?aL ?_
     (case aP=>exact rfl)
     (case aB=>exact yhb)
     (case aF=>exact (fun k_ hk=>(Nat.le_trans (zE yhb) hk)))
     (case aO=>exact (yr ao))
     (case aS=>exact (zE yhb))
     (case aL=>have:=LMc20.out;omega)
     intro cM w32 ho hb hg hat
     rw [← ch.out] at ho
     replace aa:=zm (Kd.V_afterv (ok:=(fun k_=>(ap k_∨w.heap.size≤k_)∧k_≠al∧k_≠am∧k_≠aw)) (yV0 aa) hg hat)
     replace ac:=zm (blk_grown (yk ac) hg (zu ao.out ac.out (by decide)))
     replace ae:=zm (blk_grown (yk ae) hg (zu ao.out ae.out (by decide)))
     replace aE:=zm (Kd.V_afterv (ok:=(fun k_=>(ap k_∨w.heap.size≤k_)∧k_≠al∧k_≠am∧k_≠aw)) (yV0 aE) hg hat)
     replace aq:=zm (blk_grown (yk aq) hg (zu ao.out aq.out (by decide)))
     replace HB:=zm (hb)
     have ci:=zm (ho);clear ao ho hb hg hat
     refine hK.out _ _ yH (fun hHeld => ?_)
     clear hK K
     refine ym (some 47) ?_
     refine one_ (i:=5) (N:=none) #[true,true,true,true,true,true,false] rfl rfl (by kernel_rfl) (by decide) (fun K hK => ?_)
     have cN : w32.cell? ⟨al,0,none⟩=some (.int .u64 ai):=(zs ac.out 0).trans rfl
     have hfs33:=zx ac.out 0
     have:=ah.out
     have:=ay.out
     have:=ag.out
     have:=ax.out
     have cO : w32.cell? ⟨al,1,none⟩=some (.int .u32 aj):=(zs ac.out 1).trans rfl
     have hfs34:=zx ac.out 1
     have:=ah.out
     have:=ay.out
     have:=ag.out
     have:=ax.out
     have cP : w32.cell? ⟨al,2,none⟩=some (.slice bV af.length bW):=(zs ac.out 2).trans rfl
     have hfs35:=zx ac.out 2
     have:=ah.out
     have:=ay.out
     have:=ag.out
     have:=ax.out
     have cQ : w32.cell? ⟨al,3,none⟩=some (.int .i64 ak):=(zs ac.out 3).trans rfl
     have hfs36:=zx ac.out 3
     have:=ah.out
     have:=ay.out
     have:=ag.out
     have:=ax.out
     refine skip_ (w1 := ?_) (by rfl) rfl ?_ ?_
     rotate_left
     ·
      go_simp
      rfl
     refine hK.out _ _ yH (fun hHeld => ?_)
     clear hK K
     refine pure_ (i:=6) (N:=some 9) (v := ?_) (a' := ?_) #[true,true,true,true,true,true,true] rfl rfl (by kernel_rfl) (fun _ _ _ h=>h) (Or.inl ⟨by rfl, ?_⟩) ?_ ?_
     rotate_left
     ·
      intro w'
      go_simp
      with_reducible rfl
     rotate_left
     ·
      simp only [Act.put,List.setIfInBounds_toArray,List.set_cons_zero,List.set_cons_succ,i64_w,i32_w]
      rfl
     refine done_ (by kernel_rfl) ?_
     try go_wp2
     go_roundg k2
     case measure=>exact yom2 HJ3 HK2
     case rel=>exact ⟨(cg),(wrap64 (av+1)),(bc),(bd),(aW),(bf),(.slice bo aW.length bp),yq,H',⟨yom2 HJ3 HK2⟩,⟨yR1 ci ac⟩,⟨yV0 aE⟩,⟨ykp ac⟩,⟨yk ae⟩,⟨yhb⟩⟩
    replace c18:=Bool.eq_false_iff.mpr c18
    subst c18
    rw [ynf] at H
    obtain ⟨c37,H⟩:=yif H
    have cF : decide (0≤av)=true:=decide_eq_true c37
    clear c37
    obtain ⟨c38,H⟩:=yif H
    have cG : decide (av < (l1.length : Int))=true:=decide_eq_true c38
    clear c38
    obtain ⟨⟨bi,bj,aX,bk,bX⟩,A39,H⟩:=ybi H
    try dsimp only at H
    obtain ⟨c40,H⟩:=yif H
    have LMc40:=zm c40;clear c40
    obtain ⟨cj,bq⟩ : ∃ y_ : List Int,y_=(aU ++ [bX]):=⟨_,rfl⟩
    replace H : (gain_Take.l0 k2 l1 false cj (wrap64 (av+1)) bi bj aX bk)=some (r1,r2,r3,r4,r5,r6):=yrw bq H
    have ck:=zm bq;clear bq
    have H' := zm H
    clear H
    have b5 : 0≤(av : Int):=yt
    have b6 : av < (l1.length : Int):=yt
    obtain ⟨cH,ct,bb⟩:=Kd.at_int HR1.out av b5 b6
    cases ct
    replace bb:=yhx HB bb
    replace b5:=eq_true b5
    replace b6:=eq_true b6
    have:=ag.out
    have:=ah.out
    obtain ⟨_,_,_,_,_,_,_,_⟩:=yc4 ac
    obtain ⟨bY,bZ,cu⟩:=Kd.V_slice aa.out
    subst cu
    try go_wp2_with (first|((with_reducible refine gate_callee (f:=88) rfl ?_);refine ygl 40 Try.func88 #[.agg #[.int .u64 ai, .int .u32 aj, .slice bY af.length bZ, .int .i64 ak], .int .i64 (rd l1 av), .bool false] ?_;(with_reducible refine (gain_take.calls k2 ai aj (fun k_=>((ap k_∨w.heap.size≤k_)∧(some k_≠(u9 : Value).ownBlock∧(k_≠al∧k_≠am)))) _ _ af ak (rd l1 av) false bi bj aX bk bX _ aa.out A39.out).mono ?_);rintro e w44 ⟨cR,rfl,ho0,hb⟩;refine ⟨_,rfl, ?_⟩;replace aa:=yVb aa hb;have aG:=yho (fun k_=>(ap k_∨w.heap.size≤k_)∧some k_≠(u9 : Value).ownBlock∧k_≠al∧k_≠am) ho0 (fun k_ hk_=>⟨Or.elim hk_ (fun hs_=>hs_.1) (fun hn_=>(.inr (Nat.le_trans (zE yhb) hn_))),yoR ao hk_,yoB ac hk_,yoB ae hk_⟩);replace ao:=yRb ao hb;replace ac:=ybb ac hb;replace ae:=ybb ae hb;replace HB:=ybs hb;(try clear hb);(try clear ho0))|((with_reducible refine gate_dst (N:=12) rfl ?_);refine ybx 12 #[.int .u64 0, .int .u32 0, .slice none 0 0, .int .i64 0] 82 ?_;intro az hg w45 hbox hb;replace ao:=yRb ao hb;replace aa:=yVe aa hg hb;replace aG:=yVe aG hg hb;have au:=zm (hbox);have cI:=ygw hg;have cJ:=ygw hg;replace HB:=ybs hb;have aA:=ynl ac hg;have aC:=yng ac hg;replace ac:=ybb ac hb;have bl:=ynl ae hg;have bm:=yng ae hg;replace ae:=ybb ae hb;clear hb hbox hg;have:=aC.out;have:=aA.out;have:=bm.out;have:=bl.out;obtain ⟨_,_,_,_,_,_,_,_⟩:=yc4 au;obtain ⟨br,bs,cv⟩:=Kd.V_slice aG.out;subst cv))
    obtain ⟨w50,hw_⟩ : ∃ x,x=((((w45.setCell ⟨az,0,none⟩ (.int .u64 bi)).setCell ⟨az,1,none⟩ (.int .u32 bj)).setCell ⟨az,2,none⟩ (.slice br aX.length bs)).setCell ⟨az,3,none⟩ (.int .i64 bk)):=⟨_,rfl⟩
    rw [← hw_]
    replace ao : Aside0 (Kd.R (Kd.int .i64) 3 w50 w.heap.size (fun k_=>(w.heap.size≤k_)) u9 aU):=⟨by rw [hw_];exact (yR1 ao au)⟩
    replace aa : Aside0 (Kd.V (Kd.int .u8) 5 w50 w.heap.size (fun k_=>(ap k_∨w.heap.size≤k_)∧some k_≠(u9 : Value).ownBlock∧k_≠al∧k_≠am∧k_≠az) (.slice bY af.length bZ) af):=⟨by rw [hw_];exact (yV0 aa)⟩
    replace aG : Aside0 (Kd.V (Kd.int .u8) 5 w50 w.heap.size (fun k_=>(ap k_∨w.heap.size≤k_)∧some k_≠(u9 : Value).ownBlock∧k_≠al∧k_≠am∧k_≠az) (.slice br aX.length bs) aX):=⟨by rw [hw_];exact (yV0 aG)⟩
    replace ac : Aside0 (w50.heap[al]? = some (.cells #[.int .u64 ai, .int .u32 aj, .slice bY af.length bZ, .int .i64 ak] 82 (0,0))):=⟨by rw [hw_];exact (yk ac)⟩
    replace ae : Aside0 (w50.heap[am]? = some (.cells #[.int .u64 0, .int .u32 0, .slice none 0 0, .int .i64 0] 82 (0,0))):=⟨by rw [hw_];exact (yk ae)⟩
    replace au : Aside0 (w50.heap[az]? = some (.cells #[.int .u64 bi, .int .u32 bj, .slice br aX.length bs, .int .i64 bk] 82 (0,0))):=⟨by rw [hw_];exact (ykp au)⟩
    replace HB : Aside0 (Below w.heap.size w w50):=⟨by rw [hw_];exact (yhb)⟩
    clear hw_
    replace ao:=zm (zq ao.out)
    replace aa:=zm (zC aa.out)
    replace aG:=zm (zC aG.out)
    replace ac:=zm (zj ac.out)
    replace ae:=zm (zj ae.out)
    replace au:=zm (zj au.out)
    replace HB:=zm (zf HB.out)
    refine start_ (n:=7) (S:=fun w' => w'.cell? ⟨az,0,none⟩=some (.int .u64 bi)∧w'.cell? ⟨az,1,none⟩=some (.int .u32 bj)∧w'.cell? ⟨az,2,none⟩=some (.slice br aX.length bs)∧w'.cell? ⟨az,3,none⟩=some (.int .i64 bk)) (ds := []) #[false,false,false,false,false,false,false] (by kernel_rfl) rfl rfl ⟨(zs au.out 0).trans rfl,(zs au.out 1).trans rfl,(zs au.out 2).trans rfl,(zs au.out 3).trans rfl⟩ (fun hHeld => ?_)
    generalize w50.drew=w51 at ao aa aG ac ae au HB hHeld ⊢
    refine pure_ (i:=1) (N:=some 44) (v := ?_) (a' := ?_) #[false,true,false,false,false,false,false] rfl rfl (by kernel_rfl) (fun _ _ _ h=>h) (Or.inl ⟨by rfl, ?_⟩) ?_ ?_
    rotate_left
    ·
     intro w'
     go_simp
     with_reducible rfl
    rotate_left
    ·
     simp only [Act.put,List.setIfInBounds_toArray,List.set_cons_zero,List.set_cons_succ,i64_w,i32_w]
     rfl
    refine pure_ (i:=2) (N:=some 45) (v := ?_) (a' := ?_) #[false,true,true,false,false,false,false] rfl rfl (by kernel_rfl) (fun _ _ _ h=>h) (Or.inl ⟨by rfl, ?_⟩) ?_ ?_
    rotate_left
    ·
     intro w'
     go_simp
     with_reducible rfl
    rotate_left
    ·
     simp only [Act.put,List.setIfInBounds_toArray,List.set_cons_zero,List.set_cons_succ,i64_w,i32_w]
     rfl
    refine take_ (i:=0) (N:=some 43) (v := ?_) (a' := ?_) #[true,true,true,false,false,false,false] rfl rfl (by kernel_rfl) (fun _ _ _ h=>h) (Or.inl ⟨by rfl, ?_⟩) hHeld ?_ ?_
    rotate_left
    ·
     rintro w' ⟨s0,s1,s2,s3⟩
     go_simp
     with_reducible rfl
    rotate_left
    ·
     simp only [Act.put,List.setIfInBounds_toArray,List.set_cons_zero,List.set_cons_succ,i64_w,i32_w]
     rfl
    refine one_ (i:=3) (N:=some 46) #[true,true,true,true,false,false,false] rfl rfl (by kernel_rfl) (by decide) (fun K hK => ?_)
    refine value_ (w1 := ?_) (v := ?_) (by rfl) rfl ?_ ?_
    rotate_left 2
    ·
     go_simp
     constructor
     ·
      rfl
     rfl
    refine hK.out _ _ ⟨(zs (zi au.out _) 0).trans rfl,(zs (zi au.out _) 1).trans rfl,(zs (zi au.out _) 2).trans rfl,(zs (zi au.out _) 3).trans rfl⟩ (fun hHeld => ?_)
    clear hK K
    refine ym (some 46) ?_
    refine one_ (i:=4) (N:=some 47) #[true,true,true,true,true,false,false] rfl rfl (by kernel_rfl) (by decide) (fun K hK => ?_)
    refine Kd.R_append_step (Kd.int .i64) (w0:=w) w.heap.size (by rfl) (.tmp 44) (.tmp 46) 49 3 (.int .i64 0) 8 rfl Try.underlying49 info3 rfl (by decide) (by omega) u9 aU bX [.int .i64 bX] (fun k_=>(w.heap.size≤k_)) (fun _=>False) rfl rfl ?aP (fun _ hk=>hk.elim) ?aF ?aO ?aB ?aS ?aL ?_
    (case aP=>exact rfl)
    (case aB=>exact yhb)
    (case aF=>exact (fun k_ hk=>(Nat.le_trans (zE yhb) hk)))
    (case aO=>exact (yr ao))
    (case aS=>exact (zE yhb))
    (case aL=>have:=LMc40.out;omega)
    intro cS w52 ho hb hg hat
    rw [← ck.out] at ho
    replace aa:=zm (Kd.V_afterv (ok:=(fun k_=>(ap k_∨w.heap.size≤k_)∧k_≠al∧k_≠am∧k_≠az)) (yV0 aa) hg hat)
    replace ac:=zm (blk_grown (yk ac) hg (zu ao.out ac.out (by decide)))
    replace ae:=zm (blk_grown (yk ae) hg (zu ao.out ae.out (by decide)))
    replace aG:=zm (Kd.V_afterv (ok:=(fun k_=>(ap k_∨w.heap.size≤k_)∧k_≠al∧k_≠am∧k_≠az)) (yV0 aG) hg hat)
    replace au:=zm (blk_grown (yk au) hg (zu ao.out au.out (by decide)))
    replace HB:=zm (hb)
    have cl:=zm (ho);clear ao ho hb hg hat
    refine hK.out _ _ yH (fun hHeld => ?_)
    clear hK K
    refine ym (some 47) ?_
    refine one_ (i:=5) (N:=none) #[true,true,true,true,true,true,false] rfl rfl (by kernel_rfl) (by decide) (fun K hK => ?_)
    have cT : w52.cell? ⟨al,0,none⟩=some (.int .u64 ai):=(zs ac.out 0).trans rfl
    have hfs53:=zx ac.out 0
    have:=ah.out
    have:=aC.out
    have:=ag.out
    have:=aA.out
    have cU : w52.cell? ⟨al,1,none⟩=some (.int .u32 aj):=(zs ac.out 1).trans rfl
    have hfs54:=zx ac.out 1
    have:=ah.out
    have:=aC.out
    have:=ag.out
    have:=aA.out
    have cV : w52.cell? ⟨al,2,none⟩=some (.slice bY af.length bZ):=(zs ac.out 2).trans rfl
    have hfs55:=zx ac.out 2
    have:=ah.out
    have:=aC.out
    have:=ag.out
    have:=aA.out
    have cW : w52.cell? ⟨al,3,none⟩=some (.int .i64 ak):=(zs ac.out 3).trans rfl
    have hfs56:=zx ac.out 3
    have:=ah.out
    have:=aC.out
    have:=ag.out
    have:=aA.out
    refine skip_ (w1 := ?_) (by rfl) rfl ?_ ?_
    rotate_left
    ·
     go_simp
     rfl
    refine hK.out _ _ yH (fun hHeld => ?_)
    clear hK K
    refine pure_ (i:=6) (N:=some 9) (v := ?_) (a' := ?_) #[true,true,true,true,true,true,true] rfl rfl (by kernel_rfl) (fun _ _ _ h=>h) (Or.inl ⟨by rfl, ?_⟩) ?_ ?_
    rotate_left
    ·
     intro w'
     go_simp
     with_reducible rfl
    rotate_left
    ·
     simp only [Act.put,List.setIfInBounds_toArray,List.set_cons_zero,List.set_cons_succ,i64_w,i32_w]
     rfl
    refine done_ (by kernel_rfl) ?_
    try go_wp2
    go_roundg k2
    case measure=>exact yom2 HJ3 HK2
    case rel=>exact ⟨(cj),(wrap64 (av+1)),(bi),(bj),(aX),(bk),(.slice br aX.length bs),yq,H',⟨yom2 HJ3 HK2⟩,⟨yR1 cl ac⟩,⟨yV0 aG⟩,⟨ykp ac⟩,⟨yk ae⟩,⟨yhb⟩⟩
   rw [if_neg c17] at H
   have cf:=yG c17
   clear c17
   simp only [Option.some.injEq,Prod.mk.injEq] at H
   obtain ⟨rfl,rfl,rfl,rfl,rfl,rfl⟩:=H
   have:=ag.out
   have:=ah.out
   obtain ⟨_,_,_,_,_,_,_,_⟩:=yc4 ac
   obtain ⟨_,_,_,_,_,_,_,_⟩:=yc4 ae
   obtain ⟨cw,cx,cy⟩:=Kd.V_slice aa.out
   subst cy
   go_wp2
   refine bodyPost_ret (results_ctt rfl _ _ am 82 #[.int .u64 ai, .int .u32 aj, .slice cw af.length cx, .int .i64 ak] (0,0) _ rfl (ykp ae) Try.underlying82 rfl (by kernel_rfl)) rfl ?_
   exact ⟨_,_,ye,yV0 aa,yR1 ao ae,yhb⟩
end Go.Proofs.Ytnmbndkojpjkmaa.Prt
