-- Functions of the program and of the document as plain Lean, each with the proof that the code comes to it. Written by a program of this session (wip/tools/myprint.py, pack.py) over the kit's printer; Lean checks it.
import Derived.Test.YtnmbndkojpjkmaaZPackFitsPrt0
import Derived.Test.YtnmbndkojpjkmaaZPackFitsM3
import Derived.Test.YtnmbndkojpjkmaaZPackFitsSh2
import Derived.Test.YtnmbndkojpjkmaaZPackFitsSh
import Derived.Test.YtnmbndkojpjkmaaZPackFitsM2
namespace Go.Proofs.Ytnmbndkojpjkmaa.Prt
open Go.RowKit Go.Proofs.YtnmbndkojpjkmaaW.PrintWords Go.Proofs.YtnmbndkojpjkmaaW.PrintLast Go.Proofs.YtnmbndkojpjkmaaW.PrintMore
attribute [local go_sem] max2_int min2_int max_two min_two max_three min_three max_four min_four   -- for this text's walks alone
set_option linter.unusedVariables false
set_option linter.unusedSimpArgs false


mutual
def r11_Put.j0 : Nat→List Int→List Int→Bool→Bool→Int→List Int→Option (Int × List Int × Int)
 | 0,_,_,_,_,_,_=>none
 | k+1,x1,x2,x3,x26,ap,aq=>if x26=true then (some (ap,aq,1)) else (r11_Put.l0 k x1 x2 x3 0 ap aq ap aq)
def r11_Put.l0 : Nat→List Int→List Int→Bool→Int→Int→List Int→Int→List Int→Option (Int × List Int × Int)
 | 0,_,_,_,_,_,_,_,_=>none
 | k+1,x1,x2,x3,x11,ap,aq,aD,aE=>if x11 < 5 then (if x3=true then (r11_Put.j3 k x1 x2 x3 x11 x3 ap aq aD aE) else (if 0≤x11 then (if x11 < (x1.length : Int) then (if x11 < (x2.length : Int) then (if (wrap64 ((wrap64 ((rd x1 x11) - (rd x2 x11)))+3)) < 0 then (r11_Put.j2 k x1 x2 x3 x11 x3 (wrap64 ((wrap64 ((rd x1 x11) - (rd x2 x11)))+3)) true ap aq aD aE) else (r11_Put.j2 k x1 x2 x3 x11 x3 (wrap64 ((wrap64 ((rd x1 x11) - (rd x2 x11)))+3)) (decide ((wrap64 ((wrap64 ((rd x1 x11) - (rd x2 x11)))+3)) > 6)) ap aq aD aE)) else (none)) else (none)) else (none))) else (some (aD,aE,0))
def r11_Put.j3 : Nat→List Int→List Int→Bool→Int→Bool→Int→List Int→Int→List Int→Option (Int × List Int × Int)
 | 0,_,_,_,_,_,_,_,_,_=>none
 | k+1,x1,x2,x3,x11,x13,ap,aq,aD,aE=>if x13=true then (if 0≤x11 then (if x11 < (x1.length : Int) then ((r05_PutNum.f k aD aE (IntKind.u64.wrap (rd x1 x11)) 45).bind fun a9=>(if a9.2.2=0 then (r11_Put.l0 k x1 x2 x3 (wrap64 (x11+1)) ap aq a9.1 a9.2.1) else (some (ap,aq,a9.2.2)))) else (none)) else (none)) else (r11_Put.l0 k x1 x2 x3 (wrap64 (x11+1)) ap aq aD aE)
def r11_Put.j2 : Nat→List Int→List Int→Bool→Int→Bool→Int→Bool→Int→List Int→Int→List Int→Option (Int × List Int × Int)
 | 0,_,_,_,_,_,_,_,_,_,_,_=>none
 | k+1,x1,x2,x3,x11,x13,x14,x51,ap,aq,aD,aE=>if x51=true then ((r05_Put.f k aD aE 7 (7+1) 8).bind fun ba=>(if ba.2.2=0 then (r11_Put.j3 k x1 x2 x3 x11 true ap aq ba.1 ba.2.1) else (some (ap,aq,ba.2.2)))) else ((r05_Put.f k aD aE x14 (wrap64 (x14+1)) 8).bind fun bb=>(if bb.2.2=0 then (r11_Put.j3 k x1 x2 x3 x11 x13 ap aq bb.1 bb.2.1) else (some (ap,aq,bb.2.2))))
end
def r11_Put.f (k : Nat) (aK : Int) (aA : List Int) (l1 : List Int) (l2 : List Int) (a3 : Bool) : Option (Int × List Int × Int):=(r11_Right.f k l1).bind fun bN=>(if bN=true then (if a3=true then (r11_Put.j0 k l1 l2 a3 false aK aA) else ((r11_Right.f k l2).bind fun bk=>(r11_Put.j0 k l1 l2 a3 (!bk) aK aA))) else (r11_Put.j0 k l1 l2 a3 true aK aA))
theorem r11_Put.mono_l : ∀ k,(∀ y0 y1 y2 y3 y4 y5,LeO (r11_Put.j0 k y0 y1 y2 y3 y4 y5) (r11_Put.j0 (k+1) y0 y1 y2 y3 y4 y5))∧(∀ y0 y1 y2 y3 y4 y5 y6 y7,LeO (r11_Put.l0 k y0 y1 y2 y3 y4 y5 y6 y7) (r11_Put.l0 (k+1) y0 y1 y2 y3 y4 y5 y6 y7))∧(∀ y0 y1 y2 y3 y4 y5 y6 y7 y8,LeO (r11_Put.j3 k y0 y1 y2 y3 y4 y5 y6 y7 y8) (r11_Put.j3 (k+1) y0 y1 y2 y3 y4 y5 y6 y7 y8))∧(∀ y0 y1 y2 y3 y4 y5 y6 y7 y8 y9 y10,LeO (r11_Put.j2 k y0 y1 y2 y3 y4 y5 y6 y7 y8 y9 y10) (r11_Put.j2 (k+1) y0 y1 y2 y3 y4 y5 y6 y7 y8 y9 y10))
 | 0=>⟨fun _ _ _ _ _ _ r h=>by simp [r11_Put.j0] at h,fun _ _ _ _ _ _ _ _ r h=>by simp [r11_Put.l0] at h,fun _ _ _ _ _ _ _ _ _ r h=>by simp [r11_Put.j3] at h,fun _ _ _ _ _ _ _ _ _ _ _ r h=>by simp [r11_Put.j2] at h⟩
 | k+1=>by
  obtain ⟨ih0,ih1,ih2,ih3⟩:=r11_Put.mono_l k
  refine ⟨?_, ?_, ?_, ?_⟩
  ·
   intro y0 y1 y2 y3 y4 y5
   unfold r11_Put.j0
   repeat' with_reducible first|apply ih0|apply ih1|apply ih2|apply ih3|apply r05_Put.mono|apply r05_PutNum.mono|apply r11_Right.mono|apply yLr|apply yLn|apply yLi|apply yLb|intro _
  ·
   intro y0 y1 y2 y3 y4 y5 y6 y7
   unfold r11_Put.l0
   repeat' with_reducible first|apply ih0|apply ih1|apply ih2|apply ih3|apply r05_Put.mono|apply r05_PutNum.mono|apply r11_Right.mono|apply yLr|apply yLn|apply yLi|apply yLb|intro _
  ·
   intro y0 y1 y2 y3 y4 y5 y6 y7 y8
   unfold r11_Put.j3
   repeat' with_reducible first|apply ih0|apply ih1|apply ih2|apply ih3|apply r05_Put.mono|apply r05_PutNum.mono|apply r11_Right.mono|apply yLr|apply yLn|apply yLi|apply yLb|intro _
  intro y0 y1 y2 y3 y4 y5 y6 y7 y8 y9 y10
  unfold r11_Put.j2
  repeat' with_reducible first|apply ih0|apply ih1|apply ih2|apply ih3|apply r05_Put.mono|apply r05_PutNum.mono|apply r11_Right.mono|apply yLr|apply yLn|apply yLi|apply yLb|intro _
theorem r11_Put.mono : ∀ a0 a1 a2 a3 a4 k,LeO (r11_Put.f k a0 a1 a2 a3 a4) (r11_Put.f (k+1) a0 a1 a2 a3 a4):=by
 intro a0 a1 a2 a3 a4 k
 obtain ⟨ih0,ih1,ih2,ih3⟩:=r11_Put.mono_l k
 unfold r11_Put.f
 repeat' with_reducible first|apply ih0|apply ih1|apply ih2|apply ih3|apply r05_Put.mono|apply r05_PutNum.mono|apply r11_Right.mono|apply yLr|apply yLn|apply yLi|apply yLb|intro _
def r11_Put.T10 : Bool × List (List Nat × List Nat):=(true, [([], []),([], []),([0,1], [0,1]),([2], [2]),([], []),([], []),([4,5], [4,5]),([6], [6]),([3,7], [3,7]),([8], [8]),([9,0,1,2,3,4,5,6,7,8,9], [9])])
def r11_Put.B10 : List Nat := [0,0,3,7,0,0,48,112,255,511,1023]
theorem r11_Put.tab10 : rtab .any (opsOf Try.f38 10)=r11_Put.T10:=by kernel_rfl
theorem r11_Put.bits10 : waitsOk r11_Put.T10.2 r11_Put.B10=true:=by kernel_rfl
def r11_Put.T18 : Bool × List (List Nat × List Nat):=(true, [([], []),([], []),([], []),([1,2], [1,2]),([3], [3]),([4], [4]),([0,5], [0,5]),([6], [6]),([7], [7]),([7], [7]),([8,6,0,1,2,3,4,5,6,7,8], [8]),([9,10,0,1,2,3,4,5,6,7,8,9,10], [9])])
def r11_Put.B18 : List Nat := [0,0,0,6,14,30,63,127,255,255,511,2047]
theorem r11_Put.tab18 : rtab .any (opsOf Try.f38 18)=r11_Put.T18:=by kernel_rfl
theorem r11_Put.bits18 : waitsOk r11_Put.T18.2 r11_Put.B18=true:=by kernel_rfl
set_option maxHeartbeats 8000000 in
set_option maxRecDepth 100000 in
theorem r11_Put.calls (k : Nat) (aK : Int) (az : Nat→Prop) (aN : Option Addr) (aQ : Nat) (aA : List Int) (A1 : Option Addr) (c1 : Nat) (l1 : List Int) (A2 : Option Addr) (c2 : Nat) (l2 : List Int) (a3 : Bool) (r1 : Int) (r2 : List Int) (r3 : Int) (w : World) (b5 : Kd.V (Kd.int .i64) 3 w w.heap.size (fun k_=>az k_) (.slice aN aA.length aQ) aA) (hr1 : Kd.C (Kd.int .i64) w A1 l1.length l1) (hc1 : l1.length≤c1) (hr2 : Kd.C (Kd.int .i64) w A2 l2.length l2) (hc2 : l2.length≤c2) (h : r11_Put.f k aK aA l1 l2 a3=some (r1,r2,r3)) :
  Calls Try.prog 38 #[.agg #[.int .u64 aK, .slice aN aA.length aQ], .slice A1 l1.length c1, .slice A2 l2.length c2, .bool a3] w fun e w' => ∃ v1_ : Value,e=.returned (.tuple #[.agg #[.int .u64 r1,v1_], .int .i64 r3])∧Kd.V (Kd.int .i64) 3 w' w.heap.size (fun k_=>(az k_∨w.heap.size≤k_)) v1_ r2∧Below w.heap.size w w' := by
 have hu69:=Try.underlying69
 have aW:=zm (show Kd.V (Kd.int .i64) 3 w w.heap.size (fun k_=>(az k_∨w.heap.size≤k_)) (.slice aN aA.length aQ) aA from zy b5 (fun k_ hk => .inl hk))
 have HR1:=zm hr1;have HC1:=zm hc1;clear hr1 hc1;have HR2:=zm hr2;have HC2:=zm hc2;clear hr2 hc2;have HB:=zm (Below.refl w.heap.size w);have H:=h
 unfold r11_Put.f at H
 clear h;have HC5:=zm H;clear H
 go_enter Try.func38,Try.ntmps38
 go_upto_region 1 with (first|((with_reducible refine gate_dst (N:=4) rfl ?_);refine ybx 4 #[.int .u64 aK, .slice aN aA.length aQ] 69 ?_;intro ay hg w6 hbox hb;replace aW:=yVe aW hg hb;have ah:=zm (hbox);have cS:=ygw hg;have cT:=ygw hg;replace HB:=ybs hb;clear hb hbox hg)|((with_reducible refine gate_dst (N:=8) rfl ?_);refine ybx 8 #[.int .u64 0, .slice none 0 0] 69 ?_;intro ao hg w7 hbox hb;replace aW:=yVe aW hg hb;have af:=zm (hbox);have cU:=ygw hg;have cV:=ygw hg;replace HB:=ybs hb;have aH:=ynl ah hg;have aI:=yng ah hg;replace ah:=ybb ah hb;clear hb hbox hg))
 (try simp only [Act.put,List.setIfInBounds_toArray,List.set_cons_zero,List.set_cons_succ])
 go_cut [26] (fun v26 wc => ∃ (kq : Nat) (bc : Bool),v26=.bool bc∧Aside0 (r11_Put.j0 kq l1 l2 a3 bc aK aA=some (r1,r2,r3))∧Aside0 (kq≤k)∧Aside0 (Kd.V (Kd.int .i64) 3 wc w.heap.size (fun k_=>(az k_∨w.heap.size≤k_)∧k_≠ay∧k_≠ao) (.slice aN aA.length aQ) aA)∧Aside0 (wc.heap[ay]? = some (.cells #[.int .u64 aK,(.slice aN aA.length aQ)] 69 (0,0)))∧Aside0 (wc.heap[ao]? = some (.cells #[.int .u64 0,(.slice none 0 0)] 69 (0,0)))∧Aside0 (Below w.heap.size w wc))
 case first =>
  have H:=HC5.out;clear HC5
  obtain ⟨bN,A8,H⟩:=ybi H
  by_cases c9 : bN=true
  ·
   subst c9
   rw [if_pos rfl] at H
   by_cases c10 : a3=true
   ·
    subst c10
    rw [if_pos rfl] at H
    have H' := zm H
    clear H
    go_wp2_with (first|((with_reducible refine gate_callee (f:=47) rfl ?_);refine ygl 16 Try.func47 #[.slice A1 l1.length c1] ?_;(with_reducible refine (r11_Right.calls k _ _ l1 true _ ?aT HC1.out A8.out).mono ?_);(case aT=>exact ycb HR1);rintro e w' ⟨rfl,⟨nd,rfl⟩⟩;refine ⟨_,rfl, ?_⟩))
    go_meet
    case rel=>exact ⟨_,(false),yq,H',⟨yo⟩,⟨yV0 aW⟩,⟨yk ah⟩,⟨yk af⟩,⟨yhb⟩⟩
   replace c10:=Bool.eq_false_iff.mpr c10
   subst c10
   rw [ynf] at H
   obtain ⟨bk,A11,H⟩:=ybi H
   have H' := zm H
   clear H
   go_wp2_with (first|((with_reducible refine gate_callee (f:=47) rfl ?_);refine ygl 16 Try.func47 #[.slice A1 l1.length c1] ?_;(with_reducible refine (r11_Right.calls k _ _ l1 true _ ?aT HC1.out A8.out).mono ?_);(case aT=>exact ycb HR1);rintro e w' ⟨rfl,⟨nd,rfl⟩⟩;refine ⟨_,rfl, ?_⟩)|(go_at_call 47;(with_reducible refine (r11_Right.calls k _ _ l2 bk _ ?aT HC2.out A11.out).mono ?_);(case aT=>exact ycb HR2);rintro e w' ⟨rfl,⟨nd,rfl⟩⟩))
   go_meet
   case rel=>exact ⟨_,(!bk),yq,H',⟨yo⟩,⟨yV0 aW⟩,⟨yk ah⟩,⟨yk af⟩,⟨yhb⟩⟩
  replace c9:=Bool.eq_false_iff.mpr c9
  subst c9
  rw [ynf] at H
  have H' := zm H
  clear H
  go_wp2_with (first|((with_reducible refine gate_callee (f:=47) rfl ?_);refine ygl 16 Try.func47 #[.slice A1 l1.length c1] ?_;(with_reducible refine (r11_Right.calls k _ _ l1 false _ ?aT HC1.out A8.out).mono ?_);(case aT=>exact ycb HR1);rintro e w' ⟨rfl,⟨nd,rfl⟩⟩;refine ⟨_,rfl, ?_⟩))
  go_meet
  case rel=>exact ⟨_,(true),yq,H',⟨yo⟩,⟨yV0 aW⟩,⟨yk ah⟩,⟨yk af⟩,⟨yhb⟩⟩
 case rest =>
  clear HC5
  try clear c1
  try clear c2
  obtain ⟨kq,bc,rfl,HA,HJ4,ac,ah,af,HB⟩:=hcut
  obtain ⟨kj4,rfl⟩:=ysu kq (fun h=>by subst h;exact absurd HA.out (by simp [r11_Put.j0]))
  have H:=HA.out;clear HA
  simp only [r11_Put.j0] at H
  by_cases c12 : bc=true
  ·
   subst c12
   rw [if_pos rfl] at H
   simp only [Option.some.injEq,Prod.mk.injEq] at H
   obtain ⟨rfl,rfl,rfl⟩:=H
   have:=aH.out
   have:=aI.out
   obtain ⟨bl,bm,bn,bo⟩:=yc2 ah
   obtain ⟨bp,bq,br,bs⟩:=yc2 af
   go_wp2
   refine bodyPost_ret (results_ct rfl _ _ ao 69 #[.int .u64 aK, .slice aN aA.length aQ] (0,0) _ rfl (ykp af) Try.underlying69 rfl (by kernel_rfl)) rfl ?_
   exact ⟨_,ye,yV0 ac,yhb⟩
  replace c12:=Bool.eq_false_iff.mpr c12
  subst c12
  rw [ynf] at H
  have H' := zm H
  clear H
  have:=aH.out
  have:=aI.out
  obtain ⟨bu,bv,bw,bx⟩:=yc2 ah
  go_wp2_with (first|((with_reducible refine gate_dst (N:=10) rfl ?_);refine ybx 10 #[.int .u64 0, .slice none 0 0] 69 ?_;intro am hg w18 hbox hb;replace ac:=yVe ac hg hb;have ag:=zm (hbox);have cW:=ygw hg;have cX:=ygw hg;replace HB:=ybs hb;have au:=ynl ah hg;have av:=yng ah hg;replace ah:=ybb ah hb;have aw:=ynl af hg;have ax:=yng af hg;replace af:=ybb af hb;clear hb hbox hg;have:=av.out;have:=au.out;have:=ax.out;have:=aw.out;obtain ⟨bz,bA,bB,bC⟩:=yc2 ag))
  go_loopg [11] kj4 (fun kq v11 w' => ∃ (ae : Int) (aJ : Int) (ai : Int) (aj : List Int) (aC : Value),v11=.int .i64 ae∧Aside0 (r11_Put.l0 kq l1 l2 a3 ae aK aA ai aj=some (r1,r2,r3))∧Aside0 (kq≤kj4)∧Aside0 (Kd.V (Kd.int .i64) 3 w' w.heap.size (fun k_=>(az k_∨w.heap.size≤k_)∧k_≠ay∧k_≠ao∧k_≠am) (.slice aN aA.length aQ) aA)∧Aside0 (Kd.V (Kd.int .i64) 3 w' w.heap.size (fun k_=>(az k_∨w.heap.size≤k_)∧k_≠ay∧k_≠ao∧k_≠am) aC aj)∧Aside0 (w'.heap[ay]? = some (.cells #[.int .u64 aK,(.slice aN aA.length aQ)] 69 (0,0)))∧Aside0 (w'.heap[ao]? = some (.cells #[.int .u64 aJ,(.slice none 0 0)] 69 (0,0)))∧Aside0 (w'.heap[am]? = some (.cells #[.int .u64 ai,aC] 69 (0,0)))∧Aside0 (Below w.heap.size w w'))
  case atStart=>exact ⟨(0),(0),(aK),(aA),(.slice aN aA.length aQ),yq,H',⟨Nat.le_refl _⟩,⟨yV0 ac⟩,⟨yV0 ac⟩,⟨yk ah⟩,⟨yk af⟩,⟨ykp ag⟩,⟨yhb⟩⟩
  case round =>
   clear H'
   try clear bl
   try clear bm
   try clear bp
   try clear bq
   try clear bu
   try clear bv
   try clear bz
   try clear bA
   try clear bn
   try clear bo
   try clear br
   try clear bs
   try clear bw
   try clear bx
   try clear bB
   try clear bC
   obtain ⟨ae,aJ,ai,aj,aC,rfl,HA,HK2,ac,aa,ah,af,ag,HB⟩:=hrel
   obtain ⟨k2,rfl⟩:=ysu gk (fun h=>by subst h;exact absurd HA.out (by simp [r11_Put.l0]))
   have H:=HA.out;clear HA
   simp only [r11_Put.l0] at H
   by_cases c22 : ae < 5
   ·
    rw [if_pos c22] at H
    have bh:=yD c22
    clear c22;have bO:=zm H;clear H
    go_upto_if 35 with (fail)
    go_cut [13] (fun v13 wc => ∃ (kq : Nat) (aX : Bool) (aM : Int) (ak : Int) (al : List Int) (aC : Value),v13=.bool aX∧Aside0 (r11_Put.j3 kq l1 l2 a3 ae aX aK aA ak al=some (r1,r2,r3))∧Aside0 (kq≤k2)∧Aside0 (Kd.V (Kd.int .i64) 3 wc w.heap.size (fun k_=>(az k_∨w.heap.size≤k_)∧k_≠ay∧k_≠ao∧k_≠am) (.slice aN aA.length aQ) aA)∧Aside0 (Kd.V (Kd.int .i64) 3 wc w.heap.size (fun k_=>(az k_∨w.heap.size≤k_)∧k_≠ay∧k_≠ao∧k_≠am) aC al)∧Aside0 (wc.heap[ay]? = some (.cells #[.int .u64 aK,(.slice aN aA.length aQ)] 69 (0,0)))∧Aside0 (wc.heap[ao]? = some (.cells #[.int .u64 aM,(.slice none 0 0)] 69 (0,0)))∧Aside0 (wc.heap[am]? = some (.cells #[.int .u64 ak,aC] 69 (0,0)))∧Aside0 (Below w.heap.size w wc))
    case first =>
     have H:=bO.out;clear bO
     by_cases c24 : a3=true
     ·
      subst c24
      rw [if_pos rfl] at H
      have H' := zm H
      clear H
      go_wp2
      go_meet
      case rel=>exact ⟨_,(true),(aJ),(ai),(aj),(aC),yq,H',⟨yom2 HJ4 HK2⟩,⟨yr ac⟩,⟨yr aa⟩,⟨yk ah⟩,⟨yk af⟩,⟨yk ag⟩,⟨yhb⟩⟩
     replace c24:=Bool.eq_false_iff.mpr c24
     subst c24
     rw [ynf] at H
     obtain ⟨c25,H⟩:=yif H
     have bi : decide (0≤ae)=true:=decide_eq_true c25
     clear c25
     (first|rw [bi]|(simp only [i64_w,i32_w];rw [bi])|skip)
     obtain ⟨c26,H⟩:=yif H
     have b6 : decide (ae < (l1.length : Int))=true:=decide_eq_true c26
     clear c26
     obtain ⟨c27,H⟩:=yif H
     have b7 : decide (ae < (l2.length : Int))=true:=decide_eq_true c27
     clear c27;have bP:=zm H;clear H
     try go_wp2
     replace ac:=zm (zC ac.out)
     replace aa:=zm (zC aa.out)
     replace ah:=zm (zj ah.out)
     replace af:=zm (zj af.out)
     replace ag:=zm (zj ag.out)
     replace HB:=zm (zf HB.out)
     have bD : 0≤(ae : Int):=yt
     have bE : ae < (l1.length : Int):=yt
     obtain ⟨b8,cn,aU⟩:=Kd.at_int HR1.out ae bD bE
     have hw810_0:=aU
     cases cn
     replace aU:=yhx HB aU
     replace bD:=eq_true bD
     replace bE:=eq_true bE
     have bF : 0≤(ae : Int):=yt
     have bG : ae < (l2.length : Int):=yt
     obtain ⟨b9,co,aV⟩:=Kd.at_int HR2.out ae bF bG
     have hw811_0:=aV
     cases co
     replace aV:=yhx HB aV
     replace bF:=eq_true bF
     replace bG:=eq_true bG
     refine yst (fun w' => w'.cell? (b8.add (ae).toNat)=some (.int .i64 (rd l1 ae))∧w'.cell? (b9.add (ae).toNat)=some (.int .i64 (rd l2 ae))) [] 11 r11_Put.tab10 r11_Put.bits10 (fun hHeld HT_ HW_ => ?_)
     generalize wr.drew=w29 at ac aa ah af ag HB aU aV hHeld ⊢
     refine yp 0 36 HT_ ?_
     refine yp 1 37 HT_ ?_
     refine yp 2 38 HT_ ?_
     refine yp 4 40 HT_ ?_
     refine yp 5 41 HT_ ?_
     refine yp 6 42 HT_ ?_
     refine yl 3 39 HT_ HW_ hHeld ?_
     refine yl 7 43 HT_ HW_ hHeld ?_
     refine yp 8 44 HT_ ?_
     refine yp 9 45 HT_ ?_
     refine yp 10 14 HT_ ?_
     refine done_ (done_of HT_.out (by kernel_rfl)) ?_
     go_upto_region 11 with (fail)
     go_cut [51] (fun v51 wc => ∃ (kq : Nat) (aY : Bool),v51=.bool aY∧Aside0 (r11_Put.j2 kq l1 l2 false ae false (wrap64 ((wrap64 ((rd l1 ae) - (rd l2 ae)))+3)) aY aK aA ai aj=some (r1,r2,r3))∧Aside0 (kq≤k2)∧Aside0 (Kd.V (Kd.int .i64) 3 wc w.heap.size (fun k_=>(az k_∨w.heap.size≤k_)∧k_≠ay∧k_≠ao∧k_≠am) (.slice aN aA.length aQ) aA)∧Aside0 (Kd.V (Kd.int .i64) 3 wc w.heap.size (fun k_=>(az k_∨w.heap.size≤k_)∧k_≠ay∧k_≠ao∧k_≠am) aC aj)∧Aside0 (wc.heap[ay]? = some (.cells #[.int .u64 aK,(.slice aN aA.length aQ)] 69 (0,0)))∧Aside0 (wc.heap[ao]? = some (.cells #[.int .u64 aJ,(.slice none 0 0)] 69 (0,0)))∧Aside0 (wc.heap[am]? = some (.cells #[.int .u64 ai,aC] 69 (0,0)))∧Aside0 (Below w.heap.size w wc))
     case first =>
      have H:=bP.out;clear bP
      by_cases c30 : (wrap64 ((wrap64 ((rd l1 ae) - (rd l2 ae)))+3)) < 0
      ·
       rw [if_pos c30] at H
       have aZ:=yD c30
       clear c30
       (first|rw [aZ]|(simp only [i64_w,i32_w];rw [aZ])|skip)
       have H' := zm H
       clear H
       go_wp2
       go_meet
       case rel=>exact ⟨_,(true),yq,H',⟨yom2 HJ4 HK2⟩,⟨yr ac⟩,⟨yr aa⟩,⟨yk ah⟩,⟨yk af⟩,⟨yk ag⟩,⟨yhb⟩⟩
      rw [if_neg c30] at H
      have aZ:=yG c30
      clear c30
      (first|rw [aZ]|(simp only [i64_w,i32_w];rw [aZ])|skip)
      have H' := zm H
      clear H
      go_wp2
      go_meet
      case rel=>exact ⟨_,(decide ((wrap64 ((wrap64 ((rd l1 ae) - (rd l2 ae)))+3)) > 6)),yq,H',⟨yom2 HJ4 HK2⟩,⟨yr ac⟩,⟨yr aa⟩,⟨yk ah⟩,⟨yk af⟩,⟨yk ag⟩,⟨yhb⟩⟩
     case rest =>
      clear bP
      try clear bh
      try clear bi
      try clear b6
      try clear b7
      try clear aU
      try clear aV
      try clear bD
      try clear bF
      try clear bE
      try clear bG
      obtain ⟨kq,aY,rfl,HA,ca,ac,aa,ah,af,ag,HB⟩:=hcut
      obtain ⟨bH,rfl⟩:=ysu kq (fun h=>by subst h;exact absurd HA.out (by simp [r11_Put.j2]))
      have H:=HA.out;clear HA
      simp only [r11_Put.j2] at H
      by_cases c31 : aY=true
      ·
       subst c31
       rw [if_pos rfl] at H
       obtain ⟨⟨bQ,bI,bR⟩,A32,H⟩:=ybi H
       try dsimp only at H
       by_cases c33 : bR=0
       ·
        rw [if_pos c33] at H
        obtain ⟨cb,ce⟩:=yE c33
        clear c33
        have H' := zm H
        clear H
        have:=av.out
        have:=au.out
        have:=ax.out
        have:=aw.out
        obtain ⟨_,_,_,_⟩:=yc2 ag
        obtain ⟨cp,cq,cr⟩:=Kd.V_slice aa.out
        subst cr
        go_wp2_with (first|((with_reducible refine gate_callee (f:=37) rfl ?_);refine ygl 57 Try.func37 #[.agg #[.int .u64 ai, .slice cp aj.length cq], .int .i64 7, .int .i64 (7+1), .int .i64 8] ?_;(with_reducible refine (r05_Put.calls bH ai (fun k_=>((az k_∨w.heap.size≤k_)∧(k_≠ay∧(k_≠ao∧k_≠am)))) _ _ aj 7 (7+1) 8 bQ bI bR _ aa.out A32.out).mono ?_);rintro e w38 ⟨ct,rfl,ho0,hb⟩;refine ⟨_,rfl, ?_⟩;replace ac:=yVb ac hb;replace aa:=yVb aa hb;have bd:=yho (fun k_=>(az k_∨w.heap.size≤k_)∧k_≠ay∧k_≠ao∧k_≠am) ho0 (fun k_ hk_=>⟨Or.elim hk_ (fun hs_=>hs_.1) (fun hn_=>(.inr (Nat.le_trans (zE yhb) hn_))),yoB ah hk_,yoB af hk_,yoB ag hk_⟩);replace ah:=ybb ah hb;replace af:=ybb af hb;replace ag:=ybb ag hb;replace HB:=ybs hb;(try clear hb);(try clear ho0);obtain ⟨_,_,_,_⟩:=yc2 ag;obtain ⟨cu,cv,cw⟩:=Kd.V_slice bd.out;subst cw))
        go_meet
        case rel=>exact ⟨_,(true),(aJ),(bQ),(bI),(.slice cu bI.length cv),yq,H',⟨yom3 HJ4 HK2 ca⟩,⟨yV0 ac⟩,⟨yV0 bd⟩,⟨yk ah⟩,⟨yk af⟩,⟨ykp ag⟩,⟨yhb⟩⟩
       rw [if_neg c33] at H
       obtain ⟨cb,ce⟩:=yF c33
       simp only [Option.some.injEq,Prod.mk.injEq] at H
       obtain ⟨rfl,rfl,rfl⟩:=H
       have:=av.out
       have:=au.out
       have:=ax.out
       have:=aw.out
       obtain ⟨_,_,_,_⟩:=yc2 ag
       obtain ⟨cx,cy,cz⟩:=Kd.V_slice aa.out
       subst cz
       go_wp2_with (first|((with_reducible refine gate_callee (f:=37) rfl ?_);refine ygl 57 Try.func37 #[.agg #[.int .u64 ai, .slice cx aj.length cy], .int .i64 7, .int .i64 (7+1), .int .i64 8] ?_;(with_reducible refine (r05_Put.calls bH ai (fun k_=>((az k_∨w.heap.size≤k_)∧(k_≠ay∧(k_≠ao∧k_≠am)))) _ _ aj 7 (7+1) 8 bQ bI bR _ aa.out A32.out).mono ?_);rintro e w45 ⟨ct,rfl,ho0,hb⟩;refine ⟨_,rfl, ?_⟩;replace ac:=yVb ac hb;replace aa:=yVb aa hb;have bd:=yho (fun k_=>(az k_∨w.heap.size≤k_)∧k_≠ay∧k_≠ao∧k_≠am) ho0 (fun k_ hk_=>⟨Or.elim hk_ (fun hs_=>hs_.1) (fun hn_=>(.inr (Nat.le_trans (zE yhb) hn_))),yoB ah hk_,yoB af hk_,yoB ag hk_⟩);replace ah:=ybb ah hb;replace af:=ybb af hb;replace ag:=ybb ag hb;replace HB:=ybs hb;(try clear hb);(try clear ho0);obtain ⟨_,_,_,_⟩:=yc2 ag;obtain ⟨da,db,cA⟩:=Kd.V_slice bd.out;subst cA;have:=aH.out;have:=aI.out;obtain ⟨_,_,_,_⟩:=yc2 ah;obtain ⟨_,_,_,_⟩:=yc2 af))
       refine bodyPost_ret (results_ct rfl _ _ ao 69 #[.int .u64 aK, .slice aN aA.length aQ] (0,0) _ rfl (ykp af) Try.underlying69 rfl (by kernel_rfl)) rfl ?_
       exact ⟨_,ye,yV0 ac,yhb⟩
      replace c31:=Bool.eq_false_iff.mpr c31
      subst c31
      rw [ynf] at H
      obtain ⟨⟨bS,bJ,bT⟩,A51,H⟩:=ybi H
      try dsimp only at H
      by_cases c52 : bT=0
      ·
       rw [if_pos c52] at H
       obtain ⟨cf,cg⟩:=yE c52
       clear c52
       have H' := zm H
       clear H
       have:=av.out
       have:=au.out
       have:=ax.out
       have:=aw.out
       obtain ⟨_,_,_,_⟩:=yc2 ag
       obtain ⟨cB,cC,cD⟩:=Kd.V_slice aa.out
       subst cD
       go_wp2_with (first|((with_reducible refine gate_callee (f:=37) rfl ?_);refine ygl 57 Try.func37 #[.agg #[.int .u64 ai, .slice cB aj.length cC], .int .i64 (wrap64 ((wrap64 ((rd l1 ae) - (rd l2 ae)))+3)), .int .i64 (wrap64 ((wrap64 ((wrap64 ((rd l1 ae) - (rd l2 ae)))+3))+1)), .int .i64 8] ?_;(with_reducible refine (r05_Put.calls bH ai (fun k_=>((az k_∨w.heap.size≤k_)∧(k_≠ay∧(k_≠ao∧k_≠am)))) _ _ aj (wrap64 ((wrap64 ((rd l1 ae) - (rd l2 ae)))+3)) (wrap64 ((wrap64 ((wrap64 ((rd l1 ae) - (rd l2 ae)))+3))+1)) 8 bS bJ bT _ aa.out A51.out).mono ?_);rintro e w57 ⟨cE,rfl,ho0,hb⟩;refine ⟨_,rfl, ?_⟩;replace ac:=yVb ac hb;replace aa:=yVb aa hb;have bf:=yho (fun k_=>(az k_∨w.heap.size≤k_)∧k_≠ay∧k_≠ao∧k_≠am) ho0 (fun k_ hk_=>⟨Or.elim hk_ (fun hs_=>hs_.1) (fun hn_=>(.inr (Nat.le_trans (zE yhb) hn_))),yoB ah hk_,yoB af hk_,yoB ag hk_⟩);replace ah:=ybb ah hb;replace af:=ybb af hb;replace ag:=ybb ag hb;replace HB:=ybs hb;(try clear hb);(try clear ho0);obtain ⟨_,_,_,_⟩:=yc2 ag;obtain ⟨cF,cG,cH⟩:=Kd.V_slice bf.out;subst cH))
       go_meet
       case rel=>exact ⟨_,(false),(aJ),(bS),(bJ),(.slice cF bJ.length cG),yq,H',⟨yom3 HJ4 HK2 ca⟩,⟨yV0 ac⟩,⟨yV0 bf⟩,⟨yk ah⟩,⟨yk af⟩,⟨ykp ag⟩,⟨yhb⟩⟩
      rw [if_neg c52] at H
      obtain ⟨cf,cg⟩:=yF c52
      simp only [Option.some.injEq,Prod.mk.injEq] at H
      obtain ⟨rfl,rfl,rfl⟩:=H
      have:=av.out
      have:=au.out
      have:=ax.out
      have:=aw.out
      obtain ⟨_,_,_,_⟩:=yc2 ag
      obtain ⟨cI,cJ,cK⟩:=Kd.V_slice aa.out
      subst cK
      go_wp2_with (first|((with_reducible refine gate_callee (f:=37) rfl ?_);refine ygl 57 Try.func37 #[.agg #[.int .u64 ai, .slice cI aj.length cJ], .int .i64 (wrap64 ((wrap64 ((rd l1 ae) - (rd l2 ae)))+3)), .int .i64 (wrap64 ((wrap64 ((wrap64 ((rd l1 ae) - (rd l2 ae)))+3))+1)), .int .i64 8] ?_;(with_reducible refine (r05_Put.calls bH ai (fun k_=>((az k_∨w.heap.size≤k_)∧(k_≠ay∧(k_≠ao∧k_≠am)))) _ _ aj (wrap64 ((wrap64 ((rd l1 ae) - (rd l2 ae)))+3)) (wrap64 ((wrap64 ((wrap64 ((rd l1 ae) - (rd l2 ae)))+3))+1)) 8 bS bJ bT _ aa.out A51.out).mono ?_);rintro e w64 ⟨cE,rfl,ho0,hb⟩;refine ⟨_,rfl, ?_⟩;replace ac:=yVb ac hb;replace aa:=yVb aa hb;have bf:=yho (fun k_=>(az k_∨w.heap.size≤k_)∧k_≠ay∧k_≠ao∧k_≠am) ho0 (fun k_ hk_=>⟨Or.elim hk_ (fun hs_=>hs_.1) (fun hn_=>(.inr (Nat.le_trans (zE yhb) hn_))),yoB ah hk_,yoB af hk_,yoB ag hk_⟩);replace ah:=ybb ah hb;replace af:=ybb af hb;replace ag:=ybb ag hb;replace HB:=ybs hb;(try clear hb);(try clear ho0);obtain ⟨_,_,_,_⟩:=yc2 ag;obtain ⟨dc,dd,cL⟩:=Kd.V_slice bf.out;subst cL;have:=aH.out;have:=aI.out;obtain ⟨_,_,_,_⟩:=yc2 ah;obtain ⟨_,_,_,_⟩:=yc2 af))
      refine bodyPost_ret (results_ct rfl _ _ ao 69 #[.int .u64 aK, .slice aN aA.length aQ] (0,0) _ rfl (ykp af) Try.underlying69 rfl (by kernel_rfl)) rfl ?_
      exact ⟨_,ye,yV0 ac,yhb⟩
    case rest =>
     clear bO
     try clear bh
     obtain ⟨kq,aX,aM,ak,al,aC,rfl,HA,bK,ac,aa,ah,af,ag,HB⟩:=hcut
     obtain ⟨bL,rfl⟩:=ysu kq (fun h=>by subst h;exact absurd HA.out (by simp [r11_Put.j3]))
     have H:=HA.out;clear HA
     simp only [r11_Put.j3] at H
     by_cases c70 : aX=true
     ·
      subst c70
      rw [if_pos rfl] at H
      obtain ⟨c71,H⟩:=yif H
      have cY : decide (0≤ae)=true:=decide_eq_true c71
      clear c71
      obtain ⟨c72,H⟩:=yif H
      have cZ : decide (ae < (l1.length : Int))=true:=decide_eq_true c72
      clear c72
      obtain ⟨⟨bU,bM,bV⟩,A73,H⟩:=ybi H
      try dsimp only at H
      by_cases c74 : bV=0
      ·
       rw [if_pos c74] at H
       obtain ⟨ch,ci⟩:=yE c74
       clear c74
       have H' := zm H
       clear H
       try go_wp2
       replace ac:=zm (zC ac.out)
       replace aa:=zm (zC aa.out)
       replace ah:=zm (zj ah.out)
       replace af:=zm (zj af.out)
       replace ag:=zm (zj ag.out)
       replace HB:=zm (zf HB.out)
       have a7 : 0≤(ae : Int):=yt
       have a8 : ae < (l1.length : Int):=yt
       obtain ⟨bj,bW,aG⟩:=Kd.at_int HR1.out ae a7 a8
       have hw822_0:=aG
       cases bW
       replace aG:=yhx HB aG
       replace a7:=eq_true a7
       replace a8:=eq_true a8
       obtain ⟨bX,bY,cj⟩:=Kd.V_slice aa.out
       (first|subst cj|(injection cj with f1_ f2_ f3_;have f4_:=f1_.symm;have f5_:=f3_.symm;clear f1_ f2_ f3_;subst f4_;subst f5_))
       refine yst (fun w' => w'.cell? ⟨am,0,none⟩=some (.int .u64 ak)∧w'.cell? ⟨am,1,none⟩=some (.slice bX al.length bY)∧w'.cell? (bj.add (ae).toNat)=some (.int .i64 (rd l1 ae))) [10] 12 r11_Put.tab18 r11_Put.bits18 (fun hHeld HT_ HW_ => ?_)
       generalize wc.drew=w75 at ac aa ah af ag HB aG hHeld ⊢
       refine yp 1 67 HT_ ?_
       refine yp 2 68 HT_ ?_
       refine yp 3 69 HT_ ?_
       refine yl 0 66 HT_ HW_ hHeld ?_
       refine yl 4 70 HT_ HW_ hHeld ?_
       refine yp 5 71 HT_ ?_
       refine yw 6 72 HT_ (fun K hK => ?_)
       refine ygs Try.func41 #[.agg #[.int .u64 ak, .slice bX al.length bY], .int .u64 (IntKind.u64.wrap (rd l1 ae)), .int .u64 45] ?_
       with_reducible refine (r05_PutNum.calls bL ak (fun k_=>((az k_∨w.heap.size≤k_)∧(k_≠ay∧(k_≠ao∧k_≠am)))) _ _ al (IntKind.u64.wrap (rd l1 ae)) 45 bU bM bV _ ?aT A73.out).mono ?_
       (case aT=>exact aa.out)
       rintro e w77 ⟨cM,rfl,ho0,hb⟩
       refine ⟨_,rfl, ?_⟩
       replace ac:=yVb ac hb
       replace aa:=yVb aa hb
       have bg:=yho (fun k_=>(az k_∨w.heap.size≤k_)∧k_≠ay∧k_≠ao∧k_≠am) ho0 (fun k_ hk_=>⟨Or.elim hk_ (fun hs_=>hs_.1) (fun hn_=>(.inr (Nat.le_trans (zE yhb) hn_))),yoB ah hk_,yoB af hk_,yoB ag hk_⟩)
       replace ah:=ybb ah hb
       replace af:=ybb af hb
       replace ag:=ybb ag hb
       replace HB:=ybs hb
       (try clear hb)
       (try clear ho0)
       obtain ⟨cN,cO,ck⟩:=Kd.V_slice bg.out
       (first|subst ck|(injection ck with f1_ f2_ f3_;have f4_:=f1_.symm;have f5_:=f3_.symm;clear f1_ f2_ f3_;subst f4_;subst f5_))
       refine hK.out _ _ yH (fun hHeld => ?_)
       clear hK K
       refine ym (some 72) ?_
       refine yp 7 65 HT_ ?_
       refine yp 8 73 HT_ ?_
       refine yp 9 74 HT_ ?_
       refine last_ (i:=10) (N:=none) #[true,true,true,true,true,true,true,true,true,true,true,false] rfl rfl (one_of HT_.out (by kernel_rfl)) (by decide) (fun K hK => ?_)
       have de : w77.cell? ⟨am,0,none⟩=some (.int .u64 ak):=(zs ag.out 0).trans rfl
       have hfs78:=zx ag.out 0
       have:=au.out
       have:=aw.out
       have:=av.out
       have:=ax.out
       have df : w77.cell? ⟨am,1,none⟩=some (.slice bX al.length bY):=(zs ag.out 1).trans rfl
       have hfs80:=zx ag.out 1
       have:=au.out
       have:=aw.out
       have:=av.out
       have:=ax.out
       refine skip_ (w1 := ?_) (by rfl) rfl ?_ ?_
       rotate_left
       ·
        go_simp
        rfl
       refine hK.out _ _ ?_
       clear hK K
       refine yp 11 12 HT_ ?_
       refine done_ (done_of HT_.out (by kernel_rfl)) ?_
       try go_wp2
       go_roundg bL
       case measure=>exact yom3 HJ4 HK2 bK
       case rel=>exact ⟨(wrap64 (ae+1)),(aM),(bU),(bM),(.slice cN bM.length cO),yq,H',⟨yom3 HJ4 HK2 bK⟩,⟨yV0 ac⟩,⟨yV0 bg⟩,⟨yk ah⟩,⟨yk af⟩,⟨ykp ag⟩,⟨yhb⟩⟩
      rw [if_neg c74] at H
      obtain ⟨ch,ci⟩:=yF c74
      simp only [Option.some.injEq,Prod.mk.injEq] at H
      obtain ⟨rfl,rfl,rfl⟩:=H
      try go_wp2
      replace ac:=zm (zC ac.out)
      replace aa:=zm (zC aa.out)
      replace ah:=zm (zj ah.out)
      replace af:=zm (zj af.out)
      replace ag:=zm (zj ag.out)
      replace HB:=zm (zf HB.out)
      have a7 : 0≤(ae : Int):=yt
      have a8 : ae < (l1.length : Int):=yt
      obtain ⟨bj,bW,aG⟩:=Kd.at_int HR1.out ae a7 a8
      have hw822_0:=aG
      cases bW
      replace aG:=yhx HB aG
      replace a7:=eq_true a7
      replace a8:=eq_true a8
      obtain ⟨bZ,b4,cl⟩:=Kd.V_slice aa.out
      (first|subst cl|(injection cl with f1_ f2_ f3_;have f4_:=f1_.symm;have f5_:=f3_.symm;clear f1_ f2_ f3_;subst f4_;subst f5_))
      refine yst (fun w' => w'.cell? ⟨am,0,none⟩=some (.int .u64 ak)∧w'.cell? ⟨am,1,none⟩=some (.slice bZ al.length b4)∧w'.cell? (bj.add (ae).toNat)=some (.int .i64 (rd l1 ae))) [10] 12 r11_Put.tab18 r11_Put.bits18 (fun hHeld HT_ HW_ => ?_)
      generalize wc.drew=w81 at ac aa ah af ag HB aG hHeld ⊢
      refine yp 1 67 HT_ ?_
      refine yp 2 68 HT_ ?_
      refine yp 3 69 HT_ ?_
      refine yl 0 66 HT_ HW_ hHeld ?_
      refine yl 4 70 HT_ HW_ hHeld ?_
      refine yp 5 71 HT_ ?_
      refine yw 6 72 HT_ (fun K hK => ?_)
      refine ygs Try.func41 #[.agg #[.int .u64 ak, .slice bZ al.length b4], .int .u64 (IntKind.u64.wrap (rd l1 ae)), .int .u64 45] ?_
      with_reducible refine (r05_PutNum.calls bL ak (fun k_=>((az k_∨w.heap.size≤k_)∧(k_≠ay∧(k_≠ao∧k_≠am)))) _ _ al (IntKind.u64.wrap (rd l1 ae)) 45 bU bM bV _ ?aT A73.out).mono ?_
      (case aT=>exact aa.out)
      rintro e w83 ⟨cM,rfl,ho0,hb⟩
      refine ⟨_,rfl, ?_⟩
      replace ac:=yVb ac hb
      replace aa:=yVb aa hb
      have bg:=yho (fun k_=>(az k_∨w.heap.size≤k_)∧k_≠ay∧k_≠ao∧k_≠am) ho0 (fun k_ hk_=>⟨Or.elim hk_ (fun hs_=>hs_.1) (fun hn_=>(.inr (Nat.le_trans (zE yhb) hn_))),yoB ah hk_,yoB af hk_,yoB ag hk_⟩)
      replace ah:=ybb ah hb
      replace af:=ybb af hb
      replace ag:=ybb ag hb
      replace HB:=ybs hb
      (try clear hb)
      (try clear ho0)
      obtain ⟨dg,dh,cm⟩:=Kd.V_slice bg.out
      (first|subst cm|(injection cm with f1_ f2_ f3_;have f4_:=f1_.symm;have f5_:=f3_.symm;clear f1_ f2_ f3_;subst f4_;subst f5_))
      refine hK.out _ _ yH (fun hHeld => ?_)
      clear hK K
      refine ym (some 72) ?_
      refine yp 7 65 HT_ ?_
      refine yp 8 73 HT_ ?_
      refine yp 9 74 HT_ ?_
      refine last_ (i:=10) (N:=none) #[true,true,true,true,true,true,true,true,true,true,true,false] rfl rfl (one_of HT_.out (by kernel_rfl)) (by decide) (fun K hK => ?_)
      have di : w83.cell? ⟨am,0,none⟩=some (.int .u64 ak):=(zs ag.out 0).trans rfl
      have hfs84:=zx ag.out 0
      have:=au.out
      have:=aw.out
      have:=av.out
      have:=ax.out
      have dj : w83.cell? ⟨am,1,none⟩=some (.slice bZ al.length b4):=(zs ag.out 1).trans rfl
      have hfs86:=zx ag.out 1
      have:=au.out
      have:=aw.out
      have:=av.out
      have:=ax.out
      refine skip_ (w1 := ?_) (by rfl) rfl ?_ ?_
      rotate_left
      ·
       go_simp
       rfl
      refine hK.out _ _ ?_
      clear hK K
      refine yp 11 12 HT_ ?_
      refine done_ (done_of HT_.out (by kernel_rfl)) ?_
      have:=aH.out
      have:=aI.out
      have:=au.out
      have:=av.out
      obtain ⟨_,_,_,_⟩:=yc2 ah
      have:=aw.out
      have:=ax.out
      obtain ⟨_,_,_,_⟩:=yc2 af
      try go_wp2
      refine bodyPost_ret (results_ct rfl _ _ ao 69 #[.int .u64 aK, .slice aN aA.length aQ] (0,0) _ rfl (ykp af) Try.underlying69 rfl (by kernel_rfl)) rfl ?_
      exact ⟨_,ye,yV0 ac,yhb⟩
     replace c70:=Bool.eq_false_iff.mpr c70
     subst c70
     rw [ynf] at H
     have H' := zm H
     clear H
     go_wp2
     go_roundg bL
     case measure=>exact yom3 HJ4 HK2 bK
     case rel=>exact ⟨(wrap64 (ae+1)),(aM),(ak),(al),(aC),yq,H',⟨yom3 HJ4 HK2 bK⟩,⟨yr ac⟩,⟨yr aa⟩,⟨yk ah⟩,⟨yk af⟩,⟨yk ag⟩,⟨yhb⟩⟩
   rw [if_neg c22] at H
   have bh:=yG c22
   clear c22
   simp only [Option.some.injEq,Prod.mk.injEq] at H
   obtain ⟨rfl,rfl,rfl⟩:=H
   have:=av.out
   have:=au.out
   have:=ax.out
   have:=aw.out
   obtain ⟨_,_,_,_⟩:=yc2 ag
   have:=aI.out
   have:=aH.out
   obtain ⟨_,_,_,_⟩:=yc2 af
   obtain ⟨cP,cQ,cR⟩:=Kd.V_slice aa.out
   subst cR
   go_wp2
   refine bodyPost_ret (results_ct rfl _ _ ao 69 #[.int .u64 ai, .slice cP aj.length cQ] (0,0) _ rfl (ykp af) Try.underlying69 rfl (by kernel_rfl)) rfl ?_
   exact ⟨_,ye,yV0 aa,yhb⟩
def r13_At.f (l0 : List (List Int)) (a1 : Int) : Option (List Int):=if a1 < (l0.length : Int) then (if 0≤a1 then (some (rd_L1 l0 a1)) else (none)) else (some ([] : List Int))
set_option maxHeartbeats 8000000 in
set_option maxRecDepth 100000 in
theorem r13_At.calls (P0_ : Nat→Prop) (A0 : Option Addr) (c0 : Nat) (l0 : List (List Int)) (a1 : Int) (r : List Int) (w : World) (hs0 : Kd.V (Kd.slice 3 (Kd.int .i64)) 49 w w.heap.size (fun k_=>P0_ k_) (.slice A0 l0.length c0) l0) (h : r13_At.f l0 a1=some r) :
  Calls Try.prog 39 #[.slice A0 l0.length c0, .int .i64 a1] w fun e w' => ∃ v0_ : Value,e=.returned (v0_)∧Kd.V (Kd.int .i64) 3 w' w.heap.size (fun k_=>(P0_ k_∨w.heap.size≤k_)) v0_ r∧Below w.heap.size w w' := by
 have HO0:=zm (show Kd.V (Kd.slice 3 (Kd.int .i64)) 49 w w.heap.size (fun k_=>(P0_ k_∨w.heap.size≤k_)) (.slice A0 l0.length c0) l0 from zy hs0 (fun k_ hk => .inl hk))
 have HB:=zm (Below.refl w.heap.size w);have H:=h
 unfold r13_At.f at H
 clear h
 by_cases c3 : a1 < (l0.length : Int)
 ·
  rw [if_pos c3] at H
  have ak:=yD c3
  clear c3
  obtain ⟨c4,H⟩:=yif H
  have aq : decide (0≤a1)=true:=decide_eq_true c4
  clear c4
  obtain rfl:=Option.some.inj H
  have ae : 0≤(a1 : Int):=yt
  have af : a1 < (l0.length : Int):=yt
  obtain ⟨ap,al,am,ao,ag,aa,ac⟩:=at_L1 (Kd.V_reads' HO0.out).2.2 a1 ae af
  cases ao
  obtain ⟨ce828,hce828,hMe828,hcc828⟩:=Kd.V_get HO0.out [] a1 ae (by first|exact af|exact yt|(have e_:=(Kd.V_reads' HO0.out).1;omega))
  obtain ⟨ua828_0,uc828_0,rfl,ul828_0,ge828_0⟩:=Kd.FK_slice_open hMe828
  have hv828_0:=hcc828 0 _ rfl
  rw [Nat.add_zero,show ((Kd.slice 3 (Kd.int .i64))).sz=1 from rfl,Nat.mul_one] at hv828_0
  replace hv828_0:=Option.some.inj (hv828_0.symm.trans ag)
  injection hv828_0 with hva_ hvn_ hvc_
  rw [hva_] at ge828_0
  rw [hvc_] at ul828_0
  have ah:=zm (show Kd.V (Kd.int .i64) 3 _ w.heap.size _ _ (rd_L1 l0 a1) from Kd.V_mk ul828_0 ge828_0)
  clear hva_ hvn_ hvc_ ge828_0 ul828_0 hcc828 hce828;have ai:=zm ac;have aj:=zm aa;clear ac aa
  replace ae:=eq_true ae
  replace af:=eq_true af
  go_enter Try.func39,Try.ntmps39
  go_wp2
  go_ret
  exact ⟨_,ye,yr ah,yhb⟩
 rw [if_neg c3] at H
 have ak:=yG c3
 clear c3
 obtain rfl:=Option.some.inj H
 go_enter Try.func39,Try.ntmps39
 go_wp2
 go_ret
 exact ⟨_,ye,(by first|exact Kd.V_nil _ _ _ _ _|exact zy (Kd.R_V (yn)) (fun k_ hk=>by first|exact ⟨(.inr (hk.1)),hk.2⟩|exact (.inr (hk)))),yhb⟩
mutual
def r13_Long.l0 : Nat→Int→List (List Int)→Int→Bool→List (List Int)→List (List (List Int))→Int→List Int→Option (Int)
 | 0,_,_,_,_,_,_,_,_=>none
 | k+1,x0,x2,x8,az,aw,ak,aD,aA=>if x8 < x0 then (if 0≤x8 then (if x8 < (aw.length : Int) then ((r13_At.f x2 x8).bind fun ba=>((r11_Put.f k aD aA (rd_L1 aw x8) ba az).bind fun bu=>(r13_Long.l1 k x0 x2 x8 0 az aw ak bu.1 bu.2.1))) else (none)) else (none)) else (some (aA.length : Int))
def r13_Long.l1 : Nat→Int→List (List Int)→Int→Int→Bool→List (List Int)→List (List (List Int))→Int→List Int→Option (Int)
 | 0,_,_,_,_,_,_,_,_,_=>none
 | k+1,x0,x2,x8,x9,az,aw,ak,aD,aA=>if x9 < 5 then (if 0≤x8 then (if x8 < (ak.length : Int) then (if 0≤x9 then (if x9 < ((rd_L2 ak x8).length : Int) then ((r06_Pulses.f k (rd_L1 (rd_L2 ak x8) x9)).bind fun bb=>(if bb > 0 then ((r06_Index.f k (rd_L1 (rd_L2 ak x8) x9)).bind fun bc=>((r06_Pulses.f k (rd_L1 (rd_L2 ak x8) x9)).bind fun bd=>((r06_Count.f k ((rd_L1 (rd_L2 ak x8) x9).length : Int) bd).bind fun bf=>((r05_PutNum.f k aD aA bc bf).bind fun bv=>(r13_Long.l1 k x0 x2 x8 (wrap64 (x9+1)) az aw ak bv.1 bv.2.1))))) else (r13_Long.l1 k x0 x2 x8 (wrap64 (x9+1)) az aw ak aD aA))) else (none)) else (none)) else (none)) else (none)) else (r13_Long.l0 k x0 x2 (wrap64 (x8+1)) az aw ak aD aA)
end
def r13_Long.f (k : Nat) (a0 : Int) (aV : Bool) (aC : List (List Int)) (ap : List (List (List Int))) (l2 : List (List Int)) : Option (Int):=(r05_New.f).bind fun bw=>((r05_Put.f k bw.1 bw.2 0 1 2).bind fun bx=>(r13_Long.l0 k a0 l2 0 aV aC ap bx.1 bx.2.1))
theorem r13_Long.mono_l : ∀ k,(∀ y0 y1 y2 y3 y4 y5 y6 y7,LeO (r13_Long.l0 k y0 y1 y2 y3 y4 y5 y6 y7) (r13_Long.l0 (k+1) y0 y1 y2 y3 y4 y5 y6 y7))∧(∀ y0 y1 y2 y3 y4 y5 y6 y7 y8,LeO (r13_Long.l1 k y0 y1 y2 y3 y4 y5 y6 y7 y8) (r13_Long.l1 (k+1) y0 y1 y2 y3 y4 y5 y6 y7 y8))
 | 0=>⟨fun _ _ _ _ _ _ _ _ r h=>by simp [r13_Long.l0] at h,fun _ _ _ _ _ _ _ _ _ r h=>by simp [r13_Long.l1] at h⟩
 | k+1=>by
  obtain ⟨ih0,ih1⟩:=r13_Long.mono_l k
  refine ⟨?_, ?_⟩
  ·
   intro y0 y1 y2 y3 y4 y5 y6 y7
   unfold r13_Long.l0
   repeat' with_reducible first|apply ih0|apply ih1|apply r05_Put.mono|apply r05_PutNum.mono|apply r06_Count.mono|apply r06_Index.mono|apply r06_Pulses.mono|apply r11_Put.mono|apply yLr|apply yLn|apply yLi|apply yLb|intro _
  intro y0 y1 y2 y3 y4 y5 y6 y7 y8
  unfold r13_Long.l1
  repeat' with_reducible first|apply ih0|apply ih1|apply r05_Put.mono|apply r05_PutNum.mono|apply r06_Count.mono|apply r06_Index.mono|apply r06_Pulses.mono|apply r11_Put.mono|apply yLr|apply yLn|apply yLi|apply yLb|intro _
theorem r13_Long.mono : ∀ a0 a1 a2 a3 a4 k,LeO (r13_Long.f k a0 a1 a2 a3 a4) (r13_Long.f (k+1) a0 a1 a2 a3 a4):=by
 intro a0 a1 a2 a3 a4 k
 obtain ⟨ih0,ih1⟩:=r13_Long.mono_l k
 unfold r13_Long.f
 repeat' with_reducible first|apply ih0|apply ih1|apply r05_Put.mono|apply r05_PutNum.mono|apply r06_Count.mono|apply r06_Index.mono|apply r06_Pulses.mono|apply r11_Put.mono|apply yLr|apply yLn|apply yLi|apply yLb|intro _
def r13_Long.T6 : Bool × List (List Nat × List Nat):=(true, [([], []),([], []),([1], [1]),([], []),([2,3], [2,3]),([4], [4]),([], []),([], []),([6,7], [6,7]),([], []),([9], [9]),([0,5,8,10,8], [0,5,8,10]),([11], [11]),([12], [12]),([12], [12]),([13,11,0,1,2,3,4,5,6,7,8,9,10,11,12,13], [13])])
def r13_Long.B6 : List Nat := [0,0,2,0,14,30,0,0,192,0,512,2047,4095,8191,8191,16383]
theorem r13_Long.tab6 : rtab .any (opsOf Try.f13 6)=r13_Long.T6:=by kernel_rfl
theorem r13_Long.bits6 : waitsOk r13_Long.T6.2 r13_Long.B6=true:=by kernel_rfl
def r13_Long.T12 : Bool × List (List Nat × List Nat):=(true, [([], []),([], []),([1], [1]),([], []),([3], [3]),([], []),([5,2], [5]),([4,6,6], [4,6]),([0,2,7,7], [0,2,7]),([8], [8]),([9], [9]),([9], [9]),([10,8,0,1,2,3,4,5,6,7,8,9,10], [10])])
def r13_Long.B12 : List Nat := [0,0,2,0,8,0,38,126,255,511,1023,1023,2047]
theorem r13_Long.tab12 : rtab .any (opsOf Try.f13 12)=r13_Long.T12:=by kernel_rfl
theorem r13_Long.bits12 : waitsOk r13_Long.T12.2 r13_Long.B12=true:=by kernel_rfl
set_option maxHeartbeats 8000000 in
set_option maxRecDepth 100000 in
theorem r13_Long.calls (k : Nat) (a0 : Int) (aV : Bool) (bz : Option Addr) (bl : Nat) (aC : List (List Int)) (bm : Option Addr) (bn : Nat) (ap : List (List (List Int))) (A2 : Option Addr) (c2 : Nat) (l2 : List (List Int)) (r : Int) (w : World) (hr1_1 : Kd.C (Kd.slice 3 (Kd.int .i64)) w bz aC.length aC) (hc1_1 : aC.length≤bl) (hr1_2 : Kd.C (Kd.slice 49 (Kd.slice 3 (Kd.int .i64))) w bm ap.length ap) (hc1_2 : ap.length≤bn) (hr2 : Kd.C (Kd.slice 3 (Kd.int .i64)) w A2 l2.length l2) (hc2 : l2.length≤c2) (h : r13_Long.f k a0 aV aC ap l2=some r) :
  Calls Try.prog 13 #[.int .i64 a0, .agg #[.bool aV, .slice bz aC.length bl, .slice bm ap.length bn], .slice A2 l2.length c2] w fun e w' => e=.returned (.int .i64 r)∧Below w.heap.size w w' := by
 have hu33:=Try.underlying33;have hu69:=Try.underlying69;have cb:=zm hr1_1;have cO:=zm hc1_1;clear hr1_1 hc1_1;have b4:=zm hr1_2;have cP:=zm hc1_2;clear hr1_2 hc1_2;have HR2:=zm hr2;have HC2:=zm hc2;clear hr2 hc2;have HB:=zm (Below.refl w.heap.size w);have H:=h
 unfold r13_Long.f at H
 clear h
 obtain ⟨⟨bg,aW⟩,A4,H⟩:=ybi H
 try dsimp only at H
 obtain ⟨⟨b5,bA,ce⟩,A5,H⟩:=ybi H
 try dsimp only at H
 have H' := zm H
 clear H
 go_enter Try.func13,Try.ntmps13
 go_wp2_with (first|((with_reducible refine gate_dst (N:=4) rfl ?_);refine ybx 4 #[.bool aV, .slice bz aC.length bl, .slice bm ap.length bn] 33 ?_;intro aq hg w6 hbox hb;have ae:=zm (hbox);have cz:=ygw hg;have cA:=ygw hg;replace HB:=ybs hb;clear hb hbox hg)|((with_reducible refine gate_callee (f:=36) rfl ?_);refine ygl 11 Try.func36 #[] ?_;(with_reducible refine (r05_New.calls  bg aW _ A4.out).mono ?_);rintro e w7 ⟨cQ,rfl,ho0,hb⟩;refine ⟨_,rfl, ?_⟩;have ay:=zm (Kd.R_lower ho0 (zE yhb));replace ae:=ybb ae hb;replace HB:=ybs hb;(try clear hb);(try clear ho0))|((with_reducible refine gate_dst (N:=7) rfl ?_);refine ybx 7 #[.int .u64 0, .slice none 0 0] 69 ?_;intro af hg w8 hbox hb;replace ay:=yRb ay hb;have ac:=zm (hbox);have cB:=ygw hg;have cC:=ygw hg;replace HB:=ybs hb;have ag:=ynl ae hg;have ah:=yng ae hg;replace ae:=ybb ae hb;clear hb hbox hg;have:=ah.out;have:=ag.out;obtain ⟨bM,bN,bO,bP⟩:=yc2 ac;obtain ⟨bB,bC,cD⟩:=Kd.R_slice ay.out;subst cD)|((with_reducible refine gate_store (t:=69) (p:=7) rfl ?_);refine store_event (t:=69) (p:=7) (v := ?vo_w12) (w1:=((w8.setCell ⟨af,0,none⟩ (.int .u64 bg)).setCell ⟨af,1,none⟩ (.slice bB aW.length bC))) ?hg ?ho ?hn ?hr ?_;(case ho=>rfl);(case hg=>rfl);(case hn=>rfl);(case hr=>first|(go_simp;done)|(go_simp;rfl));intro w12 hw;replace ay : Aside0 (Kd.R (Kd.int .i64) 3 w12 w.heap.size (fun _=>True) (.slice bB aW.length bC) aW):=⟨(by rw [hw];exact (yR1 ay ac))⟩;replace ae : Aside0 (w12.heap[aq]? = some (.cells #[.bool aV, .slice bz aC.length bl, .slice bm ap.length bn] 33 (0,0))):=⟨(by rw [hw];exact (yk ae))⟩;replace ac : Aside0 (w12.heap[af]? = some (.cells #[.int .u64 bg, .slice bB aW.length bC] 69 (0,0))):=⟨(by rw [hw];exact (ykp ac))⟩;replace HB : Aside0 (Below w.heap.size w w12):=⟨(by rw [hw];exact yhb)⟩;clear hw;obtain ⟨bQ,bR,bS,bT⟩:=yc2 ac)|((with_reducible refine gate_callee (f:=37) rfl ?_);refine ygl 14 Try.func37 #[.agg #[.int .u64 bg, .slice bB aW.length bC], .int .i64 0, .int .i64 1, .int .i64 2] ?_;(with_reducible refine (r05_Put.calls k bg (fun k_=>some k_=(.slice bB aW.length bC : Value).ownBlock) _ _ aW 0 1 2 b5 bA ce _ ?ax A5.out).mono ?_);(case ax=>exact Kd.R_V (Kd.R_tight rfl (Kd.R_types (Kd.R_types (ay.out) ae.out (by decide)) ac.out (by decide))));rintro e w14 ⟨cR,rfl,ho0,hb⟩;refine ⟨_,rfl, ?_⟩;have bD:=yho (fun k_=>k_≠aq∧k_≠af) ho0 (fun k_ hk_=>⟨Or.elim hk_ (fun hs_=>((Kd.R_types (Kd.R_types (ay.out) ae.out (by decide)) ac.out (by decide)).1 k_ hs_.symm).1.2) (fun hn_=>(Kd.freshB (yk ae) k_ hn_)),Or.elim hk_ (fun hs_=>((Kd.R_types (Kd.R_types (ay.out) ae.out (by decide)) ac.out (by decide)).1 k_ hs_.symm).2) (fun hn_=>(Kd.freshB (yk ac) k_ hn_))⟩);replace ay:=yRb ay hb;replace ae:=ybb ae hb;replace ac:=ybb ac hb;replace HB:=ybs hb;(try clear hb);(try clear ho0);obtain ⟨bU,bV,bW,bX⟩:=yc2 ac;obtain ⟨cE,cF,cG⟩:=Kd.V_slice bD.out;subst cG))
 go_loopg [8] k (fun kq v8 w' => ∃ (aj : Int) (ao : Int) (au : List Int) (al : Value),v8=.int .i64 aj∧Aside0 (r13_Long.l0 kq a0 l2 aj aV aC ap ao au=some r)∧Aside0 (kq≤k)∧Aside0 (Kd.V (Kd.int .i64) 3 w' w.heap.size (fun k_=>k_≠aq∧k_≠af) al au)∧Aside0 (w'.heap[aq]? = some (.cells #[.bool aV,(.slice bz aC.length bl),(.slice bm ap.length bn)] 33 (0,0)))∧Aside0 (w'.heap[af]? = some (.cells #[.int .u64 ao,al] 69 (0,0)))∧Aside0 (Below w.heap.size w w'))
 case atStart=>exact ⟨(0),(b5),(bA),(.slice cE bA.length cF),yq,H',⟨Nat.le_refl _⟩,⟨yV0 bD⟩,⟨yk ae⟩,⟨ykp ac⟩,⟨yhb⟩⟩
 case round =>
  clear H'
  try clear c2
  try clear bM
  try clear bN
  try clear bQ
  try clear bR
  try clear bU
  try clear bV
  try clear bO
  try clear bP
  try clear bS
  try clear bT
  try clear bW
  try clear bX
  obtain ⟨aj,ao,au,al,rfl,HA,HK1,aa,ae,ac,HB⟩:=hrel
  obtain ⟨k1,rfl⟩:=ysu gk (fun h=>by subst h;exact absurd HA.out (by simp [r13_Long.l0]))
  have H:=HA.out;clear HA
  simp only [r13_Long.l0] at H
  by_cases c17 : aj < a0
  ·
   rw [if_pos c17] at H
   have b6:=yD c17
   clear c17
   obtain ⟨c18,H⟩:=yif H
   have cf : decide (0≤aj)=true:=decide_eq_true c18
   clear c18
   obtain ⟨c19,H⟩:=yif H
   have cg : decide (aj < (aC.length : Int))=true:=decide_eq_true c19
   clear c19
   obtain ⟨ba,A20,H⟩:=ybi H
   obtain ⟨⟨b7,bE,ch⟩,A21,H⟩:=ybi H
   try dsimp only at H
   have H' := zm H
   clear H
   try go_wp2
   replace aa:=zm (zC aa.out)
   replace ae:=zm (zj ae.out)
   replace ac:=zm (zj ac.out)
   replace HB:=zm (zf HB.out)
   have bp : 0≤(aj : Int):=yt
   have bq : aj < (aC.length : Int):=yt
   obtain ⟨bo,br,bs,ci,aE,bh,bi⟩:=at_L1 cb.out aj bp bq
   have hw1253_0:=aE
   cases ci
   replace aE:=yhx HB aE
   have bj:=zm bi;have bF:=zm bh;clear bi bh
   replace bp:=eq_true bp
   replace bq:=eq_true bq
   refine yst (fun w' => w'.cell? ⟨af,0,none⟩=some (.int .u64 ao)∧w'.cell? ⟨af,1,none⟩=some (al)∧w'.cell? ⟨aq,0,none⟩=some (.bool aV)∧w'.cell? ⟨aq,1,none⟩=some (.slice (some bo) aC.length bl)∧w'.cell? ⟨aq,2,none⟩=some (.slice bm ap.length bn)∧w'.cell? (bo.add (aj).toNat)=some (.slice br (rd_L1 aC aj).length bs)) [15] 16 r13_Long.tab6 r13_Long.bits6 (fun hHeld HT_ HW_ => ?_)
   generalize wr.drew=w22 at aa ae ac HB bj aE hHeld ⊢
   refine yp 1 24 HT_ ?_
   refine yp 3 26 HT_ ?_
   refine yp 6 29 HT_ ?_
   refine yp 7 30 HT_ ?_
   refine yp 9 32 HT_ ?_
   refine yl 0 23 HT_ HW_ hHeld ?_
   refine yl 2 25 HT_ HW_ hHeld ?_
   refine yp 4 27 HT_ ?_
   refine yl 5 28 HT_ HW_ hHeld ?_
   refine yl 10 33 HT_ HW_ hHeld ?_
   refine yw 8 31 HT_ (fun K hK => ?_)
   refine ygs Try.func39 #[.slice A2 l2.length c2, .int .i64 aj] ?_
   with_reducible refine (r13_At.calls (fun k_=>k_ < w.heap.size) _ _ l2 aj ba _ ?ax A20.out).mono ?_
   (case ax=>exact Kd.V_mk HC2.out (Kd.F_below (Kd.C_F (Kd.heap_slice 3 (Kd.heap_int .i64)) HR2.out) yhb))
   rintro e w23 ⟨cS,rfl,ho0,hb⟩
   refine ⟨_,rfl, ?_⟩
   replace aa:=yVb aa hb
   have aX:=yho (fun k_=>k_≠aq∧k_≠af) ho0 (fun k_ hk_=>⟨yoB ae hk_,yoB ac hk_⟩)
   replace ae:=ybb ae hb
   replace ac:=ybb ac hb
   replace HB:=ybs hb
   (try clear hb)
   (try clear ho0)
   obtain ⟨cj,ck,cl⟩:=Kd.V_slice aa.out
   (first|subst cl|(injection cl with f1_ f2_ f3_;have f4_:=f1_.symm;have f5_:=f3_.symm;clear f1_ f2_ f3_;subst f4_;subst f5_))
   obtain ⟨cH,cI,cm⟩:=Kd.V_slice aX.out
   (first|subst cm|(injection cm with f1_ f2_ f3_;have f4_:=f1_.symm;have f5_:=f3_.symm;clear f1_ f2_ f3_;subst f4_;subst f5_))
   refine hK.out _ _ yH (fun hHeld => ?_)
   clear hK K
   refine ym (some 31) ?_
   refine yw 11 34 HT_ (fun K hK => ?_)
   refine ygs Try.func38 #[.agg #[.int .u64 ao, .slice cj au.length ck], .slice br (rd_L1 aC aj).length bs, .slice cH ba.length cI, .bool aV] ?_
   with_reducible refine (r11_Put.calls k1 ao (fun k_=>(k_≠aq∧k_≠af)) _ _ au _ _ (rd_L1 aC aj) _ _ ba aV b7 bE ch _ ?ax ?bk ?cn ?co ?cp A21.out).mono ?_
   (case ax=>exact aa.out)
   (case bk=>exact ycb bj)
   (case cn=>exact bF.out)
   (case co=>exact yce (Kd.V_reads' aX.out).2.2)
   (case cp=>exact (Kd.V_reads' aX.out).2.1)
   rintro e w26 ⟨cT,rfl,ho0,hb⟩
   refine ⟨_,rfl, ?_⟩
   replace aa:=yVb aa hb
   replace aX:=yVb aX hb
   have bG:=yho (fun k_=>k_≠aq∧k_≠af) ho0 (fun k_ hk_=>⟨yoB ae hk_,yoB ac hk_⟩)
   replace ae:=ybb ae hb
   replace ac:=ybb ac hb
   replace HB:=ybs hb
   (try clear hb)
   (try clear ho0)
   obtain ⟨cJ,cK,cq⟩:=Kd.V_slice bG.out
   (first|subst cq|(injection cq with f1_ f2_ f3_;have f4_:=f1_.symm;have f5_:=f3_.symm;clear f1_ f2_ f3_;subst f4_;subst f5_))
   refine hK.out _ _ yH (fun hHeld => ?_)
   clear hK K
   refine ym (some 34) ?_
   refine yp 12 22 HT_ ?_
   refine yp 13 35 HT_ ?_
   refine yp 14 36 HT_ ?_
   refine last_ (i:=15) (N:=none) #[true,true,true,true,true,true,true,true,true,true,true,true,true,true,true,true] rfl rfl (one_of HT_.out (by kernel_rfl)) (by decide) (fun K hK => ?_)
   have cZ : w26.cell? ⟨af,0,none⟩=some (.int .u64 ao):=(zs ac.out 0).trans rfl
   have hfs27:=zx ac.out 0
   have:=ag.out
   have:=ah.out
   have da : w26.cell? ⟨af,1,none⟩=some (.slice cj au.length ck):=(zs ac.out 1).trans rfl
   have hfs29:=zx ac.out 1
   have:=ag.out
   have:=ah.out
   refine skip_ (w1 := ?_) (by rfl) rfl ?_ ?_
   rotate_left
   ·
    go_simp
    rfl
   refine hK.out _ _ ?_
   clear hK K
   refine done_ (done_of HT_.out (by kernel_rfl)) ?_
   try go_wp2
   go_loopg [9] k1 (fun kq v9 w' => ∃ (av : Int) (ai : Int) (am : List Int) (al : Value),v9=.int .i64 av∧Aside0 (r13_Long.l1 kq a0 l2 aj av aV aC ap ai am=some r)∧Aside0 (kq≤k1)∧Aside0 (Kd.V (Kd.int .i64) 3 w' w.heap.size (fun k_=>k_≠aq∧k_≠af) al am)∧Aside0 (w'.heap[aq]? = some (.cells #[.bool aV,(.slice (some bo) aC.length bl),(.slice bm ap.length bn)] 33 (0,0)))∧Aside0 (w'.heap[af]? = some (.cells #[.int .u64 ai,al] 69 (0,0)))∧Aside0 (Below w.heap.size w w'))
   case atStart=>exact ⟨(0),(b7),(bE),(.slice cJ bE.length cK),yq,H',⟨Nat.le_refl _⟩,⟨yV0 bG⟩,⟨yk ae⟩,⟨ykp ac⟩,⟨yhb⟩⟩
   case round =>
    clear H'
    try clear c2
    try clear b6
    try clear cf
    try clear cg
    try clear aE
    try clear bp
    try clear bq
    obtain ⟨av,ai,am,al,rfl,HA,HK2,aa,ae,ac,HB⟩:=hrel
    obtain ⟨k2,rfl⟩:=ysu gk (fun h=>by subst h;exact absurd HA.out (by simp [r13_Long.l1]))
    have H:=HA.out;clear HA
    simp only [r13_Long.l1] at H
    by_cases c30 : av < 5
    ·
     rw [if_pos c30] at H
     have cr:=yD c30
     clear c30
     obtain ⟨c31,H⟩:=yif H
     have cU : decide (0≤aj)=true:=decide_eq_true c31
     clear c31
     obtain ⟨c32,H⟩:=yif H
     have cV : decide (aj < (ap.length : Int))=true:=decide_eq_true c32
     clear c32
     obtain ⟨c33,H⟩:=yif H
     have cW : decide (0≤av)=true:=decide_eq_true c33
     clear c33
     obtain ⟨c34,H⟩:=yif H
     have cX : decide (av < ((rd_L2 ap aj).length : Int))=true:=decide_eq_true c34
     clear c34
     obtain ⟨bb,A35,H⟩:=ybi H
     by_cases c36 : bb > 0
     ·
      rw [if_pos c36] at H
      have ct:=yDs c36
      clear c36
      obtain ⟨bc,A37,H⟩:=ybi H
      obtain ⟨bd,A38,H⟩:=ybi H
      obtain ⟨bf,A39,H⟩:=ybi H
      obtain ⟨⟨b8,bH,cu⟩,A40,H⟩:=ybi H
      try dsimp only at H
      have H' := zm H
      clear H
      have:=ag.out
      have:=ah.out
      obtain ⟨_,_,_,_,_,_⟩:=yc3 ae
      have aY : 0≤(aj : Int):=yt
      have aZ : aj < (ap.length : Int):=yt
      obtain ⟨b9,bY,bZ,bI,aG,aH,aI⟩:=at_L2 b4.out aj aY aZ
      cases bI
      replace aG:=yhx HB aG
      have a7:=zm aI;have bJ:=zm aH;clear aI aH
      replace aY:=eq_true aY
      replace aZ:=eq_true aZ
      have a8 : 0≤(av : Int):=yt
      have a9 : av < ((rd_L2 ap aj).length : Int):=yt
      obtain ⟨ca,aT,aU,bK,aJ,aK,aM⟩:=at_L1 a7.out av a8 a9
      cases bK
      replace aJ:=yhx HB aJ
      have aN:=zm aM;have aQ:=zm aK;clear aM aK
      replace a8:=eq_true a8
      replace a9:=eq_true a9
      try go_wp2_with (first|((with_reducible refine gate_callee (f:=40) rfl ?_);refine ygl 50 Try.func40 #[.slice aT (rd_L1 (rd_L2 ap aj) av).length aU] ?_;(with_reducible refine (r06_Pulses.calls k2 _ _ (rd_L1 (rd_L2 ap aj) av) bb _ ?ax aQ.out A35.out).mono ?_);(case ax=>exact ycb aN);rintro e w' ⟨rfl,⟨nd,rfl⟩⟩;refine ⟨_,rfl, ?_⟩;(try (rw [drewN_self wr];generalize hq_ : World.drewN wr _=wr;replace aa:=yVq hq_ aa;replace ae:=ykq hq_ ae;replace ac:=ykq hq_ ac;replace HB:=ysq hq_;clear hq_))))
      replace aa:=zm (zC aa.out)
      replace ae:=zm (zj ae.out)
      replace ac:=zm (zj ac.out)
      replace HB:=zm (zf HB.out)
      refine yst (fun w' => w'.cell? ⟨af,0,none⟩=some (.int .u64 ai)∧w'.cell? ⟨af,1,none⟩=some (al)) [12] 13 r13_Long.tab12 r13_Long.bits12 (fun hHeld HT_ HW_ => ?_)
      generalize wr.drew=w43 at aa ae ac HB hHeld ⊢
      refine yp 1 54 HT_ ?_
      refine yp 3 56 HT_ ?_
      refine yp 4 57 HT_ ?_
      refine yp 5 58 HT_ ?_
      refine yl 0 53 HT_ HW_ hHeld ?_
      refine yw 2 55 HT_ (fun K hK => ?_)
      refine ygs Try.func42 #[.slice aT (rd_L1 (rd_L2 ap aj) av).length aU] ?_
      with_reducible refine (r06_Index.calls k2 _ _ (rd_L1 (rd_L2 ap aj) av) bc _ ?ax ?bk A37.out).mono ?_
      (case ax=>exact ycb aN)
      (case bk=>exact aQ.out)
      rintro e w44 ⟨rfl,hb⟩
      refine ⟨_,rfl, ?_⟩
      replace aa:=yVb aa hb
      replace ae:=ybb ae hb
      replace ac:=ybb ac hb
      replace HB:=ybs hb
      (try clear hb)
      refine hK.out _ _ yH (fun hHeld => ?_)
      clear hK K
      refine ym (some 55) ?_
      refine yw 6 59 HT_ (fun K hK => ?_)
      refine ygs Try.func40 #[.slice aT (rd_L1 (rd_L2 ap aj) av).length aU] ?_
      with_reducible refine (r06_Pulses.calls k2 _ _ (rd_L1 (rd_L2 ap aj) av) bd _ ?ax ?bk A38.out).mono ?_
      (case ax=>exact ycb aN)
      (case bk=>exact aQ.out)
      rintro e w' ⟨rfl,⟨nd,rfl⟩⟩
      refine ⟨_,rfl, ?_⟩
      refine hK.out _ _ yH (fun hHeld => ?_)
      clear hK K
      refine ym (some 59) ?_
      refine yw 7 60 HT_ (fun K hK => ?_)
      refine ygs Try.func43 #[.int .i64 ((rd_L1 (rd_L2 ap aj) av).length : Int), .int .i64 bd] ?_
      with_reducible refine (r06_Count.calls k2 ((rd_L1 (rd_L2 ap aj) av).length : Int) bd bf _ A39.out).mono ?_
      rintro e w45 ⟨rfl,hb⟩
      refine ⟨_,rfl, ?_⟩
      replace aa:=yVb aa hb
      replace ae:=ybb ae hb
      replace ac:=ybb ac hb
      replace HB:=ybs hb
      (try clear hb)
      obtain ⟨cv,cw,cx⟩:=Kd.V_slice aa.out
      (first|subst cx|(injection cx with f1_ f2_ f3_;have f4_:=f1_.symm;have f5_:=f3_.symm;clear f1_ f2_ f3_;subst f4_;subst f5_))
      refine hK.out _ _ yH (fun hHeld => ?_)
      clear hK K
      refine ym (some 60) ?_
      refine yw 8 61 HT_ (fun K hK => ?_)
      refine ygs Try.func41 #[.agg #[.int .u64 ai, .slice cv am.length cw], .int .u64 bc, .int .u64 bf] ?_
      with_reducible refine (r05_PutNum.calls k2 ai (fun k_=>(k_≠aq∧k_≠af)) _ _ am bc bf b8 bH cu _ ?ax A40.out).mono ?_
      (case ax=>exact aa.out)
      rintro e w47 ⟨cY,rfl,ho0,hb⟩
      refine ⟨_,rfl, ?_⟩
      replace aa:=yVb aa hb
      have bL:=yho (fun k_=>k_≠aq∧k_≠af) ho0 (fun k_ hk_=>⟨yoB ae hk_,yoB ac hk_⟩)
      replace ae:=ybb ae hb
      replace ac:=ybb ac hb
      replace HB:=ybs hb
      (try clear hb)
      (try clear ho0)
      obtain ⟨cL,cM,cy⟩:=Kd.V_slice bL.out
      (first|subst cy|(injection cy with f1_ f2_ f3_;have f4_:=f1_.symm;have f5_:=f3_.symm;clear f1_ f2_ f3_;subst f4_;subst f5_))
      refine hK.out _ _ yH (fun hHeld => ?_)
      clear hK K
      refine ym (some 61) ?_
      refine yp 9 52 HT_ ?_
      refine yp 10 62 HT_ ?_
      refine yp 11 63 HT_ ?_
      refine last_ (i:=12) (N:=none) #[true,true,true,true,true,true,true,true,true,true,true,true,true] rfl rfl (one_of HT_.out (by kernel_rfl)) (by decide) (fun K hK => ?_)
      have db : w47.cell? ⟨af,0,none⟩=some (.int .u64 ai):=(zs ac.out 0).trans rfl
      have hfs48:=zx ac.out 0
      have:=ag.out
      have:=ah.out
      have dc : w47.cell? ⟨af,1,none⟩=some (.slice cv am.length cw):=(zs ac.out 1).trans rfl
      have hfs50:=zx ac.out 1
      have:=ag.out
      have:=ah.out
      refine skip_ (w1 := ?_) (by rfl) rfl ?_ ?_
      rotate_left
      ·
       go_simp
       rfl
      refine hK.out _ _ ?_
      clear hK K
      refine done_ (done_of HT_.out (by kernel_rfl)) ?_
      try go_wp2
      go_roundg k2
      case measure=>exact yom2 HK1 HK2
      case rel=>exact ⟨(wrap64 (av+1)),(b8),(bH),(.slice cL bH.length cM),yq,H',⟨yom2 HK1 HK2⟩,⟨yV0 bL⟩,⟨yk ae⟩,⟨ykp ac⟩,⟨yhb⟩⟩
     rw [if_neg c36] at H
     have ct:=yGs c36
     clear c36
     have H' := zm H
     clear H
     have:=ag.out
     have:=ah.out
     obtain ⟨_,_,_,_,_,_⟩:=yc3 ae
     have aY : 0≤(aj : Int):=yt
     have aZ : aj < (ap.length : Int):=yt
     obtain ⟨b9,bY,bZ,bI,aG,aH,aI⟩:=at_L2 b4.out aj aY aZ
     cases bI
     replace aG:=yhx HB aG
     have a7:=zm aI;have bJ:=zm aH;clear aI aH
     replace aY:=eq_true aY
     replace aZ:=eq_true aZ
     have a8 : 0≤(av : Int):=yt
     have a9 : av < ((rd_L2 ap aj).length : Int):=yt
     obtain ⟨ca,aT,aU,bK,aJ,aK,aM⟩:=at_L1 a7.out av a8 a9
     cases bK
     replace aJ:=yhx HB aJ
     have aN:=zm aM;have aQ:=zm aK;clear aM aK
     replace a8:=eq_true a8
     replace a9:=eq_true a9
     go_wp2_with (first|((with_reducible refine gate_callee (f:=40) rfl ?_);refine ygl 50 Try.func40 #[.slice aT (rd_L1 (rd_L2 ap aj) av).length aU] ?_;(with_reducible refine (r06_Pulses.calls k2 _ _ (rd_L1 (rd_L2 ap aj) av) bb _ ?ax aQ.out A35.out).mono ?_);(case ax=>exact ycb aN);rintro e w' ⟨rfl,⟨nd,rfl⟩⟩;refine ⟨_,rfl, ?_⟩))
     go_roundg k2
     case measure=>exact yom2 HK1 HK2
     case rel=>exact ⟨(wrap64 (av+1)),(ai),(am),(al),yq,H',⟨yom2 HK1 HK2⟩,⟨yr aa⟩,⟨yk ae⟩,⟨yk ac⟩,⟨yhb⟩⟩
    rw [if_neg c30] at H
    have cr:=yG c30
    clear c30
    have H' := zm H
    clear H
    go_wp2
    go_roundg k2
    case measure=>exact yom2 HK1 HK2
    case rel=>exact ⟨(wrap64 (aj+1)),(ai),(am),(al),yq,H',⟨yom2 HK1 HK2⟩,⟨yr aa⟩,⟨yk ae⟩,⟨yk ac⟩,⟨yhb⟩⟩
  rw [if_neg c17] at H
  have b6:=yG c17
  clear c17
  obtain rfl:=Option.some.inj H
  have:=ah.out
  have:=ag.out
  obtain ⟨_,_,_,_⟩:=yc2 ac
  obtain ⟨dd,de,cN⟩:=Kd.V_slice aa.out
  subst cN
  go_wp2
  go_ret
  exact ⟨ye,yhb⟩
def w13_PackFits.f (k : Nat) (a0 : Int) (a1 : Int) (ag : Bool) (ae : List (List Int)) (af : List (List (List Int))) (l3 : List (List Int)) : Option (Bool):=(w13_great.f k ag ae af l3).bind fun aE=>(if aE=true then ((w13_knows.f k).bind fun aG=>(some aG)) else ((cpack_Write.f k a0 a1 ag ae af l3).bind fun az=>(if az.2=0 then (if (az.1.length : Int)=a0 then ((w13_As.f ag ae af).bind fun aA=>((r13_Long.f k a1 aA.1 aA.2.1 aA.2.2 l3).bind fun aC=>(if aC≤a0 then ((w13_knows.f k).bind fun aH=>(some aH)) else (none)))) else (none)) else (if (az.1.length : Int)=0 then ((w13_knows.f k).bind fun aI=>(some aI)) else (none)))))
theorem w13_PackFits.mono : ∀ a0 a1 a2 a3 a4 a5 k,LeO (w13_PackFits.f k a0 a1 a2 a3 a4 a5) (w13_PackFits.f (k+1) a0 a1 a2 a3 a4 a5):=by
 intro a0 a1 a2 a3 a4 a5 k
 unfold w13_PackFits.f
 repeat' with_reducible first|apply cpack_Write.mono|apply w13_great.mono|apply w13_knows.mono|apply r13_Long.mono|apply yLr|apply yLn|apply yLi|apply yLb|intro _
set_option maxHeartbeats 8000000 in
set_option maxRecDepth 100000 in
theorem w13_PackFits.calls (k : Nat) (a0 : Int) (a1 : Int) (ag : Bool) (am : Option Addr) (ao : Nat) (ae : List (List Int)) (ap : Option Addr) (aq : Nat) (af : List (List (List Int))) (A3 : Option Addr) (c3 : Nat) (l3 : List (List Int)) (r : Bool) (w : World) (hr2_1 : Kd.C (Kd.slice 3 (Kd.int .i64)) w am ae.length ae) (hc2_1 : ae.length≤ao) (hr2_2 : Kd.C (Kd.slice 49 (Kd.slice 3 (Kd.int .i64))) w ap af.length af) (hc2_2 : af.length≤aq) (hr3 : Kd.C (Kd.slice 3 (Kd.int .i64)) w A3 l3.length l3) (hc3 : l3.length≤c3) (h : w13_PackFits.f k a0 a1 ag ae af l3=some r) :
  Calls Try.prog 3 #[.int .i64 a0, .int .i64 a1, .agg #[.bool ag, .slice am ae.length ao, .slice ap af.length aq], .slice A3 l3.length c3] w fun e w' => e=.returned (.bool r)∧Below w.heap.size w w' := by
 have hu25:=Try.underlying25;have au:=zm hr2_1;have av:=zm hc2_1;clear hr2_1 hc2_1;have aw:=zm hr2_2;have ax:=zm hc2_2;clear hr2_2 hc2_2;have HR3:=zm hr3;have HC3:=zm hc3;clear hr3 hc3;have HB:=zm (Below.refl w.heap.size w);have H:=h
 unfold w13_PackFits.f at H
 clear h
 obtain ⟨aE,A5,H⟩:=ybi H
 by_cases c6 : aE=true
 ·
  subst c6
  rw [if_pos rfl] at H
  obtain ⟨aG,A7,H⟩:=ybi H
  obtain rfl:=Option.some.inj H
  go_enter Try.func3,Try.ntmps3
  go_wp2_with (first|((with_reducible refine gate_dst (N:=6) rfl ?_);refine ybx 6 #[.bool ag, .slice am ae.length ao, .slice ap af.length aq] 25 ?_;intro ay hg w8 hbox hb;have aa:=zm (hbox);have aJ:=ygw hg;have aK:=ygw hg;replace HB:=ybs hb;clear hb hbox hg;obtain ⟨_,_,_,_,_,_⟩:=yc3 aa)|((with_reducible refine gate_callee (f:=10) rfl ?_);refine ygl 13 Try.func10 #[.agg #[.bool ag, .slice am ae.length ao, .slice ap af.length aq], .slice A3 l3.length c3] ?_;(with_reducible refine (w13_great.calls k ag _ _ ae _ _ af _ _ l3 true _ ?ah av.out ?ai ax.out ?aj HC3.out A5.out).mono ?_);(case ah=>exact ycb au);(case ai=>exact ycb aw);(case aj=>exact ycb HR3);rintro e w10 ⟨rfl,hb⟩;refine ⟨_,rfl, ?_⟩;replace aa:=ybb aa hb;replace HB:=ybs hb;(try clear hb))|((with_reducible refine gate_callee (f:=11) rfl ?_);refine ygl 14 Try.func11 #[] ?_;(with_reducible refine (w13_knows.calls k  aG _ A7.out).mono ?_);rintro e w11 ⟨rfl,hb⟩;refine ⟨_,rfl, ?_⟩;replace aa:=ybb aa hb;replace HB:=ybs hb;(try clear hb)))
  go_ret
  exact ⟨ye,yhb⟩
 replace c6:=Bool.eq_false_iff.mpr c6
 subst c6
 rw [ynf] at H
 obtain ⟨⟨aD,aM⟩,A12,H⟩:=ybi H
 try dsimp only at H
 by_cases c13 : aM=0
 ·
  rw [if_pos c13] at H
  obtain ⟨aV,aW⟩:=yE c13
  clear c13
  obtain ⟨c14,H⟩:=yif H
  obtain ⟨bc,bd⟩:=yE c14
  clear c14
  obtain ⟨⟨aQ,aT,aU⟩,A15,H⟩:=ybi H
  try dsimp only at H
  obtain ⟨aC,A16,H⟩:=ybi H
  obtain ⟨c17,H⟩:=yif H
  have bf : decide (aC≤a0)=true:=decide_eq_true c17
  clear c17
  obtain ⟨aH,A18,H⟩:=ybi H
  obtain rfl:=Option.some.inj H
  go_enter Try.func3,Try.ntmps3
  go_wp2_with (first|((with_reducible refine gate_dst (N:=6) rfl ?_);refine ybx 6 #[.bool ag, .slice am ae.length ao, .slice ap af.length aq] 25 ?_;intro ay hg w19 hbox hb;have aa:=zm (hbox);have aJ:=ygw hg;have aK:=ygw hg;replace HB:=ybs hb;clear hb hbox hg;obtain ⟨_,_,_,_,_,_⟩:=yc3 aa)|((with_reducible refine gate_callee (f:=10) rfl ?_);refine ygl 13 Try.func10 #[.agg #[.bool ag, .slice am ae.length ao, .slice ap af.length aq], .slice A3 l3.length c3] ?_;(with_reducible refine (w13_great.calls k ag _ _ ae _ _ af _ _ l3 false _ ?ah av.out ?ai ax.out ?aj HC3.out A5.out).mono ?_);(case ah=>exact ycb au);(case ai=>exact ycb aw);(case aj=>exact ycb HR3);rintro e w21 ⟨rfl,hb⟩;refine ⟨_,rfl, ?_⟩;replace aa:=ybb aa hb;replace HB:=ybs hb;(try clear hb);obtain ⟨_,_,_,_,_,_⟩:=yc3 aa)|((with_reducible refine gate_callee (f:=12) rfl ?_);refine ygl 20 Try.func12 #[.int .i64 a0, .int .i64 a1, .agg #[.bool ag, .slice am ae.length ao, .slice ap af.length aq], .slice A3 l3.length c3] ?_;(with_reducible refine (cpack_Write.calls k a0 a1 ag _ _ ae _ _ af _ _ l3 aD aM _ ?ah av.out ?ai ax.out ?aj HC3.out A12.out).mono ?_);(case ah=>exact ycb au);(case ai=>exact ycb aw);(case aj=>exact ycb HR3);rintro e w23 ⟨aX,rfl,ho0,hb⟩;refine ⟨_,rfl, ?_⟩;have ac:=zm (Kd.R_lower ho0 (zE yhb));replace aa:=ybb aa hb;replace HB:=ybs hb;(try clear hb);(try clear ho0);obtain ⟨aY,aZ,a8⟩:=Kd.R_slice ac.out;subst a8;obtain ⟨_,_,_,_,_,_⟩:=yc3 aa)|(go_at_call 14;(with_reducible refine (w13_As.calls ag (fun k_=>k_ < w.heap.size) _ _ ae (fun k_=>k_ < w.heap.size) _ _ af aQ aT aU _ ?ah ?aN A15.out).mono ?_);(case ah=>exact Kd.V_mk av.out (Kd.F_below (Kd.C_F (Kd.heap_slice 3 (Kd.heap_int .i64)) au.out) yhb));(case aN=>exact Kd.V_mk ax.out (Kd.F_below (Kd.C_F (Kd.heap_slice 49 (Kd.heap_slice 3 (Kd.heap_int .i64))) aw.out) yhb));rintro e w26 ⟨bg,bh,rfl,ho0,ho1,hb⟩;have ak:=yho (fun k_=>some k_≠(.slice aY aD.length aZ : Value).ownBlock∧k_≠ay) ho0 (fun k_ hk_=>⟨yoR ac hk_,yoB aa hk_⟩);have al:=yho (fun k_=>some k_≠(.slice aY aD.length aZ : Value).ownBlock∧k_≠ay) ho1 (fun k_ hk_=>⟨yoR ac hk_,yoB aa hk_⟩);replace ac:=yRb ac hb;replace aa:=ybb aa hb;replace HB:=ybs hb;(try clear hb);(try clear ho0);(try clear ho1);obtain ⟨bk,bl,a9⟩:=Kd.V_slice ak.out;subst a9;obtain ⟨bm,bn,ba⟩:=Kd.V_slice al.out;subst ba)|(go_at_call 13;(with_reducible refine (r13_Long.calls k a1 aQ _ _ aT _ _ aU _ _ l3 aC _ ?ah ?aN ?ai ?a7 ?aj HC3.out A16.out).mono ?_);(case ah=>exact yce (Kd.V_reads' ak.out).2.2);(case aN=>exact (Kd.V_reads' ak.out).2.1);(case ai=>exact yce (Kd.V_reads' al.out).2.2);(case a7=>exact (Kd.V_reads' al.out).2.1);(case aj=>exact ycb HR3);rintro e w29 ⟨rfl,hb⟩;replace ac:=yRb ac hb;replace ak:=yVb ak hb;replace al:=yVb al hb;replace aa:=ybb aa hb;replace HB:=ybs hb;(try clear hb))|(go_at_call 11;(with_reducible refine (w13_knows.calls k  aH _ A18.out).mono ?_);rintro e w30 ⟨rfl,hb⟩;replace ac:=yRb ac hb;replace ak:=yVb ak hb;replace al:=yVb al hb;replace aa:=ybb aa hb;replace HB:=ybs hb;(try clear hb)))
  go_ret
  exact ⟨ye,yhb⟩
 rw [if_neg c13] at H
 obtain ⟨aV,aW⟩:=yF c13
 obtain ⟨c31,H⟩:=yif H
 obtain ⟨bi,bj⟩:=yE c31
 clear c31
 obtain ⟨aI,A32,H⟩:=ybi H
 obtain rfl:=Option.some.inj H
 go_enter Try.func3,Try.ntmps3
 go_wp2_with (first|((with_reducible refine gate_dst (N:=6) rfl ?_);refine ybx 6 #[.bool ag, .slice am ae.length ao, .slice ap af.length aq] 25 ?_;intro ay hg w33 hbox hb;have aa:=zm (hbox);have aJ:=ygw hg;have aK:=ygw hg;replace HB:=ybs hb;clear hb hbox hg;obtain ⟨_,_,_,_,_,_⟩:=yc3 aa)|((with_reducible refine gate_callee (f:=10) rfl ?_);refine ygl 13 Try.func10 #[.agg #[.bool ag, .slice am ae.length ao, .slice ap af.length aq], .slice A3 l3.length c3] ?_;(with_reducible refine (w13_great.calls k ag _ _ ae _ _ af _ _ l3 false _ ?ah av.out ?ai ax.out ?aj HC3.out A5.out).mono ?_);(case ah=>exact ycb au);(case ai=>exact ycb aw);(case aj=>exact ycb HR3);rintro e w35 ⟨rfl,hb⟩;refine ⟨_,rfl, ?_⟩;replace aa:=ybb aa hb;replace HB:=ybs hb;(try clear hb);obtain ⟨_,_,_,_,_,_⟩:=yc3 aa)|((with_reducible refine gate_callee (f:=12) rfl ?_);refine ygl 20 Try.func12 #[.int .i64 a0, .int .i64 a1, .agg #[.bool ag, .slice am ae.length ao, .slice ap af.length aq], .slice A3 l3.length c3] ?_;(with_reducible refine (cpack_Write.calls k a0 a1 ag _ _ ae _ _ af _ _ l3 aD aM _ ?ah av.out ?ai ax.out ?aj HC3.out A12.out).mono ?_);(case ah=>exact ycb au);(case ai=>exact ycb aw);(case aj=>exact ycb HR3);rintro e w37 ⟨aX,rfl,ho0,hb⟩;refine ⟨_,rfl, ?_⟩;have ac:=zm (Kd.R_lower ho0 (zE yhb));replace aa:=ybb aa hb;replace HB:=ybs hb;(try clear hb);(try clear ho0);obtain ⟨bo,bp,bb⟩:=Kd.R_slice ac.out;subst bb)|(go_at_call 11;(with_reducible refine (w13_knows.calls k  aI _ A32.out).mono ?_);rintro e w39 ⟨rfl,hb⟩;replace ac:=yRb ac hb;replace aa:=ybb aa hb;replace HB:=ybs hb;(try clear hb)))
 go_ret
 exact ⟨ye,yhb⟩
def r12_Right.f (a0 : Int) (a1 : Int) : Option (Bool):=if a0≤60 then (if a1=1 then (if a0 ≥ 11 then (some true) else (if a1=2 then (some (decide (a0 ≥ 17))) else (some false))) else (if a1=2 then (some (decide (a0 ≥ 17))) else (some false))) else (some false)
set_option maxHeartbeats 8000000 in
set_option maxRecDepth 100000 in
theorem r12_Right.calls (a0 : Int) (a1 : Int) (r : Bool) (w : World) (h : r12_Right.f a0 a1=some r) :
  Calls Try.prog 23 #[.int .i64 a0, .int .i64 a1] w fun e w' => e=.returned (.bool r)∧Drawn0 w w' := by
 have H:=h
 unfold r12_Right.f at H
 clear h
 by_cases c3 : a0≤60
 ·
  rw [if_pos c3] at H
  have aa:=yD c3
  clear c3
  by_cases c4 : a1=1
  ·
   rw [if_pos c4] at H
   obtain ⟨ac,ae⟩:=yE c4
   clear c4
   by_cases c5 : a0 ≥ 11
   ·
    rw [if_pos c5] at H
    have af:=yDl c5
    clear c5
    obtain rfl:=Option.some.inj H
    go_enter Try.func23,Try.ntmps23
    go_wp2
    go_ret
    exact ⟨yq,yd⟩
   rw [if_neg c5] at H
   have af:=yGl c5
   clear c5
   by_cases c6 : a1=2
   ·
    rw [if_pos c6] at H
    obtain ⟨ag,ah⟩:=yE c6
    clear c6
    obtain rfl:=Option.some.inj H
    go_enter Try.func23,Try.ntmps23
    go_wp2
    go_ret
    exact ⟨yq,yd⟩
   rw [if_neg c6] at H
   obtain ⟨ag,ah⟩:=yF c6
   obtain rfl:=Option.some.inj H
   go_enter Try.func23,Try.ntmps23
   go_wp2
   go_ret
   exact ⟨yq,yd⟩
  rw [if_neg c4] at H
  obtain ⟨ac,ae⟩:=yF c4
  by_cases c7 : a1=2
  ·
   rw [if_pos c7] at H
   obtain ⟨ai,aj⟩:=yE c7
   clear c7
   obtain rfl:=Option.some.inj H
   go_enter Try.func23,Try.ntmps23
   go_wp2
   go_ret
   exact ⟨yq,yd⟩
  rw [if_neg c7] at H
  obtain ⟨ai,aj⟩:=yF c7
  obtain rfl:=Option.some.inj H
  go_enter Try.func23,Try.ntmps23
  go_wp2
  go_ret
  exact ⟨yq,yd⟩
 rw [if_neg c3] at H
 have aa:=yG c3
 clear c3
 obtain rfl:=Option.some.inj H
 go_enter Try.func23,Try.ntmps23
 go_wp2
 go_ret
 exact ⟨yq,yd⟩
def r12_Room.f (a0 : Int) (a1 : Int) : Option (Int):=(r12_Right.f a0 a1).bind fun aa=>(if aa=true then (if a1=1 then (some (wrap64 ((wrap64 (8 * a0)) - 86))) else (some (wrap64 (Int.tdiv (wrap64 ((wrap64 (8 * a0)) - 131)) 2)))) else (some 0))
set_option maxHeartbeats 8000000 in
set_option maxRecDepth 100000 in
theorem r12_Room.calls (a0 : Int) (a1 : Int) (r : Int) (w : World) (h : r12_Room.f a0 a1=some r) :
  Calls Try.prog 84 #[.int .i64 a0, .int .i64 a1] w fun e w' => e=.returned (.int .i64 r)∧Drawn0 w w' := by
 have H:=h
 unfold r12_Room.f at H
 clear h
 obtain ⟨aa,A3,H⟩:=ybi H
 by_cases c4 : aa=true
 ·
  subst c4
  rw [if_pos rfl] at H
  by_cases c5 : a1=1
  ·
   rw [if_pos c5] at H
   obtain ⟨ac,ae⟩:=yE c5
   clear c5
   obtain rfl:=Option.some.inj H
   go_enter Try.func84,Try.ntmps84
   go_wp2_with (first|((with_reducible refine gate_callee (f:=23) rfl ?_);refine ygl 7 Try.func23 #[.int .i64 a0, .int .i64 a1] ?_;(with_reducible refine (r12_Right.calls a0 a1 true _ A3.out).mono ?_);rintro e w' ⟨rfl,⟨nd,rfl⟩⟩;refine ⟨_,rfl, ?_⟩))
   go_ret
   exact ⟨yq,yd⟩
  rw [if_neg c5] at H
  obtain ⟨ac,ae⟩:=yF c5
  obtain rfl:=Option.some.inj H
  go_enter Try.func84,Try.ntmps84
  go_wp2_with (first|((with_reducible refine gate_callee (f:=23) rfl ?_);refine ygl 7 Try.func23 #[.int .i64 a0, .int .i64 a1] ?_;(with_reducible refine (r12_Right.calls a0 a1 true _ A3.out).mono ?_);rintro e w' ⟨rfl,⟨nd,rfl⟩⟩;refine ⟨_,rfl, ?_⟩))
  go_ret
  exact ⟨yq,yd⟩
 replace c4:=Bool.eq_false_iff.mpr c4
 subst c4
 rw [ynf] at H
 obtain rfl:=Option.some.inj H
 go_enter Try.func84,Try.ntmps84
 go_wp2_with (first|((with_reducible refine gate_callee (f:=23) rfl ?_);refine ygl 7 Try.func23 #[.int .i64 a0, .int .i64 a1] ?_;(with_reducible refine (r12_Right.calls a0 a1 false _ A3.out).mono ?_);rintro e w' ⟨rfl,⟨nd,rfl⟩⟩;refine ⟨_,rfl, ?_⟩))
 go_ret
 exact ⟨yq,yd⟩
def r03_Log2.f : Nat→Int→Option (Int)
 | 0,_=>none
 | k+1,a0=>if a0=0 then (some (-1)) else ((r03_Log2.f k (IntKind.u64.wrap (Int.tdiv a0 2))).bind fun aa=>(some (wrap64 (1+aa))))
theorem r03_Log2.mono_l : ∀ k,(∀ y0,LeO (r03_Log2.f k y0) (r03_Log2.f (k+1) y0))
 | 0=>fun _ r h=>by simp [r03_Log2.f] at h
 | k+1=>by
  have ih0:=r03_Log2.mono_l k
  ·
   intro y0
   unfold r03_Log2.f
   repeat' with_reducible first|apply ih0|apply yLr|apply yLn|apply yLi|apply yLb|intro _
theorem r03_Log2.mono : ∀ a0 k,LeO (r03_Log2.f k a0) (r03_Log2.f (k+1) a0):=by
 intro a0 k
 have ih0:=r03_Log2.mono_l k
 exact ih0 a0
set_option maxHeartbeats 8000000 in
set_option maxRecDepth 100000 in
theorem r03_Log2.calls (k : Nat) : ∀ (a0 : Int) (r : Int) (w : World) (h : r03_Log2.f k a0=some r),
  Calls Try.prog 102 #[.int .u64 a0] w fun e w' => e=.returned (.int .i64 r)∧Drawn0 w w' := by
 induction k using Nat.strongRecOn with
 | _ k ih =>
 intro a0 r w h
 cases k with
 | zero=>exact absurd h (by simp [r03_Log2.f])
 | succ k =>
 simp only [r03_Log2.f] at h
 have H : (if a0=0 then (some (-1)) else ((r03_Log2.f k (IntKind.u64.wrap (Int.tdiv a0 2))).bind fun aa=>(some (wrap64 (1+aa)))))=some r:=h
 clear h
 by_cases c2 : a0=0
 ·
  rw [if_pos c2] at H
  obtain ⟨ac,ae⟩:=yE c2
  clear c2
  obtain rfl:=Option.some.inj H
  go_enter Try.func102,Try.ntmps102
  go_wp2
  go_ret
  exact ⟨yq,yd⟩
 rw [if_neg c2] at H
 obtain ⟨ac,ae⟩:=yF c2
 obtain ⟨aa,A3,H⟩:=ybi H
 obtain rfl:=Option.some.inj H
 go_enter Try.func102,Try.ntmps102
 go_wp2_with (first|((with_reducible refine gate_callee (f:=102) rfl ?_);refine ygl 7 Try.func102 #[.int .u64 (IntKind.u64.wrap (Int.tdiv a0 2))] ?_;(with_reducible refine (ih k (by omega) (IntKind.u64.wrap (Int.tdiv a0 2)) aa _ A3.out).mono ?_);rintro e w' ⟨rfl,⟨nd,rfl⟩⟩;refine ⟨_,rfl, ?_⟩))
 go_ret
 exact ⟨yq,yd⟩
def r06_Cost.f (k : Nat) (a0 : Int) (a1 : Int) : Option (Int):=(r06_Count.f k a0 a1).bind fun aa=>(if (IntKind.u64.wrap (aa - 1)) < 65536 then ((r03_Log2.f k (IntKind.u64.wrap (aa - 1))).bind fun ac=>(some (wrap64 (1+ac)))) else ((r03_Log2.f k (IntKind.u64.wrap (Int.tdiv (IntKind.u64.wrap (aa - 1)) 65536))).bind fun ae=>(some (wrap64 (17+ae)))))
theorem r06_Cost.mono : ∀ a0 a1 k,LeO (r06_Cost.f k a0 a1) (r06_Cost.f (k+1) a0 a1):=by
 intro a0 a1 k
 unfold r06_Cost.f
 repeat' with_reducible first|apply r03_Log2.mono|apply r06_Count.mono|apply yLr|apply yLn|apply yLi|apply yLb|intro _
set_option maxHeartbeats 8000000 in
set_option maxRecDepth 100000 in
theorem r06_Cost.calls (k : Nat) (a0 : Int) (a1 : Int) (r : Int) (w : World) (h : r06_Cost.f k a0 a1=some r) :
  Calls Try.prog 101 #[.int .i64 a0, .int .i64 a1] w fun e w' => e=.returned (.int .i64 r)∧Below w.heap.size w w' := by
 have HB:=zm (Below.refl w.heap.size w);have H:=h
 unfold r06_Cost.f at H
 clear h
 obtain ⟨aa,A3,H⟩:=ybi H
 by_cases c4 : (IntKind.u64.wrap (aa - 1)) < 65536
 ·
  rw [if_pos c4] at H
  have af:=yD c4
  clear c4
  obtain ⟨ac,A5,H⟩:=ybi H
  obtain rfl:=Option.some.inj H
  go_enter Try.func101,Try.ntmps101
  go_wp2_with (first|((with_reducible refine gate_callee (f:=43) rfl ?_);refine ygl 8 Try.func43 #[.int .i64 a0, .int .i64 a1] ?_;(with_reducible refine (r06_Count.calls k a0 a1 aa _ A3.out).mono ?_);rintro e w6 ⟨rfl,hb⟩;refine ⟨_,rfl, ?_⟩;replace HB:=ybs hb;(try clear hb))|((with_reducible refine gate_callee (f:=102) rfl ?_);refine ygl 13 Try.func102 #[.int .u64 (IntKind.u64.wrap (aa - 1))] ?_;(with_reducible refine (r03_Log2.calls k (IntKind.u64.wrap (aa - 1)) ac _ A5.out).mono ?_);rintro e w' ⟨rfl,⟨nd,rfl⟩⟩;refine ⟨_,rfl, ?_⟩))
  go_ret
  exact ⟨ye,yhb⟩
 rw [if_neg c4] at H
 have af:=yG c4
 clear c4
 obtain ⟨ae,A7,H⟩:=ybi H
 obtain rfl:=Option.some.inj H
 go_enter Try.func101,Try.ntmps101
 go_wp2_with (first|((with_reducible refine gate_callee (f:=43) rfl ?_);refine ygl 8 Try.func43 #[.int .i64 a0, .int .i64 a1] ?_;(with_reducible refine (r06_Count.calls k a0 a1 aa _ A3.out).mono ?_);rintro e w8 ⟨rfl,hb⟩;refine ⟨_,rfl, ?_⟩;replace HB:=ybs hb;(try clear hb))|((with_reducible refine gate_callee (f:=102) rfl ?_);refine ygl 17 Try.func102 #[.int .u64 (IntKind.u64.wrap (Int.tdiv (IntKind.u64.wrap (aa - 1)) 65536))] ?_;(with_reducible refine (r03_Log2.calls k (IntKind.u64.wrap (Int.tdiv (IntKind.u64.wrap (aa - 1)) 65536)) ae _ A7.out).mono ?_);rintro e w' ⟨rfl,⟨nd,rfl⟩⟩;refine ⟨_,rfl, ?_⟩))
 go_ret
 exact ⟨ye,yhb⟩
def r10_Width.j0 : Nat→Int→Bool→Option (Int)
 | 0,_,_=>none
 | k+1,x3,x4=>if x4=true then (some 1) else (if x3=2 then (some 2) else (if x3=3 then (some 4) else (if x3=4 then (some 8) else (some 0))))
def r10_Width.f (k : Nat) (a0 : Int) : Option (Int):=if a0=0 then (r10_Width.j0 k a0 (a0 == 0)) else (r10_Width.j0 k a0 (a0 == 1))
theorem r10_Width.mono_l : ∀ k,(∀ y0 y1,LeO (r10_Width.j0 k y0 y1) (r10_Width.j0 (k+1) y0 y1))
 | 0=>fun _ _ r h=>by simp [r10_Width.j0] at h
 | k+1=>by
  have ih0:=r10_Width.mono_l k
  ·
   intro y0 y1
   unfold r10_Width.j0
   repeat' with_reducible first|apply ih0|apply yLr|apply yLn|apply yLi|apply yLb|intro _
theorem r10_Width.mono : ∀ a0 k,LeO (r10_Width.f k a0) (r10_Width.f (k+1) a0):=by
 intro a0 k
 have ih0:=r10_Width.mono_l k
 unfold r10_Width.f
 repeat' with_reducible first|apply ih0|apply yLr|apply yLn|apply yLi|apply yLb|intro _
set_option maxHeartbeats 8000000 in
set_option maxRecDepth 100000 in
theorem r10_Width.calls (k : Nat) (a0 : Int) (r : Int) (w : World) (h : r10_Width.f k a0=some r) :
  Calls Try.prog 46 #[.int .i64 a0] w fun e w' => e=.returned (.int .i64 r)∧Drawn0 w w' := by
 have H:=h
 unfold r10_Width.f at H
 clear h;have HC2:=zm H;clear H
 go_enter Try.func46,Try.ntmps46
 go_upto_if 4 with (fail)
 go_cut [4] (fun v4 wc => ∃ (kq : Nat) (ac : Bool),v4=.bool ac∧Aside0 (r10_Width.j0 kq a0 ac=some r)∧Aside0 (kq≤k)∧Drawn0 w wc)
 case first =>
  have H:=HC2.out;clear HC2
  by_cases c3 : a0=0
  ·
   rw [if_pos c3] at H
   obtain ⟨aa,ae⟩:=yE c3
   clear c3
   (first|rw [aa]|(simp only [i64_w,i32_w];rw [aa])|skip)
   have H' := zm H
   clear H
   go_wp2
   go_meet
   case rel=>exact ⟨_,((a0 == 0)),yq,H',⟨yo⟩,yd⟩
  rw [if_neg c3] at H
  obtain ⟨aa,ae⟩:=yF c3
  (first|rw [aa]|(simp only [i64_w,i32_w];rw [aa])|skip)
  have H' := zm H
  clear H
  go_wp2
  go_meet
  case rel=>exact ⟨_,((a0 == 1)),yq,H',⟨yo⟩,yd⟩
 case rest =>
  clear HC2
  obtain ⟨kq,ac,rfl,HA,HJ1,⟨mc1,rfl⟩⟩:=hcut
  obtain ⟨kj1,rfl⟩:=ysu kq (fun h=>by subst h;exact absurd HA.out (by simp [r10_Width.j0]))
  have H:=HA.out;clear HA
  simp only [r10_Width.j0] at H
  by_cases c4 : ac=true
  ·
   subst c4
   rw [if_pos rfl] at H
   obtain rfl:=Option.some.inj H
   go_wp2
   go_ret
   exact ⟨yq,yd⟩
  replace c4:=Bool.eq_false_iff.mpr c4
  subst c4
  rw [ynf] at H
  by_cases c5 : a0=2
  ·
   rw [if_pos c5] at H
   obtain ⟨af,ag⟩:=yE c5
   clear c5
   obtain rfl:=Option.some.inj H
   go_wp2
   go_ret
   exact ⟨yq,yd⟩
  rw [if_neg c5] at H
  obtain ⟨af,ag⟩:=yF c5
  by_cases c6 : a0=3
  ·
   rw [if_pos c6] at H
   obtain ⟨ah,ai⟩:=yE c6
   clear c6
   obtain rfl:=Option.some.inj H
   go_wp2
   go_ret
   exact ⟨yq,yd⟩
  rw [if_neg c6] at H
  obtain ⟨ah,ai⟩:=yF c6
  by_cases c7 : a0=4
  ·
   rw [if_pos c7] at H
   obtain ⟨aj,ak⟩:=yE c7
   clear c7
   obtain rfl:=Option.some.inj H
   go_wp2
   go_ret
   exact ⟨yq,yd⟩
  rw [if_neg c7] at H
  obtain ⟨aj,ak⟩:=yF c7
  obtain rfl:=Option.some.inj H
  go_wp2
  go_ret
  exact ⟨yq,yd⟩
def r12_More.f (l0 : List Int) (a1 : Int) : Option (List Int):=(some (([] : List Int) : List Int)).bind fun ae=>(if ae.length+l0.length < 17592186044416 then ((some (ae ++ l0 : List Int)).bind fun aa=>(if 0≤a1 then (if a1 < (aa.length : Int) then (some (aa.set (a1 : Int).toNat (wrap64 ((rd aa a1)+1)))) else (none)) else (none))) else (none))
set_option maxHeartbeats 8000000 in
set_option maxRecDepth 100000 in
theorem r12_More.calls (A0 : Option Addr) (c0 : Nat) (l0 : List Int) (a1 : Int) (r : List Int) (w : World) (hr0 : Kd.C (Kd.int .i64) w A0 l0.length l0) (hc0 : l0.length≤c0) (h : r12_More.f l0 a1=some r) :
  Calls Try.prog 96 #[.slice A0 l0.length c0, .int .i64 a1] w fun e w' => ∃ v0_ : Value,e=.returned (v0_)∧Kd.R (Kd.int .i64) 3 w' w.heap.size (fun _=>True) v0_ r∧Below w.heap.size w w' := by
 have HR0:=zm hr0;have HC0:=zm hc0;clear hr0 hc0;have HB:=zm (Below.refl w.heap.size w);have H:=h
 unfold r12_More.f at H
 clear h
 obtain ⟨ae,af⟩ : ∃ y_ : List Int,y_=(([] : List Int)):=⟨_,rfl⟩
 replace H : (if ae.length+l0.length < 17592186044416 then ((some (ae ++ l0 : List Int)).bind fun aa=>(if 0≤a1 then (if a1 < (aa.length : Int) then (some (aa.set (a1 : Int).toNat (wrap64 ((rd aa a1)+1)))) else (none)) else (none))) else (none))=some r:=yrw af H
 have aj:=zm af;clear af
 obtain ⟨c3,H⟩:=yif H
 have LMc3:=zm c3;clear c3
 obtain ⟨aa,ag⟩ : ∃ y_ : List Int,y_=(ae ++ l0):=⟨_,rfl⟩
 replace H : (if 0≤a1 then (if a1 < (aa.length : Int) then (some (aa.set (a1 : Int).toNat (wrap64 ((rd aa a1)+1)))) else (none)) else (none))=some r:=yrw ag H
 have ap:=zm ag;clear ag
 obtain ⟨c4,H⟩:=yif H
 have aE : decide (0≤a1)=true:=decide_eq_true c4
 clear c4
 obtain ⟨c5,H⟩:=yif H
 have aG : decide (a1 < (aa.length : Int))=true:=decide_eq_true c5
 clear c5
 obtain ⟨aq,ah⟩ : ∃ y_ : List Int,y_=(aa.set (a1 : Int).toNat (wrap64 ((rd aa a1)+1))):=⟨_,rfl⟩
 replace H : (some aq)=some r:=yrw ah H
 have au:=zm ah;clear ah
 obtain rfl:=Option.some.inj H
 go_enter Try.func96,Try.ntmps96
 go_wp2_with (first|((with_reducible refine gate_dst (N:=6) rfl ?_);refine Kd.R_lit (Kd.int .i64) _ 3 ?hg (N:=6) ?hd (xs:=([] : List Int)) (inner := []) (ok:=fun _=>True) (okp:=fun _=>True) ?hr ?hp (fun _ hk=>hk) trivial (Below.refl _ _) (Nat.le_refl _) (by simp) ?_;(case hd=>rfl);(case hg=>rfl);(case hr=>first|(go_simp;done)|(go_simp;rfl));(case hp=>exact (Reps.none _ _));intro av w7 ho8 hb hg_ hnew_;clear hg_ hnew_;(first|rw [← aj.out] at ho8|(simp only [Int.reduceToNat] at ho8;rw [← aj.out] at ho8));have ak:=zm (Kd.R_lower ho8 (zE yhb));replace HB:=ybs hb;clear hb ho8)|((with_reducible refine gate_builtin (b:=.append) (xs := #[.tmp 6, .tmp 7]) rfl ?_);at_builtin;refine Kd.R_append_rows (Kd.int .i64) (w0:=w) w.heap.size rfl (.tmp 6) (.tmp 7) 49 3 (.int .i64 0) 8 rfl Try.underlying49 info3 rfl (by decide) (by omega) av ae l0 _ _ _ (fun _=>True) (fun _=>False) rfl rfl ?aO ?aR (fun _ _ h=>h) (fun _ h=>h.elim) ?aF ?aB ?aS ?aL ?_;(case aR=>exact ycb HR0);(case aB=>exact yhb);(case aF=>exact (fun _ _=>trivial));(case aO=>exact (yr ak));(case aS=>exact (zE yhb));(case aL=>have:=LMc3.out;omega);intro aH w9 ho hb hg hat;rw [← ap.out] at ho;replace HB:=zm (hb);have ac:=zm (ho);clear ak;clear ho hb hg hat;obtain ⟨aI,aw,ax⟩:=Kd.R_slice ac.out;subst ax;have al : 0≤(a1 : Int):=yt;have am : a1 < (aa.length : Int):=yt;obtain ⟨az,ay,ai⟩:=Kd.at_int (Kd.R_reads' ac.out).2.2 a1 al am;cases ay;replace al:=eq_true al;replace am:=eq_true am;have p6 : 0≤(a1 : Int):=yt;have q6 : (a1 : Int) < ((aa.length : Int) : Int):=yt;obtain ⟨go6,co6,eo6,gb6,gl6,cl6,HG6⟩:=Kd.R_form ac.out (by omega);(first|cases eo6|(injection eo6 with ea_ en_ ec_;(first|subst ea_|(injection ea_ with ea_;subst ea_));subst ec_;clear en_));have GB6:=zm gb6;have GG6:=zm HG6;clear gb6 gl6 HG6;(first|simp only [add_plain] at ai|skip);obtain ⟨aA,aC⟩:=Kd.R_celln 0 ac.out (a1 : Int) p6 q6;replace p6:=eq_true p6;replace q6:=eq_true q6;obtain ⟨aD,hz11_⟩:=Kd.R_celln 0 ac.out (a1 : Int) (yt) (yt);have ao:=Kd.R_putg ac.out (a1 : Int) (wrap64 ((rd aa a1)+1)))|((with_reducible refine gate_store (t:=3) (p:=16) rfl ?_);refine store_event (t:=3) (p:=16) (v := ?vo_w12) (w1:=(w9.setCell ⟨go6,(a1 : Int).toNat,none⟩ (.int .i64 (wrap64 ((rd aa a1)+1))))) ?hg ?ho ?hn ?hr ?_;(case ho=>rfl);(case hg=>rfl);(case hn=>rfl);(case hr=>first|(go_simp;done)|(go_simp;rfl));intro w12 hw;have hg : w9.grownBy w12 (some go6):=(by rw [hw];exact ao.2);have hp_ : Kd.R (Kd.int .i64) 3 w12 w.heap.size (fun _=>True) (.slice (some ⟨go6,0,none⟩) aa.length aw) aq:=(by rw [hw,au.out];exact ao.1);clear ao;replace ac:=zm (hp_);replace HB:=zm ((by rw [hw];exact zk (HB.out) GB6.out : Below w.heap.size w w12));clear hg hw hp_))
 go_ret
 exact ⟨_,ye,yr ac,yhb⟩
def r12_Spent.l0 : Nat→List Int→Int→Int→Option (Int)
 | 0,_,_,_=>none
 | k+1,x0,x3,x4=>if x4 < 5 then ((r10_Width.f k x4).bind fun ae=>(if 0≤x4 then (if x4 < (x0.length : Int) then ((r06_Cost.f k ae (rd x0 x4)).bind fun af=>(r12_Spent.l0 k x0 (wrap64 (x3+af)) (wrap64 (x4+1)))) else (none)) else (none))) else (some x3)
def r12_Spent.f (k : Nat) (l0 : List Int) : Option (Int):=r12_Spent.l0 k l0 0 0
theorem r12_Spent.mono_l : ∀ k,(∀ y0 y1 y2,LeO (r12_Spent.l0 k y0 y1 y2) (r12_Spent.l0 (k+1) y0 y1 y2))
 | 0=>fun _ _ _ r h=>by simp [r12_Spent.l0] at h
 | k+1=>by
  have ih0:=r12_Spent.mono_l k
  ·
   intro y0 y1 y2
   unfold r12_Spent.l0
   repeat' with_reducible first|apply ih0|apply r06_Cost.mono|apply r10_Width.mono|apply yLr|apply yLn|apply yLi|apply yLb|intro _
theorem r12_Spent.mono : ∀ a0 k,LeO (r12_Spent.f k a0) (r12_Spent.f (k+1) a0):=by
 intro a0 k
 have ih0:=r12_Spent.mono_l k
 unfold r12_Spent.f
 repeat' with_reducible first|apply ih0|apply r06_Cost.mono|apply r10_Width.mono|apply yLr|apply yLn|apply yLi|apply yLb|intro _
def r12_Spent.T5 : Bool × List (List Nat × List Nat):=(true, [([], []),([], []),([1], [1]),([], []),([], []),([3,4], [3,4]),([5], [5]),([2,6,2], [2,6]),([0,7], [0,7]),([8,7,0,1,2,3,4,5,6,7,8], [0,8])])
def r12_Spent.B5 : List Nat := [0,0,2,0,0,24,56,126,255,511]
theorem r12_Spent.tab5 : rtab .any (opsOf Try.f99 5)=r12_Spent.T5:=by kernel_rfl
theorem r12_Spent.bits5 : waitsOk r12_Spent.T5.2 r12_Spent.B5=true:=by kernel_rfl
set_option maxHeartbeats 8000000 in
set_option maxRecDepth 100000 in
theorem r12_Spent.calls (k : Nat) (A0 : Option Addr) (c0 : Nat) (l0 : List Int) (r : Int) (w : World) (hr0 : Kd.C (Kd.int .i64) w A0 l0.length l0) (hc0 : l0.length≤c0) (h : r12_Spent.f k l0=some r) :
  Calls Try.prog 99 #[.slice A0 l0.length c0] w fun e w' => e=.returned (.int .i64 r)∧Below w.heap.size w w' := by
 have HR0:=zm hr0;have HC0:=zm hc0;clear hr0 hc0;have HB:=zm (Below.refl w.heap.size w);have H:=h
 unfold r12_Spent.f at H
 clear h
 have H' := zm H
 clear H
 go_enter Try.func99,Try.ntmps99
 go_wp2
 go_loopg [3,4] k (fun kq v3 v4 w' => ∃ (ag : Int) (aa : Int),v3=.int .i64 ag∧v4=.int .i64 aa∧Aside0 (r12_Spent.l0 kq l0 ag aa=some r)∧Aside0 (kq≤k)∧Aside0 (Below w.heap.size w w'))
 case atStart=>exact ⟨(0),(0),yq,yq,H',⟨Nat.le_refl _⟩,⟨yhb⟩⟩
 case round =>
  clear H'
  obtain ⟨ag,aa,rfl,rfl,HA,HK1,HB⟩:=hrel
  obtain ⟨k1,rfl⟩:=ysu gk (fun h=>by subst h;exact absurd HA.out (by simp [r12_Spent.l0]))
  have H:=HA.out;clear HA
  simp only [r12_Spent.l0] at H
  by_cases c2 : aa < 5
  ·
   rw [if_pos c2] at H
   have ak:=yD c2
   clear c2
   obtain ⟨ae,A3,H⟩:=ybi H
   obtain ⟨c4,H⟩:=yif H
   have am : decide (0≤aa)=true:=decide_eq_true c4
   clear c4
   obtain ⟨c5,H⟩:=yif H
   have ao : decide (aa < (l0.length : Int))=true:=decide_eq_true c5
   clear c5
   obtain ⟨af,A6,H⟩:=ybi H
   have H' := zm H
   clear H
   try go_wp2
   replace HB:=zm (zf HB.out)
   have ah : 0≤(aa : Int):=yt
   have ai : aa < (l0.length : Int):=yt
   obtain ⟨aj,al,ac⟩:=Kd.at_int HR0.out aa ah ai
   have hw705_0:=ac
   cases al
   replace ac:=yhx HB ac
   replace ah:=eq_true ah
   replace ai:=eq_true ai
   refine start_ (n:=10) (S:=fun w' => w'.cell? (aj.add (aa).toNat)=some (.int .i64 (rd l0 aa))) (ds := []) #[false,false,false,false,false,false,false,false,false,false] (by kernel_rfl) rfl rfl ((yhx HB hw705_0 :)) (fun hHeld => ?_);refine with_tabW r12_Spent.tab5 r12_Spent.bits5 (fun HT_ HW_ => ?_)
   generalize wr.drew=w7 at HB ac hHeld ⊢
   refine yp 0 9 HT_ ?_
   refine yp 1 10 HT_ ?_
   refine yp 3 12 HT_ ?_
   refine yp 4 13 HT_ ?_
   refine yp 5 14 HT_ ?_
   refine yl 6 15 HT_ HW_ hHeld ?_
   refine yw 2 11 HT_ (fun K hK => ?_)
   refine ygs Try.func46 #[.int .i64 aa] ?_
   with_reducible refine (r10_Width.calls k1 aa ae _ A3.out).mono ?_
   rintro e w' ⟨rfl,⟨nd,rfl⟩⟩
   refine ⟨_,rfl, ?_⟩
   refine hK.out _ _ ((yhx HB hw705_0 :)) (fun hHeld => ?_)
   clear hK K
   refine ym (some 11) ?_
   refine yw 7 16 HT_ (fun K hK => ?_)
   refine ygs Try.func101 #[.int .i64 ae, .int .i64 (rd l0 aa)] ?_
   with_reducible refine (r06_Cost.calls k1 ae (rd l0 aa) af _ A6.out).mono ?_
   rintro e w8 ⟨rfl,hb⟩
   refine ⟨_,rfl, ?_⟩
   replace HB:=ybs hb
   (try clear hb)
   refine hK.out _ _ ((yhx HB hw705_0 :)) (fun hHeld => ?_)
   clear hK K
   refine ym (some 16) ?_
   refine yp 8 17 HT_ ?_
   refine yp 9 3 HT_ ?_
   refine done_ (done_of HT_.out (by kernel_rfl)) ?_
   try go_wp2
   go_roundg k1
   case measure=>exact yom1 HK1
   case rel=>exact ⟨(wrap64 (ag+af)),(wrap64 (aa+1)),yq,yq,H',⟨yom1 HK1⟩,⟨yhb⟩⟩
  rw [if_neg c2] at H
  have ak:=yG c2
  clear c2
  obtain rfl:=Option.some.inj H
  go_wp2
  go_ret
  exact ⟨ye,yhb⟩
def r12_May.j0 : Nat→List Int→Int→Int→Bool→Option (Bool)
 | 0,_,_,_,_=>none
 | k+1,x1,x2,x3,x32=>if x32=true then (some false) else ((r12_More.f x1 x2).bind fun am=>((r12_Spent.f k am).bind fun aw=>(some (decide (aw≤x3)))))
def r12_May.f (k : Nat) (l0 : List Int) (l1 : List Int) (a2 : Int) (a3 : Int) : Option (Bool):=if 0≤a2 then (if a2 < (l0.length : Int) then (if (rd l0 a2) < 1 then (r12_May.j0 k l1 a2 a3 true) else (if a2 < (l1.length : Int) then (if (rd l1 a2) ≥ 12 then (r12_May.j0 k l1 a2 a3 true) else ((r10_Width.f k a2).bind fun ao=>(if ao=1 then (r12_May.j0 k l1 a2 a3 (decide ((rd l1 a2) > 0))) else (r12_May.j0 k l1 a2 a3 false)))) else (none))) else (none)) else (none)
theorem r12_May.mono_l : ∀ k,(∀ y0 y1 y2 y3,LeO (r12_May.j0 k y0 y1 y2 y3) (r12_May.j0 (k+1) y0 y1 y2 y3))
 | 0=>fun _ _ _ _ r h=>by simp [r12_May.j0] at h
 | k+1=>by
  have ih0:=r12_May.mono_l k
  ·
   intro y0 y1 y2 y3
   unfold r12_May.j0
   repeat' with_reducible first|apply ih0|apply r10_Width.mono|apply r12_Spent.mono|apply yLr|apply yLn|apply yLi|apply yLb|intro _
theorem r12_May.mono : ∀ a0 a1 a2 a3 k,LeO (r12_May.f k a0 a1 a2 a3) (r12_May.f (k+1) a0 a1 a2 a3):=by
 intro a0 a1 a2 a3 k
 have ih0:=r12_May.mono_l k
 unfold r12_May.f
 repeat' with_reducible first|apply ih0|apply r10_Width.mono|apply r12_Spent.mono|apply yLr|apply yLn|apply yLi|apply yLb|intro _
set_option maxHeartbeats 8000000 in
set_option maxRecDepth 100000 in
theorem r12_May.calls (k : Nat) (A0 : Option Addr) (c0 : Nat) (l0 : List Int) (A1 : Option Addr) (c1 : Nat) (l1 : List Int) (a2 : Int) (a3 : Int) (r : Bool) (w : World) (hr0 : Kd.C (Kd.int .i64) w A0 l0.length l0) (hc0 : l0.length≤c0) (hr1 : Kd.C (Kd.int .i64) w A1 l1.length l1) (hc1 : l1.length≤c1) (h : r12_May.f k l0 l1 a2 a3=some r) :
  Calls Try.prog 95 #[.slice A0 l0.length c0, .slice A1 l1.length c1, .int .i64 a2, .int .i64 a3] w fun e w' => e=.returned (.bool r)∧Below w.heap.size w w' := by
 have HR0:=zm hr0;have HC0:=zm hc0;clear hr0 hc0;have HR1:=zm hr1;have HC1:=zm hc1;clear hr1 hc1;have HB:=zm (Below.refl w.heap.size w);have H:=h
 unfold r12_May.f at H
 clear h;have HC5:=zm H;clear H
 go_enter Try.func95,Try.ntmps95
 go_upto_region 1 with (fail)
 go_cut [32] (fun v32 wc => ∃ (kq : Nat) (ak : Bool),v32=.bool ak∧Aside0 (r12_May.j0 kq l1 a2 a3 ak=some r)∧Aside0 (kq≤k)∧Aside0 (Below w.heap.size w wc))
 case first =>
  have H:=HC5.out;clear HC5
  obtain ⟨c6,H⟩:=yif H
  have az : decide (0≤a2)=true:=decide_eq_true c6
  clear c6
  (first|rw [az]|(simp only [i64_w,i32_w];rw [az])|skip)
  obtain ⟨c7,H⟩:=yif H
  have aN : decide (a2 < (l0.length : Int))=true:=decide_eq_true c7
  clear c7
  by_cases c8 : (rd l0 a2) < 1
  ·
   rw [if_pos c8] at H
   have aH:=yD c8
   clear c8
   have H' := zm H
   clear H
   have ae : 0≤(a2 : Int):=yt
   have af : a2 < (l0.length : Int):=yt
   obtain ⟨ap,aj,aa⟩:=Kd.at_int HR0.out a2 ae af
   cases aj
   replace aa:=yhx HB aa
   replace ae:=eq_true ae
   replace af:=eq_true af
   go_wp2
   go_meet
   case rel=>exact ⟨_,(true),yq,H',⟨yo⟩,⟨yhb⟩⟩
  rw [if_neg c8] at H
  have aH:=yG c8
  clear c8
  obtain ⟨c9,H⟩:=yif H
  have aQ : decide (a2 < (l1.length : Int))=true:=decide_eq_true c9
  clear c9
  by_cases c10 : (rd l1 a2) ≥ 12
  ·
   rw [if_pos c10] at H
   have aA:=yDl c10
   clear c10
   have H' := zm H
   clear H
   have ae : 0≤(a2 : Int):=yt
   have af : a2 < (l0.length : Int):=yt
   obtain ⟨ap,aj,aa⟩:=Kd.at_int HR0.out a2 ae af
   cases aj
   replace aa:=yhx HB aa
   replace ae:=eq_true ae
   replace af:=eq_true af
   have ag : 0≤(a2 : Int):=yt
   have ah : a2 < (l1.length : Int):=yt
   obtain ⟨aq,au,ac⟩:=Kd.at_int HR1.out a2 ag ah
   cases au
   replace ac:=yhx HB ac
   replace ag:=eq_true ag
   replace ah:=eq_true ah
   go_wp2
   go_meet
   case rel=>exact ⟨_,(true),yq,H',⟨yo⟩,⟨yhb⟩⟩
  rw [if_neg c10] at H
  have aA:=yGl c10
  clear c10
  obtain ⟨ao,A11,H⟩:=ybi H
  by_cases c12 : ao=1
  ·
   rw [if_pos c12] at H
   obtain ⟨aC,aD⟩:=yE c12
   clear c12
   have H' := zm H
   clear H
   have ae : 0≤(a2 : Int):=yt
   have af : a2 < (l0.length : Int):=yt
   obtain ⟨ap,aj,aa⟩:=Kd.at_int HR0.out a2 ae af
   cases aj
   replace aa:=yhx HB aa
   replace ae:=eq_true ae
   replace af:=eq_true af
   have ag : 0≤(a2 : Int):=yt
   have ah : a2 < (l1.length : Int):=yt
   obtain ⟨aq,au,ac⟩:=Kd.at_int HR1.out a2 ag ah
   cases au
   replace ac:=yhx HB ac
   replace ag:=eq_true ag
   replace ah:=eq_true ah
   go_wp2_with (first|(go_at_call 46;(with_reducible refine (r10_Width.calls k a2 ao _ A11.out).mono ?_);rintro e w' ⟨rfl,⟨nd,rfl⟩⟩;have ax : 0≤(a2 : Int):=yt;have ay : a2 < (l1.length : Int):=yt;obtain ⟨aE,aI,al⟩:=Kd.at_int HR1.out a2 ax ay;obtain rfl : aq=aE:=(by injection aI);replace al:=yhx HB al;replace ax:=eq_true ax;replace ay:=eq_true ay))
   go_meet
   case rel=>exact ⟨_,(decide ((rd l1 a2) > 0)),yq,H',⟨yo⟩,⟨yhb⟩⟩
  rw [if_neg c12] at H
  obtain ⟨aC,aD⟩:=yF c12
  have H' := zm H
  clear H
  have ae : 0≤(a2 : Int):=yt
  have af : a2 < (l0.length : Int):=yt
  obtain ⟨ap,aj,aa⟩:=Kd.at_int HR0.out a2 ae af
  cases aj
  replace aa:=yhx HB aa
  replace ae:=eq_true ae
  replace af:=eq_true af
  have ag : 0≤(a2 : Int):=yt
  have ah : a2 < (l1.length : Int):=yt
  obtain ⟨aq,au,ac⟩:=Kd.at_int HR1.out a2 ag ah
  cases au
  replace ac:=yhx HB ac
  replace ag:=eq_true ag
  replace ah:=eq_true ah
  go_wp2_with (first|(go_at_call 46;(with_reducible refine (r10_Width.calls k a2 ao _ A11.out).mono ?_);rintro e w' ⟨rfl,⟨nd,rfl⟩⟩))
  go_meet
  case rel=>exact ⟨_,(false),yq,H',⟨yo⟩,⟨yhb⟩⟩
 case rest =>
  clear HC5
  try clear c1
  obtain ⟨kq,ak,rfl,HA,HJ4,HB⟩:=hcut
  obtain ⟨kj4,rfl⟩:=ysu kq (fun h=>by subst h;exact absurd HA.out (by simp [r12_May.j0]))
  have H:=HA.out;clear HA
  simp only [r12_May.j0] at H
  by_cases c13 : ak=true
  ·
   subst c13
   rw [if_pos rfl] at H
   obtain rfl:=Option.some.inj H
   go_wp2
   go_ret
   exact ⟨ye,yhb⟩
  replace c13:=Bool.eq_false_iff.mpr c13
  subst c13
  rw [ynf] at H
  obtain ⟨am,A14,H⟩:=ybi H
  obtain ⟨aw,A15,H⟩:=ybi H
  obtain rfl:=Option.some.inj H
  go_wp2_with (first|((with_reducible refine gate_callee (f:=96) rfl ?_);refine ygl 35 Try.func96 #[.slice A1 l1.length c1, .int .i64 a2] ?_;(with_reducible refine (r12_More.calls _ _ l1 a2 am _ ?av HC1.out A14.out).mono ?_);(case av=>exact ycb HR1);rintro e w16 ⟨aT,rfl,ho0,hb⟩;refine ⟨_,rfl, ?_⟩;have ai:=zm (Kd.R_lower ho0 (zE yhb));replace HB:=ybs hb;(try clear hb);(try clear ho0);obtain ⟨aJ,aK,aM⟩:=Kd.R_slice ai.out;subst aM)|((with_reducible refine gate_callee (f:=99) rfl ?_);refine ygl 36 Try.func99 #[.slice aJ am.length aK] ?_;(with_reducible refine (r12_Spent.calls kj4 _ _ am aw _ ?av ?aG A15.out).mono ?_);(case av=>exact yce (Kd.R_reads' ai.out).2.2);(case aG=>exact (Kd.R_reads' ai.out).2.1);rintro e w18 ⟨rfl,hb⟩;refine ⟨_,rfl, ?_⟩;replace ai:=yRb ai hb;replace HB:=ybs hb;(try clear hb)))
  go_ret
  exact ⟨ye,yhb⟩
mutual
def r12_Channel.l0 : Nat→List Int→Int→List Int→Option (List Int)
 | 0,_,_,_=>none
 | k+1,x0,x1,x5=>r12_Channel.l1 k x0 x1 x5 (-1) 0 0
def r12_Channel.l1 : Nat→List Int→Int→List Int→Int→Int→Int→Option (List Int)
 | 0,_,_,_,_,_,_=>none
 | k+1,x0,x1,x5,x6,x7,x8=>if x8 < 5 then (if 0≤x8 then (if x8 < (x0.length : Int) then (if x8 < (x5.length : Int) then ((r10_Width.f k x8).bind fun aj=>(if aj=0 then (none) else ((r12_May.f k x0 x5 x8 x1).bind fun aH=>(if aH=true then (if x6 < 0 then (r12_Channel.l1 k x0 x1 x5 x8 (wrap64 ((wrap64 (8 * (rd x0 x8))) - (wrap64 (Int.tdiv (wrap64 (16 * (rd x5 x8))) aj)))) (wrap64 (x8+1))) else (if (wrap64 ((wrap64 (8 * (rd x0 x8))) - (wrap64 (Int.tdiv (wrap64 (16 * (rd x5 x8))) aj)))) > x7 then (r12_Channel.l1 k x0 x1 x5 x8 (wrap64 ((wrap64 (8 * (rd x0 x8))) - (wrap64 (Int.tdiv (wrap64 (16 * (rd x5 x8))) aj)))) (wrap64 (x8+1))) else (r12_Channel.l1 k x0 x1 x5 x6 x7 (wrap64 (x8+1))))) else (r12_Channel.l1 k x0 x1 x5 x6 x7 (wrap64 (x8+1))))))) else (none)) else (none)) else (none)) else (if x6 < 0 then (some x5) else ((r12_More.f x5 x6).bind fun ay=>(r12_Channel.l0 k x0 x1 ay)))
end
def r12_Channel.f (k : Nat) (l0 : List Int) (a1 : Int) : Option (List Int):=r12_Channel.l0 k l0 a1 (([0,0,0,0,0] : List Int))
theorem r12_Channel.mono_l : ∀ k,(∀ y0 y1 y2,LeO (r12_Channel.l0 k y0 y1 y2) (r12_Channel.l0 (k+1) y0 y1 y2))∧(∀ y0 y1 y2 y3 y4 y5,LeO (r12_Channel.l1 k y0 y1 y2 y3 y4 y5) (r12_Channel.l1 (k+1) y0 y1 y2 y3 y4 y5))
 | 0=>⟨fun _ _ _ r h=>by simp [r12_Channel.l0] at h,fun _ _ _ _ _ _ r h=>by simp [r12_Channel.l1] at h⟩
 | k+1=>by
  obtain ⟨ih0,ih1⟩:=r12_Channel.mono_l k
  refine ⟨?_, ?_⟩
  ·
   intro y0 y1 y2
   unfold r12_Channel.l0
   repeat' with_reducible first|apply ih0|apply ih1|apply r10_Width.mono|apply r12_May.mono|apply yLr|apply yLn|apply yLi|apply yLb|intro _
  intro y0 y1 y2 y3 y4 y5
  unfold r12_Channel.l1
  repeat' with_reducible first|apply ih0|apply ih1|apply r10_Width.mono|apply r12_May.mono|apply yLr|apply yLn|apply yLi|apply yLb|intro _
theorem r12_Channel.mono : ∀ a0 a1 k,LeO (r12_Channel.f k a0 a1) (r12_Channel.f (k+1) a0 a1):=by
 intro a0 a1 k
 obtain ⟨ih0,ih1⟩:=r12_Channel.mono_l k
 unfold r12_Channel.f
 repeat' with_reducible first|apply ih0|apply ih1|apply r10_Width.mono|apply r12_May.mono|apply yLr|apply yLn|apply yLi|apply yLb|intro _
set_option maxHeartbeats 8000000 in
set_option maxRecDepth 100000 in
theorem r12_Channel.calls (k : Nat) (A0 : Option Addr) (c0 : Nat) (l0 : List Int) (a1 : Int) (r : List Int) (w : World) (hr0 : Kd.C (Kd.int .i64) w A0 l0.length l0) (hc0 : l0.length≤c0) (h : r12_Channel.f k l0 a1=some r) :
  Calls Try.prog 83 #[.slice A0 l0.length c0, .int .i64 a1] w fun e w' => ∃ v0_ : Value,e=.returned (v0_)∧Kd.R (Kd.int .i64) 3 w' w.heap.size (fun _=>True) v0_ r∧Below w.heap.size w w' := by
 have HR0:=zm hr0;have HC0:=zm hc0;clear hr0 hc0;have HB:=zm (Below.refl w.heap.size w);have H:=h
 unfold r12_Channel.f at H
 clear h
 obtain ⟨aI,aA⟩ : ∃ y_ : List Int,y_=(([0,0,0,0,0] : List Int)):=⟨_,rfl⟩
 replace H : (r12_Channel.l0 k l0 a1 aI)=some r:=yrw aA H
 have aq:=zm aA;clear aA
 have H' := zm H
 clear H
 go_enter Try.func83,Try.ntmps83
 go_wp2_with (first|((with_reducible refine gate_dst (N:=10) rfl ?_);refine Kd.R_lit (Kd.int .i64) _ 3 ?hg (N:=10) ?hd (xs:=([0,0,0,0,0] : List Int)) (inner := [.int .i64 0, .int .i64 0, .int .i64 0, .int .i64 0, .int .i64 0]) (ok:=fun _=>True) (okp:=fun _=>True) ?hr ?hp (fun _ hk=>hk) trivial (Below.refl _ _) (Nat.le_refl _) (by simp) ?_;(case hd=>rfl);(case hg=>rfl);(case hr=>first|(go_simp;done)|(go_simp;rfl));(case hp=>exact (Reps.one (show Kd.M (Kd.int .i64) _ _ _ 0 [.int .i64 0] from rfl) (Reps.one (show Kd.M (Kd.int .i64) _ _ _ 0 [.int .i64 0] from rfl) (Reps.one (show Kd.M (Kd.int .i64) _ _ _ 0 [.int .i64 0] from rfl) (Reps.one (show Kd.M (Kd.int .i64) _ _ _ 0 [.int .i64 0] from rfl) (Reps.one (show Kd.M (Kd.int .i64) _ _ _ 0 [.int .i64 0] from rfl) (Reps.none _ _)))))));intro aJ w3 ho4 hb hg_ hnew_;clear hg_ hnew_;(first|rw [← aq.out] at ho4|(simp only [Int.reduceToNat] at ho4;rw [← aq.out] at ho4));have aC:=zm (Kd.R_lower ho4 (zE yhb));replace HB:=ybs hb;clear hb ho4))
 repeat (go_quiet (first|((with_reducible refine gate_dst (N:=10) rfl ?_);refine Kd.R_lit (Kd.int .i64) _ 3 ?hg (N:=10) ?hd (xs:=([0,0,0,0,0] : List Int)) (inner := [.int .i64 0, .int .i64 0, .int .i64 0, .int .i64 0, .int .i64 0]) (ok:=fun _=>True) (okp:=fun _=>True) ?hr ?hp (fun _ hk=>hk) trivial (Below.refl _ _) (Nat.le_refl _) (by simp) ?_;(case hd=>rfl);(case hg=>rfl);(case hr=>first|(go_simp;done)|(go_simp;rfl));(case hp=>exact (Reps.one (show Kd.M (Kd.int .i64) _ _ _ 0 [.int .i64 0] from rfl) (Reps.one (show Kd.M (Kd.int .i64) _ _ _ 0 [.int .i64 0] from rfl) (Reps.one (show Kd.M (Kd.int .i64) _ _ _ 0 [.int .i64 0] from rfl) (Reps.one (show Kd.M (Kd.int .i64) _ _ _ 0 [.int .i64 0] from rfl) (Reps.one (show Kd.M (Kd.int .i64) _ _ _ 0 [.int .i64 0] from rfl) (Reps.none _ _)))))));intro aJ w3 ho4 hb hg_ hnew_;clear hg_ hnew_;(first|rw [← aq.out] at ho4|(simp only [Int.reduceToNat] at ho4;rw [← aq.out] at ho4));have aC:=zm (Kd.R_lower ho4 (zE yhb));replace HB:=ybs hb;clear hb ho4));try go_wp2_with (first|((with_reducible refine gate_dst (N:=10) rfl ?_);refine Kd.R_lit (Kd.int .i64) _ 3 ?hg (N:=10) ?hd (xs:=([0,0,0,0,0] : List Int)) (inner := [.int .i64 0, .int .i64 0, .int .i64 0, .int .i64 0, .int .i64 0]) (ok:=fun _=>True) (okp:=fun _=>True) ?hr ?hp (fun _ hk=>hk) trivial (Below.refl _ _) (Nat.le_refl _) (by simp) ?_;(case hd=>rfl);(case hg=>rfl);(case hr=>first|(go_simp;done)|(go_simp;rfl));(case hp=>exact (Reps.one (show Kd.M (Kd.int .i64) _ _ _ 0 [.int .i64 0] from rfl) (Reps.one (show Kd.M (Kd.int .i64) _ _ _ 0 [.int .i64 0] from rfl) (Reps.one (show Kd.M (Kd.int .i64) _ _ _ 0 [.int .i64 0] from rfl) (Reps.one (show Kd.M (Kd.int .i64) _ _ _ 0 [.int .i64 0] from rfl) (Reps.one (show Kd.M (Kd.int .i64) _ _ _ 0 [.int .i64 0] from rfl) (Reps.none _ _)))))));intro aJ w3 ho4 hb hg_ hnew_;clear hg_ hnew_;(first|rw [← aq.out] at ho4|(simp only [Int.reduceToNat] at ho4;rw [← aq.out] at ho4));have aC:=zm (Kd.R_lower ho4 (zE yhb));replace HB:=ybs hb;clear hb ho4)))
 go_loopg [5] k (fun kq v5 w' => ∃ (ai : List Int),Aside0 (r12_Channel.l0 kq l0 a1 ai=some r)∧Aside0 (kq≤k)∧Aside0 (Kd.R (Kd.int .i64) 3 w' w.heap.size (fun _=>True) v5 ai)∧Aside0 (Below w.heap.size w w'))
 case atStart=>exact ⟨(aI),H',⟨Nat.le_refl _⟩,⟨yr aC⟩,⟨yhb⟩⟩
 case round =>
  clear H'
  obtain ⟨ai,HA,HK1,aa,HB⟩:=hrel
  obtain ⟨k1,rfl⟩:=ysu gk (fun h=>by subst h;exact absurd HA.out (by simp [r12_Channel.l0]))
  have H:=HA.out;clear HA
  simp only [r12_Channel.l0] at H
  have H' := zm H
  clear H
  go_wp2
  repeat (go_quiet (fail);try go_wp2)
  go_loopg [6,7,8] k1 (fun kq v6 v7 v8 w' => ∃ (ap : Int) (az : Int) (ac : Int),v6=.int .i64 ap∧v7=.int .i64 az∧v8=.int .i64 ac∧Aside0 (r12_Channel.l1 kq l0 a1 ai ap az ac=some r)∧Aside0 (kq≤k1)∧Aside0 (Kd.R (Kd.int .i64) 3 w' w.heap.size (fun _=>True) u5 ai)∧Aside0 (Below w.heap.size w w'))
  case atStart=>exact ⟨((-1)),(0),(0),yq,yq,yq,H',⟨Nat.le_refl _⟩,⟨yr aa⟩,⟨yhb⟩⟩
  case round =>
   clear H'
   obtain ⟨ap,az,ac,rfl,rfl,rfl,HA,HK2,aa,HB⟩:=hrel
   obtain ⟨k2,rfl⟩:=ysu gk (fun h=>by subst h;exact absurd HA.out (by simp [r12_Channel.l1]))
   have H:=HA.out;clear HA
   simp only [r12_Channel.l1] at H
   by_cases c5 : ac < 5
   ·
    rw [if_pos c5] at H
    have aT:=yD c5
    clear c5
    obtain ⟨c6,H⟩:=yif H
    have a8 : decide (0≤ac)=true:=decide_eq_true c6
    clear c6
    obtain ⟨c7,H⟩:=yif H
    have a9 : decide (ac < (l0.length : Int))=true:=decide_eq_true c7
    clear c7
    obtain ⟨c8,H⟩:=yif H
    have ba : decide (ac < (ai.length : Int))=true:=decide_eq_true c8
    clear c8
    obtain ⟨aj,A9,H⟩:=ybi H
    obtain ⟨c10,H⟩:=yie H
    obtain ⟨aZ,a7⟩:=yF c10
    obtain ⟨aH,A11,H⟩:=ybi H
    by_cases c12 : aH=true
    ·
     subst c12
     rw [if_pos rfl] at H
     by_cases c13 : ap < 0
     ·
      rw [if_pos c13] at H
      have aK:=yD c13
      clear c13
      have H' := zm H
      clear H
      have ak : 0≤(ac : Int):=yt
      have al : ac < (l0.length : Int):=yt
      obtain ⟨aD,aw,ah⟩:=Kd.at_int HR0.out ac ak al
      cases aw
      replace ah:=yhx HB ah
      replace ak:=eq_true ak
      replace al:=eq_true al
      obtain ⟨bb,bc,aU⟩:=Kd.R_slice aa.out
      subst aU
      have am : 0≤(ac : Int):=yt
      have ao : ac < (ai.length : Int):=yt
      obtain ⟨aE,ax,au⟩:=Kd.at_int (Kd.R_reads' aa.out).2.2 ac am ao
      cases ax
      replace am:=eq_true am
      replace ao:=eq_true ao
      go_wp2_with (first|(go_at_call 46;(with_reducible refine (r10_Width.calls k2 ac aj _ A9.out).mono ?_);rintro e w' ⟨rfl,⟨nd,rfl⟩⟩;(try exact yww))|(go_at_call 95;(with_reducible refine (r12_May.calls k2 _ _ l0 _ _ ai ac a1 true _ ?ae HC0.out ?af ?ag A11.out).mono ?_);(case ae=>exact ycb HR0);(case af=>exact yce (Kd.R_reads' aa.out).2.2);(case ag=>exact (Kd.R_reads' aa.out).2.1);rintro e w15 ⟨rfl,hb⟩;replace aa:=yRb aa hb;replace HB:=ybs hb;(try clear hb)))
      repeat (go_quiet (first|(go_at_call 46;(with_reducible refine (r10_Width.calls k2 ac aj _ A9.out).mono ?_);rintro e w' ⟨rfl,⟨nd,rfl⟩⟩;(try exact yww))|(go_at_call 95;(with_reducible refine (r12_May.calls k2 _ _ l0 _ _ ai ac a1 true _ ?ae HC0.out ?af ?ag A11.out).mono ?_);(case ae=>exact ycb HR0);(case af=>exact yce (Kd.R_reads' aa.out).2.2);(case ag=>exact (Kd.R_reads' aa.out).2.1);rintro e w15 ⟨rfl,hb⟩;replace aa:=yRb aa hb;replace HB:=ybs hb;(try clear hb)));try go_wp2_with (first|(go_at_call 46;(with_reducible refine (r10_Width.calls k2 ac aj _ A9.out).mono ?_);rintro e w' ⟨rfl,⟨nd,rfl⟩⟩;(try exact yww))|(go_at_call 95;(with_reducible refine (r12_May.calls k2 _ _ l0 _ _ ai ac a1 true _ ?ae HC0.out ?af ?ag A11.out).mono ?_);(case ae=>exact ycb HR0);(case af=>exact yce (Kd.R_reads' aa.out).2.2);(case ag=>exact (Kd.R_reads' aa.out).2.1);rintro e w15 ⟨rfl,hb⟩;replace aa:=yRb aa hb;replace HB:=ybs hb;(try clear hb))))
      go_roundg k2
      case measure=>exact yom2 HK1 HK2
      case rel=>exact ⟨(ac),(wrap64 ((wrap64 (8 * (rd l0 ac))) - (wrap64 (Int.tdiv (wrap64 (16 * (rd ai ac))) aj)))),(wrap64 (ac+1)),yq,yq,yq,H',⟨yom2 HK1 HK2⟩,⟨yr aa⟩,⟨yhb⟩⟩
     rw [if_neg c13] at H
     have aK:=yG c13
     clear c13
     by_cases c16 : (wrap64 ((wrap64 (8 * (rd l0 ac))) - (wrap64 (Int.tdiv (wrap64 (16 * (rd ai ac))) aj)))) > az
     ·
      rw [if_pos c16] at H
      have aM:=yDs c16
      clear c16
      have H' := zm H
      clear H
      have ak : 0≤(ac : Int):=yt
      have al : ac < (l0.length : Int):=yt
      obtain ⟨aD,aw,ah⟩:=Kd.at_int HR0.out ac ak al
      cases aw
      replace ah:=yhx HB ah
      replace ak:=eq_true ak
      replace al:=eq_true al
      obtain ⟨bd,bf,aV⟩:=Kd.R_slice aa.out
      subst aV
      have am : 0≤(ac : Int):=yt
      have ao : ac < (ai.length : Int):=yt
      obtain ⟨aE,ax,au⟩:=Kd.at_int (Kd.R_reads' aa.out).2.2 ac am ao
      cases ax
      replace am:=eq_true am
      replace ao:=eq_true ao
      go_wp2_with (first|(go_at_call 46;(with_reducible refine (r10_Width.calls k2 ac aj _ A9.out).mono ?_);rintro e w' ⟨rfl,⟨nd,rfl⟩⟩;(try exact yww))|(go_at_call 95;(with_reducible refine (r12_May.calls k2 _ _ l0 _ _ ai ac a1 true _ ?ae HC0.out ?af ?ag A11.out).mono ?_);(case ae=>exact ycb HR0);(case af=>exact yce (Kd.R_reads' aa.out).2.2);(case ag=>exact (Kd.R_reads' aa.out).2.1);rintro e w18 ⟨rfl,hb⟩;replace aa:=yRb aa hb;replace HB:=ybs hb;(try clear hb)))
      repeat (go_quiet (first|(go_at_call 46;(with_reducible refine (r10_Width.calls k2 ac aj _ A9.out).mono ?_);rintro e w' ⟨rfl,⟨nd,rfl⟩⟩;(try exact yww))|(go_at_call 95;(with_reducible refine (r12_May.calls k2 _ _ l0 _ _ ai ac a1 true _ ?ae HC0.out ?af ?ag A11.out).mono ?_);(case ae=>exact ycb HR0);(case af=>exact yce (Kd.R_reads' aa.out).2.2);(case ag=>exact (Kd.R_reads' aa.out).2.1);rintro e w18 ⟨rfl,hb⟩;replace aa:=yRb aa hb;replace HB:=ybs hb;(try clear hb)));try go_wp2_with (first|(go_at_call 46;(with_reducible refine (r10_Width.calls k2 ac aj _ A9.out).mono ?_);rintro e w' ⟨rfl,⟨nd,rfl⟩⟩;(try exact yww))|(go_at_call 95;(with_reducible refine (r12_May.calls k2 _ _ l0 _ _ ai ac a1 true _ ?ae HC0.out ?af ?ag A11.out).mono ?_);(case ae=>exact ycb HR0);(case af=>exact yce (Kd.R_reads' aa.out).2.2);(case ag=>exact (Kd.R_reads' aa.out).2.1);rintro e w18 ⟨rfl,hb⟩;replace aa:=yRb aa hb;replace HB:=ybs hb;(try clear hb))))
      go_roundg k2
      case measure=>exact yom2 HK1 HK2
      case rel=>exact ⟨(ac),(wrap64 ((wrap64 (8 * (rd l0 ac))) - (wrap64 (Int.tdiv (wrap64 (16 * (rd ai ac))) aj)))),(wrap64 (ac+1)),yq,yq,yq,H',⟨yom2 HK1 HK2⟩,⟨yr aa⟩,⟨yhb⟩⟩
     rw [if_neg c16] at H
     have aM:=yGs c16
     clear c16
     have H' := zm H
     clear H
     have ak : 0≤(ac : Int):=yt
     have al : ac < (l0.length : Int):=yt
     obtain ⟨aD,aw,ah⟩:=Kd.at_int HR0.out ac ak al
     cases aw
     replace ah:=yhx HB ah
     replace ak:=eq_true ak
     replace al:=eq_true al
     obtain ⟨bg,bh,aW⟩:=Kd.R_slice aa.out
     subst aW
     have am : 0≤(ac : Int):=yt
     have ao : ac < (ai.length : Int):=yt
     obtain ⟨aE,ax,au⟩:=Kd.at_int (Kd.R_reads' aa.out).2.2 ac am ao
     cases ax
     replace am:=eq_true am
     replace ao:=eq_true ao
     go_wp2_with (first|(go_at_call 46;(with_reducible refine (r10_Width.calls k2 ac aj _ A9.out).mono ?_);rintro e w' ⟨rfl,⟨nd,rfl⟩⟩;(try exact yww))|(go_at_call 95;(with_reducible refine (r12_May.calls k2 _ _ l0 _ _ ai ac a1 true _ ?ae HC0.out ?af ?ag A11.out).mono ?_);(case ae=>exact ycb HR0);(case af=>exact yce (Kd.R_reads' aa.out).2.2);(case ag=>exact (Kd.R_reads' aa.out).2.1);rintro e w20 ⟨rfl,hb⟩;replace aa:=yRb aa hb;replace HB:=ybs hb;(try clear hb)))
     repeat (go_quiet (first|(go_at_call 46;(with_reducible refine (r10_Width.calls k2 ac aj _ A9.out).mono ?_);rintro e w' ⟨rfl,⟨nd,rfl⟩⟩;(try exact yww))|(go_at_call 95;(with_reducible refine (r12_May.calls k2 _ _ l0 _ _ ai ac a1 true _ ?ae HC0.out ?af ?ag A11.out).mono ?_);(case ae=>exact ycb HR0);(case af=>exact yce (Kd.R_reads' aa.out).2.2);(case ag=>exact (Kd.R_reads' aa.out).2.1);rintro e w20 ⟨rfl,hb⟩;replace aa:=yRb aa hb;replace HB:=ybs hb;(try clear hb)));try go_wp2_with (first|(go_at_call 46;(with_reducible refine (r10_Width.calls k2 ac aj _ A9.out).mono ?_);rintro e w' ⟨rfl,⟨nd,rfl⟩⟩;(try exact yww))|(go_at_call 95;(with_reducible refine (r12_May.calls k2 _ _ l0 _ _ ai ac a1 true _ ?ae HC0.out ?af ?ag A11.out).mono ?_);(case ae=>exact ycb HR0);(case af=>exact yce (Kd.R_reads' aa.out).2.2);(case ag=>exact (Kd.R_reads' aa.out).2.1);rintro e w20 ⟨rfl,hb⟩;replace aa:=yRb aa hb;replace HB:=ybs hb;(try clear hb))))
     go_roundg k2
     case measure=>exact yom2 HK1 HK2
     case rel=>exact ⟨(ap),(az),(wrap64 (ac+1)),yq,yq,yq,H',⟨yom2 HK1 HK2⟩,⟨yr aa⟩,⟨yhb⟩⟩
    replace c12:=Bool.eq_false_iff.mpr c12
    subst c12
    rw [ynf] at H
    have H' := zm H
    clear H
    have ak : 0≤(ac : Int):=yt
    have al : ac < (l0.length : Int):=yt
    obtain ⟨aD,aw,ah⟩:=Kd.at_int HR0.out ac ak al
    cases aw
    replace ah:=yhx HB ah
    replace ak:=eq_true ak
    replace al:=eq_true al
    obtain ⟨bi,bj,aX⟩:=Kd.R_slice aa.out
    subst aX
    have am : 0≤(ac : Int):=yt
    have ao : ac < (ai.length : Int):=yt
    obtain ⟨aE,ax,au⟩:=Kd.at_int (Kd.R_reads' aa.out).2.2 ac am ao
    cases ax
    replace am:=eq_true am
    replace ao:=eq_true ao
    go_wp2_with (first|(go_at_call 46;(with_reducible refine (r10_Width.calls k2 ac aj _ A9.out).mono ?_);rintro e w' ⟨rfl,⟨nd,rfl⟩⟩;(try exact yww))|(go_at_call 95;(with_reducible refine (r12_May.calls k2 _ _ l0 _ _ ai ac a1 false _ ?ae HC0.out ?af ?ag A11.out).mono ?_);(case ae=>exact ycb HR0);(case af=>exact yce (Kd.R_reads' aa.out).2.2);(case ag=>exact (Kd.R_reads' aa.out).2.1);rintro e w22 ⟨rfl,hb⟩;replace aa:=yRb aa hb;replace HB:=ybs hb;(try clear hb)))
    repeat (go_quiet (first|(go_at_call 46;(with_reducible refine (r10_Width.calls k2 ac aj _ A9.out).mono ?_);rintro e w' ⟨rfl,⟨nd,rfl⟩⟩;(try exact yww))|(go_at_call 95;(with_reducible refine (r12_May.calls k2 _ _ l0 _ _ ai ac a1 false _ ?ae HC0.out ?af ?ag A11.out).mono ?_);(case ae=>exact ycb HR0);(case af=>exact yce (Kd.R_reads' aa.out).2.2);(case ag=>exact (Kd.R_reads' aa.out).2.1);rintro e w22 ⟨rfl,hb⟩;replace aa:=yRb aa hb;replace HB:=ybs hb;(try clear hb)));try go_wp2_with (first|(go_at_call 46;(with_reducible refine (r10_Width.calls k2 ac aj _ A9.out).mono ?_);rintro e w' ⟨rfl,⟨nd,rfl⟩⟩;(try exact yww))|(go_at_call 95;(with_reducible refine (r12_May.calls k2 _ _ l0 _ _ ai ac a1 false _ ?ae HC0.out ?af ?ag A11.out).mono ?_);(case ae=>exact ycb HR0);(case af=>exact yce (Kd.R_reads' aa.out).2.2);(case ag=>exact (Kd.R_reads' aa.out).2.1);rintro e w22 ⟨rfl,hb⟩;replace aa:=yRb aa hb;replace HB:=ybs hb;(try clear hb))))
    go_roundg k2
    case measure=>exact yom2 HK1 HK2
    case rel=>exact ⟨(ap),(az),(wrap64 (ac+1)),yq,yq,yq,H',⟨yom2 HK1 HK2⟩,⟨yr aa⟩,⟨yhb⟩⟩
   rw [if_neg c5] at H
   have aT:=yG c5
   clear c5
   by_cases c23 : ap < 0
   ·
    rw [if_pos c23] at H
    have aN:=yD c23
    clear c23
    obtain rfl:=Option.some.inj H
    go_wp2
    repeat (go_quiet (fail);try go_wp2)
    go_ret
    exact ⟨_,ye,yr aa,yhb⟩
   rw [if_neg c23] at H
   have aN:=yG c23
   clear c23
   obtain ⟨ay,A24,H⟩:=ybi H
   have H' := zm H
   clear H
   obtain ⟨bk,bl,aY⟩:=Kd.R_slice aa.out
   subst aY
   go_wp2_with (first|(go_at_call 96;(with_reducible refine (r12_More.calls _ _ ai ap ay _ ?ae ?av A24.out).mono ?_);(case ae=>exact yce (Kd.R_reads' aa.out).2.2);(case av=>exact (Kd.R_reads' aa.out).2.1);rintro e w26 ⟨aQ,rfl,ho0,hb⟩;have aG:=zm (Kd.R_lower (Kd.R_new' ho0 (Kd.R_lt (yr aa))) (zE yhb));replace aa:=zm (Kd.R_elder' (yr aa) (Kd.R_base ho0) hb);replace HB:=ybs hb;(try clear hb);(try clear ho0)))
   repeat (go_quiet (first|(go_at_call 96;(with_reducible refine (r12_More.calls _ _ ai ap ay _ ?ae ?av A24.out).mono ?_);(case ae=>exact yce (Kd.R_reads' aa.out).2.2);(case av=>exact (Kd.R_reads' aa.out).2.1);rintro e w26 ⟨aQ,rfl,ho0,hb⟩;have aG:=zm (Kd.R_lower (Kd.R_new' ho0 (Kd.R_lt (yr aa))) (zE yhb));replace aa:=zm (Kd.R_elder' (yr aa) (Kd.R_base ho0) hb);replace HB:=ybs hb;(try clear hb);(try clear ho0)));try go_wp2_with (first|(go_at_call 96;(with_reducible refine (r12_More.calls _ _ ai ap ay _ ?ae ?av A24.out).mono ?_);(case ae=>exact yce (Kd.R_reads' aa.out).2.2);(case av=>exact (Kd.R_reads' aa.out).2.1);rintro e w26 ⟨aQ,rfl,ho0,hb⟩;have aG:=zm (Kd.R_lower (Kd.R_new' ho0 (Kd.R_lt (yr aa))) (zE yhb));replace aa:=zm (Kd.R_elder' (yr aa) (Kd.R_base ho0) hb);replace HB:=ybs hb;(try clear hb);(try clear ho0))))
   go_roundg k2
   case measure=>exact yom2 HK1 HK2
   case rel=>exact ⟨(ay),H',⟨yom2 HK1 HK2⟩,⟨yR0 aG⟩,⟨yhb⟩⟩
def r12_Fair.l0 : Nat→List (List Int)→Int→Option (Bool)
 | 0,_,_=>none
 | k+1,x1,x5=>if x5 < (x1.length : Int) then (if 0≤x5 then ((r11_Right.f k (rd_L1 x1 x5)).bind fun ao=>(if ao=true then (r12_Fair.l0 k x1 (wrap64 (x5+1))) else (some false))) else (none)) else (some true)
def r12_Fair.f (k : Nat) (a0 : Int) (l1 : List (List Int)) : Option (Bool):=if (l1.length : Int)=a0 then (r12_Fair.l0 k l1 0) else (some false)
theorem r12_Fair.mono_l : ∀ k,(∀ y0 y1,LeO (r12_Fair.l0 k y0 y1) (r12_Fair.l0 (k+1) y0 y1))
 | 0=>fun _ _ r h=>by simp [r12_Fair.l0] at h
 | k+1=>by
  have ih0:=r12_Fair.mono_l k
  ·
   intro y0 y1
   unfold r12_Fair.l0
   repeat' with_reducible first|apply ih0|apply r11_Right.mono|apply yLr|apply yLn|apply yLi|apply yLb|intro _
theorem r12_Fair.mono : ∀ a0 a1 k,LeO (r12_Fair.f k a0 a1) (r12_Fair.f (k+1) a0 a1):=by
 intro a0 a1 k
 have ih0:=r12_Fair.mono_l k
 unfold r12_Fair.f
 repeat' with_reducible first|apply ih0|apply r11_Right.mono|apply yLr|apply yLn|apply yLi|apply yLb|intro _
set_option maxHeartbeats 8000000 in
set_option maxRecDepth 100000 in
theorem r12_Fair.calls (k : Nat) (a0 : Int) (A1 : Option Addr) (c1 : Nat) (l1 : List (List Int)) (r : Bool) (w : World) (hr1 : Kd.C (Kd.slice 3 (Kd.int .i64)) w A1 l1.length l1) (hc1 : l1.length≤c1) (h : r12_Fair.f k a0 l1=some r) :
  Calls Try.prog 17 #[.int .i64 a0, .slice A1 l1.length c1] w fun e w' => e=.returned (.bool r)∧Drawn0 w w' := by
 have HR1:=zm hr1;have HC1:=zm hc1;clear hr1 hc1;have H:=h
 unfold r12_Fair.f at H
 clear h
 by_cases c3 : (l1.length : Int)=a0
 ·
  rw [if_pos c3] at H
  obtain ⟨aq,au⟩:=yE c3
  clear c3
  have H' := zm H
  clear H
  go_enter Try.func17,Try.ntmps17
  go_wp2
  go_loopg [5] k (fun kq v5 w' => ∃ (aa : Int),v5=.int .i64 aa∧Aside0 (r12_Fair.l0 kq l1 aa=some r)∧Aside0 (kq≤k)∧Drawn0 w w')
  case atStart=>exact ⟨(0),yq,H',⟨Nat.le_refl _⟩,yd⟩
  case round =>
   clear H'
   try clear c1
   try clear aq
   try clear au
   obtain ⟨aa,rfl,HA,HK1,⟨m1,rfl⟩⟩:=hrel
   obtain ⟨k1,rfl⟩:=ysu gk (fun h=>by subst h;exact absurd HA.out (by simp [r12_Fair.l0]))
   have H:=HA.out;clear HA
   simp only [r12_Fair.l0] at H
   by_cases c4 : aa < (l1.length : Int)
   ·
    rw [if_pos c4] at H
    have aw:=yD c4
    clear c4
    obtain ⟨c5,H⟩:=yif H
    have ax : decide (0≤aa)=true:=decide_eq_true c5
    clear c5
    obtain ⟨ao,A6,H⟩:=ybi H
    by_cases c7 : ao=true
    ·
     subst c7
     rw [if_pos rfl] at H
     have H' := zm H
     clear H
     have ah : 0≤(aa : Int):=yt
     have ai : aa < (l1.length : Int):=yt
     obtain ⟨av,aj,ak,ap,am,ac,ae⟩:=at_L1 HR1.out aa ah ai
     cases ap
     have af:=zm ae;have ag:=zm ac;clear ae ac
     replace ah:=eq_true ah
     replace ai:=eq_true ai
     go_wp2_with (first|((with_reducible refine gate_callee (f:=47) rfl ?_);refine ygl 20 Try.func47 #[.slice aj (rd_L1 l1 aa).length ak] ?_;(with_reducible refine (r11_Right.calls k1 _ _ (rd_L1 l1 aa) true _ ?al ag.out A6.out).mono ?_);(case al=>exact yce af.out);rintro e w' ⟨rfl,⟨nd,rfl⟩⟩;refine ⟨_,rfl, ?_⟩))
     go_roundg k1
     case measure=>exact yom1 HK1
     case rel=>exact ⟨(wrap64 (aa+1)),yq,H',⟨yom1 HK1⟩,yd⟩
    replace c7:=Bool.eq_false_iff.mpr c7
    subst c7
    rw [ynf] at H
    obtain rfl:=Option.some.inj H
    have ah : 0≤(aa : Int):=yt
    have ai : aa < (l1.length : Int):=yt
    obtain ⟨av,aj,ak,ap,am,ac,ae⟩:=at_L1 HR1.out aa ah ai
    cases ap
    have af:=zm ae;have ag:=zm ac;clear ae ac
    replace ah:=eq_true ah
    replace ai:=eq_true ai
    go_wp2_with (first|((with_reducible refine gate_callee (f:=47) rfl ?_);refine ygl 20 Try.func47 #[.slice aj (rd_L1 l1 aa).length ak] ?_;(with_reducible refine (r11_Right.calls k1 _ _ (rd_L1 l1 aa) false _ ?al ag.out A6.out).mono ?_);(case al=>exact yce af.out);rintro e w' ⟨rfl,⟨nd,rfl⟩⟩;refine ⟨_,rfl, ?_⟩))
    go_ret
    exact ⟨yq,yd⟩
   rw [if_neg c4] at H
   have aw:=yG c4
   clear c4
   obtain rfl:=Option.some.inj H
   go_wp2
   go_ret
   exact ⟨yq,yd⟩
 rw [if_neg c3] at H
 obtain ⟨aq,au⟩:=yF c3
 obtain rfl:=Option.some.inj H
 go_enter Try.func17,Try.ntmps17
 go_wp2
 go_ret
 exact ⟨yq,yd⟩
def r12_Pulses.l0 : Nat→Int→Int→List (List Int)→List (List Int)→Int→Option ((List (List Int)))
 | 0,_,_,_,_,_=>none
 | k+1,x0,x1,x2,x7,x8=>if x8 < (x2.length : Int) then (if 0≤x8 then ((r12_Room.f x0 x1).bind fun ak=>((r12_Channel.f k (rd_L1 x2 x8) ak).bind fun af=>(if x7.length < 5864062014805 then (r12_Pulses.l0 k x0 x1 x2 (x7 ++ [af]) (wrap64 (x8+1))) else (none)))) else (none)) else (some x7)
def r12_Pulses.f (k : Nat) (a0 : Int) (a1 : Int) (l2 : List (List Int)) : Option ((List (List Int))):=r12_Pulses.l0 k a0 a1 l2 ([] : List (List Int)) 0
theorem r12_Pulses.mono_l : ∀ k,(∀ y0 y1 y2 y3 y4,LeO (r12_Pulses.l0 k y0 y1 y2 y3 y4) (r12_Pulses.l0 (k+1) y0 y1 y2 y3 y4))
 | 0=>fun _ _ _ _ _ r h=>by simp [r12_Pulses.l0] at h
 | k+1=>by
  have ih0:=r12_Pulses.mono_l k
  ·
   intro y0 y1 y2 y3 y4
   unfold r12_Pulses.l0
   repeat' with_reducible first|apply ih0|apply r12_Channel.mono|apply yLr|apply yLn|apply yLi|apply yLb|intro _
theorem r12_Pulses.mono : ∀ a0 a1 a2 k,LeO (r12_Pulses.f k a0 a1 a2) (r12_Pulses.f (k+1) a0 a1 a2):=by
 intro a0 a1 a2 k
 have ih0:=r12_Pulses.mono_l k
 unfold r12_Pulses.f
 repeat' with_reducible first|apply ih0|apply r12_Channel.mono|apply yLr|apply yLn|apply yLi|apply yLb|intro _
def r12_Pulses.T5 : Bool × List (List Nat × List Nat):=(true, [([], []),([], []),([], []),([1,2], [1,2]),([3], [3]),([], []),([], []),([5,6], [5,6]),([4,7,7], [4,7]),([8], [8]),([0,9,8], [0,9]),([10,10,0,1,2,3,4,5,6,7,8,9,10], [0,10])])
def r12_Pulses.B5 : List Nat := [0,0,0,6,14,0,0,96,254,510,1023,2047]
theorem r12_Pulses.tab5 : rtab .any (opsOf Try.f45 5)=r12_Pulses.T5:=by kernel_rfl
theorem r12_Pulses.bits5 : waitsOk r12_Pulses.T5.2 r12_Pulses.B5=true:=by kernel_rfl
set_option maxHeartbeats 8000000 in
set_option maxRecDepth 100000 in
theorem r12_Pulses.calls (k : Nat) (a0 : Int) (a1 : Int) (A2 : Option Addr) (c2 : Nat) (l2 : List (List Int)) (r : List (List Int)) (w : World) (hr2 : Kd.C (Kd.slice 3 (Kd.int .i64)) w A2 l2.length l2) (hc2 : l2.length≤c2) (h : r12_Pulses.f k a0 a1 l2=some r) :
  Calls Try.prog 45 #[.int .i64 a0, .int .i64 a1, .slice A2 l2.length c2] w fun e w' => ∃ v0_ : Value,e=.returned (v0_)∧Kd.S (Kd.slice 3 (Kd.int .i64)) 49 w' w.heap.size (fun _=>True) v0_ r∧Below w.heap.size w w' := by
 have HR2:=zm hr2;have HC2:=zm hc2;clear hr2 hc2;have HB:=zm (Below.refl w.heap.size w);have H:=h
 unfold r12_Pulses.f at H
 clear h
 have H' := zm H
 clear H
 go_enter Try.func45,Try.ntmps45
 go_wp2
 go_loopg [7,8] k (fun kq v7 v8 w' => ∃ (al : List (List Int)) (aa : Int),v8=.int .i64 aa∧Aside0 (r12_Pulses.l0 kq a0 a1 l2 al aa=some r)∧Aside0 (kq≤k)∧Aside0 (Kd.S (Kd.slice 3 (Kd.int .i64)) 49 w' w.heap.size (fun _=>True) v7 al)∧Aside0 (Below w.heap.size w w'))
 case atStart=>exact ⟨(([] : List (List Int))),(0),yq,H',⟨Nat.le_refl _⟩,⟨yn⟩,⟨yhb⟩⟩
 case round =>
  clear H'
  try clear c2
  obtain ⟨al,aa,rfl,HA,HK1,ae,HB⟩:=hrel
  obtain ⟨k1,rfl⟩:=ysu gk (fun h=>by subst h;exact absurd HA.out (by simp [r12_Pulses.l0]))
  have H:=HA.out;clear HA
  simp only [r12_Pulses.l0] at H
  by_cases c4 : aa < (l2.length : Int)
  ·
   rw [if_pos c4] at H
   have aH:=yD c4
   clear c4
   obtain ⟨c5,H⟩:=yif H
   have aJ : decide (0≤aa)=true:=decide_eq_true c5
   clear c5
   obtain ⟨ak,A6,H⟩:=ybi H
   obtain ⟨af,A7,H⟩:=ybi H
   obtain ⟨c8,H⟩:=yif H
   have LMc8:=zm c8;clear c8
   obtain ⟨aw,am⟩ : ∃ y_ : List (List Int),y_=(al ++ [af]):=⟨_,rfl⟩
   replace H : (r12_Pulses.l0 k1 a0 a1 l2 aw (wrap64 (aa+1)))=some r:=yrw am H
   have ax:=zm am;clear am
   have H' := zm H
   clear H
   try go_wp2
   replace ae:=zm (Kd.S_drew ae.out)
   replace HB:=zm (zf HB.out)
   have au : 0≤(aa : Int):=yt
   have av : aa < (l2.length : Int):=yt
   obtain ⟨ay,ao,ap,aI,ac,ag,ah⟩:=at_L1 HR2.out aa au av
   have hw726_0:=ac
   cases aI
   replace ac:=yhx HB ac
   have ai:=zm ah;have aq:=zm ag;clear ah ag
   replace au:=eq_true au
   replace av:=eq_true av
   refine start_ (n:=12) (S:=fun w' => w'.cell? (ay.add (aa).toNat)=some (.slice ao (rd_L1 l2 aa).length ap)) (ds := []) #[false,false,false,false,false,false,false,false,false,false,false,false] (by kernel_rfl) rfl rfl ((yhx HB hw726_0 :)) (fun hHeld => ?_);refine with_tabW r12_Pulses.tab5 r12_Pulses.bits5 (fun HT_ HW_ => ?_)
   generalize wr.drew=w9 at ae HB ai ac hHeld ⊢
   refine yp 0 15 HT_ ?_
   refine yp 1 16 HT_ ?_
   refine yp 2 17 HT_ ?_
   refine yp 3 18 HT_ ?_
   refine yp 5 20 HT_ ?_
   refine yp 6 21 HT_ ?_
   refine yl 4 19 HT_ HW_ hHeld ?_
   refine yw 7 22 HT_ (fun K hK => ?_)
   refine ygs Try.func84 #[.int .i64 a0, .int .i64 a1] ?_
   with_reducible refine (r12_Room.calls a0 a1 ak _ A6.out).mono ?_
   rintro e w' ⟨rfl,⟨nd,rfl⟩⟩
   refine ⟨_,rfl, ?_⟩
   refine hK.out _ _ ((yhx HB hw726_0 :)) (fun hHeld => ?_)
   clear hK K
   refine ym (some 22) ?_
   refine yw 8 23 HT_ (fun K hK => ?_)
   refine ygs Try.func83 #[.slice ao (rd_L1 l2 aa).length ap, .int .i64 ak] ?_
   with_reducible refine (r12_Channel.calls k1 _ _ (rd_L1 l2 aa) ak af _ ?az ?aA A7.out).mono ?_
   (case az=>exact ycb ai)
   (case aA=>exact aq.out)
   rintro e w10 ⟨aK,rfl,ho0,hb⟩
   refine ⟨_,rfl, ?_⟩
   replace ae:=zm (Kd.S_elder' (yr ae) (Kd.R_base ho0) hb)
   have aj:=zm (Kd.R_lower ho0 (zE yhb))
   replace HB:=ybs hb
   (try clear hb)
   (try clear ho0)
   obtain ⟨aC,aD,aE⟩:=Kd.R_slice aj.out
   (first|subst aE|(injection aE with f1_ f2_ f3_;have f4_:=f1_.symm;have f5_:=f3_.symm;clear f1_ f2_ f3_;subst f4_;subst f5_))
   refine hK.out _ _ ((yhx HB hw726_0 :)) (fun hHeld => ?_)
   clear hK K
   refine ym (some 23) ?_
   refine yw 9 24 HT_ (fun K hK => ?_)
   refine value_ (w1 := ?_) (v := ?_) (by rfl) rfl ?_ ?_
   rotate_left 2
   ·
    go_simp
    constructor
    ·
     rfl
    rfl
   refine hK.out _ _ ((World.cell?_alloc_lt _ _ _ (zb _ _ ((yhx HB hw726_0 :)))).trans ((yhx HB hw726_0 :))) (fun hHeld => ?_)
   clear hK K
   refine ym (some 24) ?_
   refine yw 10 25 HT_ (fun K hK => ?_)
   refine Kd.S_append_step (Kd.slice 3 (Kd.int .i64)) (w0:=w) w.heap.size (by rfl) (.tmp 15) (.tmp 24) 22 49 (.slice none 0 0) 24 rfl Try.underlying22 info49 rfl (by decide) (by omega) u7 al af [.slice aC af.length aD] (fun _=>True) (fun k_=>some k_=(.slice aC af.length aD : Value).ownBlock) rfl rfl ?aP (fun k_ hk_=>((zG (ok' := fun k_=>((fun _=>True)) k_∧some k_≠(u7 : Value).ownBlock) (Kd.R_apart' (aj.out) (Kd.S_typed ae.out) (by decide)) (fun k_ hk=>⟨trivial,hk.2⟩))).1 k_ hk_.symm) ?aF ?aO ?aB ?aS ?aL ?_
   (case aP=>exact Kd.M_row (zG (Kd.R_tight rfl (zG (ok' := fun k_=>((fun _=>True)) k_∧some k_≠(u7 : Value).ownBlock) (Kd.R_apart' (aj.out) (Kd.S_typed ae.out) (by decide)) (fun k_ hk=>⟨trivial,hk.2⟩))) (fun _ h_=>h_)))
   (case aB=>exact yhb)
   (case aF=>exact (fun _ _=>trivial))
   (case aO=>exact (yS0 ae))
   (case aS=>exact (zE yhb))
   (case aL=>have:=LMc8.out;omega)
   intro aM w11 ho hb hg hat
   rw [← ax.out] at ho
   replace HB:=zm (hb)
   have aG:=zm (ho);clear ae aj ho hb hg hat
   refine hK.out _ _ ((yhx HB hw726_0 :)) (fun hHeld => ?_)
   clear hK K
   refine ym (some 25) ?_
   refine yp 11 7 HT_ ?_
   refine done_ (done_of HT_.out (by kernel_rfl)) ?_
   try go_wp2
   go_roundg k1
   case measure=>exact yom1 HK1
   case rel=>exact ⟨(aw),(wrap64 (aa+1)),yq,H',⟨yom1 HK1⟩,⟨yr aG⟩,⟨yhb⟩⟩
  rw [if_neg c4] at H
  have aH:=yG c4
  clear c4
  obtain rfl:=Option.some.inj H
  go_wp2
  go_ret
  exact ⟨_,ye,yr ae,yhb⟩
mutual
def r13_Right.j0 : Nat→Int→Int→Bool→Bool→List (List Int)→List (List (List Int))→Option (Bool)
 | 0,_,_,_,_,_,_=>none
 | k+1,x0,x1,x27,aG,ax,ai=>if x27=true then (some false) else ((r12_Pulses.f k x0 x1 ax).bind fun aE=>(r13_Right.l0 k x1 aE 0 aG ax ai))
def r13_Right.l0 : Nat→Int→List (List Int)→Int→Bool→List (List Int)→List (List (List Int))→Option (Bool)
 | 0,_,_,_,_,_,_=>none
 | k+1,x1,x7,x8,aG,ax,ai=>if x8 < x1 then (if 0≤x8 then (if x8 < (ai.length : Int) then (if ((rd_L2 ai x8).length : Int)=5 then (r13_Right.l1 k x1 x7 x8 0 aG ax ai) else (some false)) else (none)) else (none)) else (some true)
def r13_Right.l1 : Nat→Int→List (List Int)→Int→Int→Bool→List (List Int)→List (List (List Int))→Option (Bool)
 | 0,_,_,_,_,_,_,_=>none
 | k+1,x1,x7,x8,x9,aG,ax,ai=>if x9 < 5 then (if 0≤x8 then (if x8 < (ai.length : Int) then (if 0≤x9 then (if x9 < ((rd_L2 ai x8).length : Int) then ((r10_Width.f k x9).bind fun bA=>(if ((rd_L1 (rd_L2 ai x8) x9).length : Int)=bA then ((r06_Pulses.f k (rd_L1 (rd_L2 ai x8) x9)).bind fun bB=>(if x8 < (x7.length : Int) then (if x9 < ((rd_L1 x7 x8).length : Int) then (if bB=(rd (rd_L1 x7 x8) x9) then (r13_Right.l1 k x1 x7 x8 (wrap64 (x9+1)) aG ax ai) else (some false)) else (none)) else (none))) else (some false))) else (none)) else (none)) else (none)) else (none)) else (r13_Right.l0 k x1 x7 (wrap64 (x8+1)) aG ax ai)
end
def r13_Right.f (k : Nat) (a0 : Int) (a1 : Int) (aI : Bool) (ak : List (List Int)) (ac : List (List (List Int))) : Option (Bool):=(r12_Right.f a0 a1).bind fun b9=>(if b9=true then ((r12_Fair.f k a1 ak).bind fun ca=>(if ca=true then (r13_Right.j0 k a0 a1 ((ac.length : Int) != a1) aI ak ac) else (r13_Right.j0 k a0 a1 true aI ak ac))) else (r13_Right.j0 k a0 a1 true aI ak ac))
theorem r13_Right.mono_l : ∀ k,(∀ y0 y1 y2 y3 y4 y5,LeO (r13_Right.j0 k y0 y1 y2 y3 y4 y5) (r13_Right.j0 (k+1) y0 y1 y2 y3 y4 y5))∧(∀ y0 y1 y2 y3 y4 y5,LeO (r13_Right.l0 k y0 y1 y2 y3 y4 y5) (r13_Right.l0 (k+1) y0 y1 y2 y3 y4 y5))∧(∀ y0 y1 y2 y3 y4 y5 y6,LeO (r13_Right.l1 k y0 y1 y2 y3 y4 y5 y6) (r13_Right.l1 (k+1) y0 y1 y2 y3 y4 y5 y6))
 | 0=>⟨fun _ _ _ _ _ _ r h=>by simp [r13_Right.j0] at h,fun _ _ _ _ _ _ r h=>by simp [r13_Right.l0] at h,fun _ _ _ _ _ _ _ r h=>by simp [r13_Right.l1] at h⟩
 | k+1=>by
  obtain ⟨ih0,ih1,ih2⟩:=r13_Right.mono_l k
  refine ⟨?_, ?_, ?_⟩
  ·
   intro y0 y1 y2 y3 y4 y5
   unfold r13_Right.j0
   repeat' with_reducible first|apply ih0|apply ih1|apply ih2|apply r06_Pulses.mono|apply r10_Width.mono|apply r12_Fair.mono|apply r12_Pulses.mono|apply yLr|apply yLn|apply yLi|apply yLb|intro _
  ·
   intro y0 y1 y2 y3 y4 y5
   unfold r13_Right.l0
   repeat' with_reducible first|apply ih0|apply ih1|apply ih2|apply r06_Pulses.mono|apply r10_Width.mono|apply r12_Fair.mono|apply r12_Pulses.mono|apply yLr|apply yLn|apply yLi|apply yLb|intro _
  intro y0 y1 y2 y3 y4 y5 y6
  unfold r13_Right.l1
  repeat' with_reducible first|apply ih0|apply ih1|apply ih2|apply r06_Pulses.mono|apply r10_Width.mono|apply r12_Fair.mono|apply r12_Pulses.mono|apply yLr|apply yLn|apply yLi|apply yLb|intro _
theorem r13_Right.mono : ∀ a0 a1 a2 a3 a4 k,LeO (r13_Right.f k a0 a1 a2 a3 a4) (r13_Right.f (k+1) a0 a1 a2 a3 a4):=by
 intro a0 a1 a2 a3 a4 k
 obtain ⟨ih0,ih1,ih2⟩:=r13_Right.mono_l k
 unfold r13_Right.f
 repeat' with_reducible first|apply ih0|apply ih1|apply ih2|apply r06_Pulses.mono|apply r10_Width.mono|apply r12_Fair.mono|apply r12_Pulses.mono|apply yLr|apply yLn|apply yLi|apply yLb|intro _
def r13_Right.T12 : Bool × List (List Nat × List Nat):=(true, [([], []),([0], [0]),([], []),([1,2], [1,2]),([3], [3]),([], []),([4,5], [4,5]),([6], [6]),([7], [7]),([], []),([9], [9]),([8,10], [8,10]),([11,10], [11]),([12], [12]),([13,12], [12,13]),([12], [12]),([14,15,12], [12,14,15]),([16,12], [12,16]),([12], [12]),([17,18,12], [12,17,18]),([19,12], [12,19]),([20,12,12], [12,20]),([12], [12]),([12], [12]),([22,23,12], [12,22,23]),([24,12], [12,24]),([12], [12]),([25,26,12], [12,25,26]),([27,12], [12,27]),([21,28,12], [12,21,28]),([12,29], [12,29])])
def r13_Right.B12 : List Nat := [0,1,0,7,15,0,63,127,255,0,512,2047,4095,8191,16383,8191,65535,131071,8191,524287,1048575,2097151,8191,8191,12591103,29368319,8191,130031615,264249343,536870911,1073741823]
theorem r13_Right.tab12 : rtab .any (opsOf Try.f16 12)=r13_Right.T12:=by kernel_rfl
theorem r13_Right.bits12 : waitsOk r13_Right.T12.2 r13_Right.B12=true:=by kernel_rfl
set_option maxHeartbeats 8000000 in
set_option maxRecDepth 100000 in
theorem r13_Right.calls (k : Nat) (a0 : Int) (a1 : Int) (aI : Bool) (bf : Option Addr) (bg : Nat) (ak : List (List Int)) (bC : Option Addr) (bh : Nat) (ac : List (List (List Int))) (r : Bool) (w : World) (hr2_1 : Kd.C (Kd.slice 3 (Kd.int .i64)) w bf ak.length ak) (hc2_1 : ak.length≤bg) (hr2_2 : Kd.C (Kd.slice 49 (Kd.slice 3 (Kd.int .i64))) w bC ac.length ac) (hc2_2 : ac.length≤bh) (h : r13_Right.f k a0 a1 aI ak ac=some r) :
  Calls Try.prog 16 #[.int .i64 a0, .int .i64 a1, .agg #[.bool aI, .slice bf ak.length bg, .slice bC ac.length bh]] w fun e w' => e=.returned (.bool r)∧Below w.heap.size w w' := by
 have hu33:=Try.underlying33;have bD:=zm hr2_1;have bE:=zm hc2_1;clear hr2_1 hc2_1;have a9:=zm hr2_2;have cE:=zm hc2_2;clear hr2_2 hc2_2;have HB:=zm (Below.refl w.heap.size w);have H:=h
 unfold r13_Right.f at H
 clear h;have HC4:=zm H;clear H
 go_enter Try.func16,Try.ntmps16
 go_upto_region 1 with (first|((with_reducible refine gate_dst (N:=5) rfl ?_);(try (refine gate_guard (by rfl) ?_;dsimp only));refine ybx 5 #[.bool aI, .slice bf ak.length bg, .slice bC ac.length bh] 33 ?_;intro aC hg w5 hbox hb;have ag:=zm (hbox);have cF:=ygw hg;have cG:=ygw hg;replace HB:=ybs hb;clear hb hbox hg))
 (try simp only [Act.put,List.setIfInBounds_toArray,List.set_cons_zero,List.set_cons_succ])
 go_cut [27] (fun v27 wc => ∃ (kq : Nat) (bx : Bool),v27=.bool bx∧Aside0 (r13_Right.j0 kq a0 a1 bx aI ak ac=some r)∧Aside0 (kq≤k)∧Aside0 (wc.heap[aC]? = some (.cells #[.bool aI,(.slice bf ak.length bg),(.slice bC ac.length bh)] 33 (0,0)))∧Aside0 (Below w.heap.size w wc))
 case first =>
  have H:=HC4.out;clear HC4
  obtain ⟨b9,A6,H⟩:=ybi H
  by_cases c7 : b9=true
  ·
   subst c7
   rw [if_pos rfl] at H
   obtain ⟨ca,A8,H⟩:=ybi H
   by_cases c9 : ca=true
   ·
    subst c9
    rw [if_pos rfl] at H
    have H' := zm H
    clear H
    go_wp2_with (first|((with_reducible refine gate_callee (f:=23) rfl ?_);refine ygl 12 Try.func23 #[.int .i64 a0, .int .i64 a1] ?_;(with_reducible refine (r12_Right.calls a0 a1 true _ A6.out).mono ?_);rintro e w' ⟨rfl,⟨nd,rfl⟩⟩;refine ⟨_,rfl, ?_⟩;obtain ⟨_,_,_,_,_,_⟩:=yc3 ag)|(go_at_call 17;(with_reducible refine (r12_Fair.calls k a1 _ _ ak true _ ?aK bE.out A8.out).mono ?_);(case aK=>exact ycb bD);rintro e w' ⟨rfl,⟨nd,rfl⟩⟩))
    go_meet
    case rel=>exact ⟨_,(((ac.length : Int) != a1)),yq,H',⟨yo⟩,⟨yk ag⟩,⟨yhb⟩⟩
   replace c9:=Bool.eq_false_iff.mpr c9
   subst c9
   rw [ynf] at H
   have H' := zm H
   clear H
   go_wp2_with (first|((with_reducible refine gate_callee (f:=23) rfl ?_);refine ygl 12 Try.func23 #[.int .i64 a0, .int .i64 a1] ?_;(with_reducible refine (r12_Right.calls a0 a1 true _ A6.out).mono ?_);rintro e w' ⟨rfl,⟨nd,rfl⟩⟩;refine ⟨_,rfl, ?_⟩;obtain ⟨_,_,_,_,_,_⟩:=yc3 ag)|(go_at_call 17;(with_reducible refine (r12_Fair.calls k a1 _ _ ak false _ ?aK bE.out A8.out).mono ?_);(case aK=>exact ycb bD);rintro e w' ⟨rfl,⟨nd,rfl⟩⟩))
   go_meet
   case rel=>exact ⟨_,(true),yq,H',⟨yo⟩,⟨yk ag⟩,⟨yhb⟩⟩
  replace c7:=Bool.eq_false_iff.mpr c7
  subst c7
  rw [ynf] at H
  have H' := zm H
  clear H
  go_wp2_with (first|((with_reducible refine gate_callee (f:=23) rfl ?_);refine ygl 12 Try.func23 #[.int .i64 a0, .int .i64 a1] ?_;(with_reducible refine (r12_Right.calls a0 a1 false _ A6.out).mono ?_);rintro e w' ⟨rfl,⟨nd,rfl⟩⟩;refine ⟨_,rfl, ?_⟩))
  go_meet
  case rel=>exact ⟨_,(true),yq,H',⟨yo⟩,⟨yk ag⟩,⟨yhb⟩⟩
 case rest =>
  clear HC4
  obtain ⟨kq,bx,rfl,HA,HJ3,ag,HB⟩:=hcut
  obtain ⟨kj3,rfl⟩:=ysu kq (fun h=>by subst h;exact absurd HA.out (by simp [r13_Right.j0]))
  have H:=HA.out;clear HA
  simp only [r13_Right.j0] at H
  by_cases c12 : bx=true
  ·
   subst c12
   rw [if_pos rfl] at H
   obtain rfl:=Option.some.inj H
   go_wp2
   go_ret
   exact ⟨ye,yhb⟩
  replace c12:=Bool.eq_false_iff.mpr c12
  subst c12
  rw [ynf] at H
  obtain ⟨aE,A13,H⟩:=ybi H
  have H' := zm H
  clear H
  obtain ⟨bL,bM,bN,bO,bP,bQ⟩:=yc3 ag
  go_wp2_with (first|((with_reducible refine gate_callee (f:=45) rfl ?_);refine ygl 32 Try.func45 #[.int .i64 a0, .int .i64 a1, .slice bf ak.length bg] ?_;(with_reducible refine (r12_Pulses.calls kj3 a0 a1 _ _ ak aE _ ?aK bE.out A13.out).mono ?_);(case aK=>exact ycb bD);rintro e w15 ⟨cp,rfl,ho0,hb⟩;refine ⟨_,rfl, ?_⟩;have cq:=zm (Kd.S_lower ho0 (zE yhb));replace ag:=ybb ag hb;replace HB:=ybs hb;(try clear hb);(try clear ho0)))
  go_loopg [8] kj3 (fun kq v8 w' => ∃ (aa : Int),v8=.int .i64 aa∧Aside0 (r13_Right.l0 kq a1 aE aa aI ak ac=some r)∧Aside0 (kq≤kj3)∧Aside0 (Kd.S (Kd.slice 3 (Kd.int .i64)) 49 w' w.heap.size (fun _=>True) cp aE)∧Aside0 (w'.heap[aC]? = some (.cells #[.bool aI,(.slice bf ak.length bg),(.slice bC ac.length bh)] 33 (0,0)))∧Aside0 (Below w.heap.size w w'))
  case atStart=>exact ⟨(0),yq,H',⟨Nat.le_refl _⟩,⟨yr cq⟩,⟨yk ag⟩,⟨yhb⟩⟩
  case round =>
   clear H'
   try clear bL
   try clear bM
   try clear bN
   try clear bO
   try clear bP
   try clear bQ
   obtain ⟨aa,rfl,HA,HK2,aw,ag,HB⟩:=hrel
   obtain ⟨k2,rfl⟩:=ysu gk (fun h=>by subst h;exact absurd HA.out (by simp [r13_Right.l0]))
   have H:=HA.out;clear HA
   simp only [r13_Right.l0] at H
   by_cases c16 : aa < a1
   ·
    rw [if_pos c16] at H
    have b6:=yD c16
    clear c16
    obtain ⟨c17,H⟩:=yif H
    have cr : decide (0≤aa)=true:=decide_eq_true c17
    clear c17
    obtain ⟨c18,H⟩:=yif H
    have ct : decide (aa < (ac.length : Int))=true:=decide_eq_true c18
    clear c18
    by_cases c19 : ((rd_L2 ac aa).length : Int)=5
    ·
     rw [if_pos c19] at H
     obtain ⟨b7,b8⟩:=yE c19
     clear c19
     have H' := zm H
     clear H
     obtain ⟨bR,bS,bT,bU,bV,bW⟩:=yc3 ag
     have bn : 0≤(aa : Int):=yt
     have bo : aa < (ac.length : Int):=yt
     obtain ⟨am,cb,ce,cf,aH,aM,aN⟩:=at_L2 a9.out aa bn bo
     cases cf
     replace aH:=yhx HB aH
     have bX:=zm aN;have bY:=zm aM;clear aN aM
     replace bn:=eq_true bn
     replace bo:=eq_true bo
     go_wp2
     go_loopg [9] k2 (fun kq v9 w' => ∃ (ae : Int),v9=.int .i64 ae∧Aside0 (r13_Right.l1 kq a1 aE aa ae aI ak ac=some r)∧Aside0 (kq≤k2)∧Aside0 (Kd.S (Kd.slice 3 (Kd.int .i64)) 49 w' w.heap.size (fun _=>True) cp aE)∧Aside0 (w'.heap[aC]? = some (.cells #[.bool aI,(.slice bf ak.length bg),(.slice (some am) ac.length bh)] 33 (0,0)))∧Aside0 (Below w.heap.size w w'))
     case atStart=>exact ⟨(0),yq,H',⟨Nat.le_refl _⟩,⟨yr aw⟩,⟨yk ag⟩,⟨yhb⟩⟩
     case round =>
      clear H'
      try clear b6
      try clear cr
      try clear ct
      try clear b7
      try clear b8
      try clear bR
      try clear bS
      try clear bT
      try clear bU
      try clear bV
      try clear bW
      try clear aH
      try clear bn
      try clear bo
      obtain ⟨ae,rfl,HA,HK3,aw,ag,HB⟩:=hrel
      obtain ⟨k3,rfl⟩:=ysu gk (fun h=>by subst h;exact absurd HA.out (by simp [r13_Right.l1]))
      have H:=HA.out;clear HA
      simp only [r13_Right.l1] at H
      by_cases c21 : ae < 5
      ·
       rw [if_pos c21] at H
       have cu:=yD c21
       clear c21
       obtain ⟨c22,H⟩:=yif H
       have cH : decide (0≤aa)=true:=decide_eq_true c22
       clear c22
       obtain ⟨c23,H⟩:=yif H
       have cI : decide (aa < (ac.length : Int))=true:=decide_eq_true c23
       clear c23
       obtain ⟨c24,H⟩:=yif H
       have cJ : decide (0≤ae)=true:=decide_eq_true c24
       clear c24
       obtain ⟨c25,H⟩:=yif H
       have cK : decide (ae < ((rd_L2 ac aa).length : Int))=true:=decide_eq_true c25
       clear c25
       obtain ⟨bA,A26,H⟩:=ybi H
       by_cases c27 : ((rd_L1 (rd_L2 ac aa) ae).length : Int)=bA
       ·
        rw [if_pos c27] at H
        obtain ⟨cv,cw⟩:=yE c27
        clear c27
        obtain ⟨bB,A28,H⟩:=ybi H
        obtain ⟨c29,H⟩:=yif H
        have cL : decide (aa < (aE.length : Int))=true:=decide_eq_true c29
        clear c29
        obtain ⟨c30,H⟩:=yif H
        have cM : decide (ae < ((rd_L1 aE aa).length : Int))=true:=decide_eq_true c30
        clear c30
        by_cases c31 : bB=(rd (rd_L1 aE aa) ae)
        ·
         rw [if_pos c31] at H
         obtain ⟨cx,cy⟩:=yE c31
         clear c31
         have H' := zm H
         clear H
         try go_wp2
         replace aw:=zm (Kd.S_drew aw.out)
         replace ag:=zm (zj ag.out)
         replace HB:=zm (zf HB.out)
         have ba : 0≤(aa : Int):=yt
         have bb : aa < (ac.length : Int):=yt
         obtain ⟨bp,bF,aJ,bG,af,ao,ap⟩:=at_L2 a9.out aa ba bb
         have hw741_0:=af
         obtain rfl : am=bp:=(by injection bG)
         replace af:=yhx HB af
         have aq:=zm ap;have bz:=zm ao;clear ap ao
         replace ba:=eq_true ba
         replace bb:=eq_true bb
         have bc : 0≤(ae : Int):=yt
         have bd : ae < ((rd_L2 ac aa).length : Int):=yt
         obtain ⟨aD,ay,az,bH,ah,au,av⟩:=at_L1 aq.out ae bc bd
         have hw742_0:=ah
         cases bH
         replace ah:=yhx HB ah
         have aA:=zm av;have a8:=zm au;clear av au
         replace bc:=eq_true bc
         replace bd:=eq_true bd
         have br : 0≤(aa : Int):=yt
         have bs : aa < (ac.length : Int):=yt
         obtain ⟨bI,cg,ch,ci,aj,aQ,aT⟩:=at_L2 a9.out aa br bs
         have hw744_0:=aj
         obtain rfl : am=bI:=(by injection ci)
         replace aj:=yhx HB aj
         have aU:=zm aT;have bZ:=zm aQ;clear aT aQ
         replace br:=eq_true br
         replace bs:=eq_true bs
         have ea_:=Option.some.inj (af.symm.trans aj)
         injection ea_ with ea_ en_ ec_
         subst ea_;subst ec_;clear en_
         have bu : 0≤(ae : Int):=yt
         have bv : ae < ((rd_L2 ac aa).length : Int):=yt
         obtain ⟨cz,cj,ck,cl,al,aV,aW⟩:=at_L1 aU.out ae bu bv
         have hw745_0:=al
         cases cl
         replace al:=yhx HB al
         have bi:=zm aW;have b4:=zm aV;clear aW aV
         replace bu:=eq_true bu
         replace bv:=eq_true bv
         have bj : 0≤(aa : Int):=yt
         have bk : aa < (aE.length : Int):=yt
         obtain ⟨cN,cO,cA⟩:=Kd.S_slice aw.out
         (first|subst cA|(injection cA with f1_ f2_ f3_;have f4_:=f1_.symm;have f5_:=f3_.symm;clear f1_ f2_ f3_;subst f4_;subst f5_))
         obtain ⟨bJ,cm,bw,cn,aX,aY,aZ⟩:=at_L1 (Kd.S_reads' aw.out).2.2 aa bj bk
         cases cn
         obtain ⟨ce747,hce747,hMe747,hcc747⟩:=Kd.S_get aw.out [] aa bj (by first|exact bk|exact yt|(have e_:=(Kd.S_reads' aw.out).1;omega))
         obtain ⟨ve747_0,rfl,ge747_0⟩:=hMe747
         have hv747_0:=hcc747 0 _ rfl
         rw [Nat.add_zero,show ((Kd.slice 3 (Kd.int .i64))).sz=1 from rfl,Nat.mul_one] at hv747_0
         replace hv747_0:=Option.some.inj (hv747_0.symm.trans aX)
         rw [hv747_0] at ge747_0
         have bl:=zm (show Kd.R (Kd.int .i64) 3 _ _ _ _ (rd_L1 aE aa) from ge747_0)
         clear hv747_0 ge747_0 hcc747 hce747;have a7:=zm aZ;have b5:=zm aY;clear aZ aY
         replace bj:=eq_true bj
         replace bk:=eq_true bk
         obtain ⟨bq,co,bm,cC,cD⟩:=yai a7 ae
         cases co
         refine yst (fun w' => w'.cell? ⟨aC,0,none⟩=some (.bool aI)∧w'.cell? ⟨aC,1,none⟩=some (.slice bf ak.length bg)∧w'.cell? ⟨aC,2,none⟩=some (.slice (some am) ac.length bh)∧w'.cell? (am.add (aa).toNat)=some (.slice (some aD) (rd_L2 ac aa).length aJ)∧w'.cell? (aD.add (ae).toNat)=some (.slice ay (rd_L1 (rd_L2 ac aa) ae).length az)∧w'.cell? (am.add (aa).toNat)=some (.slice (some aD) (rd_L2 ac aa).length aJ)∧w'.cell? (aD.add (ae).toNat)=some (.slice ay (rd_L1 (rd_L2 ac aa) ae).length az)∧w'.cell? (bJ.add (aa).toNat)=some (.slice (some bq) (rd_L1 aE aa).length bw)∧w'.cell? (bq.add (ae).toNat)=some (.int .i64 (rd (rd_L1 aE aa) ae))) [] 31 r13_Right.tab12 r13_Right.bits12 (fun hHeld HT_ HW_ => ?_)
         generalize wr.drew=w32 at aw ag HB bl aq aA aU bi a7 af ah aj al aX bm hHeld ⊢
         refine yp 0 49 HT_ ?_
         refine yp 2 51 HT_ ?_
         refine yp 5 54 HT_ ?_
         refine yp 9 58 HT_ ?_
         refine yl 1 50 HT_ HW_ hHeld ?_
         refine yp 3 52 HT_ ?_
         refine yl 4 53 HT_ HW_ hHeld ?_
         refine yp 6 55 HT_ ?_
         refine yl 7 56 HT_ HW_ hHeld ?_
         refine yp 8 57 HT_ ?_
         refine yw 10 59 HT_ (fun K hK => ?_)
         refine ygs Try.func46 #[.int .i64 ae] ?_
         with_reducible refine (r10_Width.calls k3 ae bA _ A26.out).mono ?_
         rintro e w' ⟨rfl,⟨nd,rfl⟩⟩
         refine ⟨_,rfl, ?_⟩
         refine hK.out _ _ yH (fun hHeld => ?_)
         clear hK K
         refine ym (some 59) ?_
         refine yp 11 60 HT_ ?_
         refine yp 12 61 HT_ ?_
         refine yp 13 62 HT_ ?_
         refine yp 15 64 HT_ ?_
         refine yp 18 67 HT_ ?_
         refine yp 22 71 HT_ ?_
         refine yp 23 72 HT_ ?_
         refine yp 24 73 HT_ ?_
         refine yp 26 75 HT_ ?_
         refine yl 14 63 HT_ HW_ hHeld ?_
         refine yp 16 65 HT_ ?_
         refine yl 17 66 HT_ HW_ hHeld ?_
         refine yp 19 68 HT_ ?_
         refine yl 20 69 HT_ HW_ hHeld ?_
         refine yl 25 74 HT_ HW_ hHeld ?_
         refine yp 27 76 HT_ ?_
         refine yl 28 77 HT_ HW_ hHeld ?_
         refine yw 21 70 HT_ (fun K hK => ?_)
         refine ygs Try.func40 #[.slice ay (rd_L1 (rd_L2 ac aa) ae).length az] ?_
         with_reducible refine (r06_Pulses.calls k3 _ _ (rd_L1 (rd_L2 ac aa) ae) bB _ ?aK ?bK A28.out).mono ?_
         (case aK=>exact ycb aA)
         (case bK=>exact a8.out)
         rintro e w' ⟨rfl,⟨nd,rfl⟩⟩
         refine ⟨_,rfl, ?_⟩
         refine hK.out _ _ yH (fun hHeld => ?_)
         clear hK K
         refine ym (some 70) ?_
         refine yp 29 78 HT_ ?_
         refine yp 30 79 HT_ ?_
         refine done_ (done_of HT_.out (by kernel_rfl)) ?_
         try go_wp2
         go_roundg k3
         case measure=>exact yom3 HJ3 HK2 HK3
         case rel=>exact ⟨(wrap64 (ae+1)),yq,H',⟨yom3 HJ3 HK2 HK3⟩,⟨yr aw⟩,⟨yk ag⟩,⟨yhb⟩⟩
        rw [if_neg c31] at H
        obtain ⟨cx,cy⟩:=yF c31
        obtain rfl:=Option.some.inj H
        try go_wp2
        replace aw:=zm (Kd.S_drew aw.out)
        replace ag:=zm (zj ag.out)
        replace HB:=zm (zf HB.out)
        have ba : 0≤(aa : Int):=yt
        have bb : aa < (ac.length : Int):=yt
        obtain ⟨bp,bF,aJ,bG,af,ao,ap⟩:=at_L2 a9.out aa ba bb
        have hw741_0:=af
        obtain rfl : am=bp:=(by injection bG)
        replace af:=yhx HB af
        have aq:=zm ap;have bz:=zm ao;clear ap ao
        replace ba:=eq_true ba
        replace bb:=eq_true bb
        have bc : 0≤(ae : Int):=yt
        have bd : ae < ((rd_L2 ac aa).length : Int):=yt
        obtain ⟨aD,ay,az,bH,ah,au,av⟩:=at_L1 aq.out ae bc bd
        have hw742_0:=ah
        cases bH
        replace ah:=yhx HB ah
        have aA:=zm av;have a8:=zm au;clear av au
        replace bc:=eq_true bc
        replace bd:=eq_true bd
        have br : 0≤(aa : Int):=yt
        have bs : aa < (ac.length : Int):=yt
        obtain ⟨bI,cg,ch,ci,aj,aQ,aT⟩:=at_L2 a9.out aa br bs
        have hw744_0:=aj
        obtain rfl : am=bI:=(by injection ci)
        replace aj:=yhx HB aj
        have aU:=zm aT;have bZ:=zm aQ;clear aT aQ
        replace br:=eq_true br
        replace bs:=eq_true bs
        have ea_:=Option.some.inj (af.symm.trans aj)
        injection ea_ with ea_ en_ ec_
        subst ea_;subst ec_;clear en_
        have bu : 0≤(ae : Int):=yt
        have bv : ae < ((rd_L2 ac aa).length : Int):=yt
        obtain ⟨cz,cj,ck,cl,al,aV,aW⟩:=at_L1 aU.out ae bu bv
        have hw745_0:=al
        cases cl
        replace al:=yhx HB al
        have bi:=zm aW;have b4:=zm aV;clear aW aV
        replace bu:=eq_true bu
        replace bv:=eq_true bv
        have bj : 0≤(aa : Int):=yt
        have bk : aa < (aE.length : Int):=yt
        obtain ⟨cP,cQ,cB⟩:=Kd.S_slice aw.out
        (first|subst cB|(injection cB with f1_ f2_ f3_;have f4_:=f1_.symm;have f5_:=f3_.symm;clear f1_ f2_ f3_;subst f4_;subst f5_))
        obtain ⟨bJ,cm,bw,cn,aX,aY,aZ⟩:=at_L1 (Kd.S_reads' aw.out).2.2 aa bj bk
        cases cn
        obtain ⟨ce747,hce747,hMe747,hcc747⟩:=Kd.S_get aw.out [] aa bj (by first|exact bk|exact yt|(have e_:=(Kd.S_reads' aw.out).1;omega))
        obtain ⟨ve747_0,rfl,ge747_0⟩:=hMe747
        have hv747_0:=hcc747 0 _ rfl
        rw [Nat.add_zero,show ((Kd.slice 3 (Kd.int .i64))).sz=1 from rfl,Nat.mul_one] at hv747_0
        replace hv747_0:=Option.some.inj (hv747_0.symm.trans aX)
        rw [hv747_0] at ge747_0
        have bl:=zm (show Kd.R (Kd.int .i64) 3 _ _ _ _ (rd_L1 aE aa) from ge747_0)
        clear hv747_0 ge747_0 hcc747 hce747;have a7:=zm aZ;have b5:=zm aY;clear aZ aY
        replace bj:=eq_true bj
        replace bk:=eq_true bk
        obtain ⟨bq,co,bm,cC,cD⟩:=yai a7 ae
        cases co
        refine yst (fun w' => w'.cell? ⟨aC,0,none⟩=some (.bool aI)∧w'.cell? ⟨aC,1,none⟩=some (.slice bf ak.length bg)∧w'.cell? ⟨aC,2,none⟩=some (.slice (some am) ac.length bh)∧w'.cell? (am.add (aa).toNat)=some (.slice (some aD) (rd_L2 ac aa).length aJ)∧w'.cell? (aD.add (ae).toNat)=some (.slice ay (rd_L1 (rd_L2 ac aa) ae).length az)∧w'.cell? (am.add (aa).toNat)=some (.slice (some aD) (rd_L2 ac aa).length aJ)∧w'.cell? (aD.add (ae).toNat)=some (.slice ay (rd_L1 (rd_L2 ac aa) ae).length az)∧w'.cell? (bJ.add (aa).toNat)=some (.slice (some bq) (rd_L1 aE aa).length bw)∧w'.cell? (bq.add (ae).toNat)=some (.int .i64 (rd (rd_L1 aE aa) ae))) [] 31 r13_Right.tab12 r13_Right.bits12 (fun hHeld HT_ HW_ => ?_)
        generalize wr.drew=w34 at aw ag HB bl aq aA aU bi a7 af ah aj al aX bm hHeld ⊢
        refine yp 0 49 HT_ ?_
        refine yp 2 51 HT_ ?_
        refine yp 5 54 HT_ ?_
        refine yp 9 58 HT_ ?_
        refine yl 1 50 HT_ HW_ hHeld ?_
        refine yp 3 52 HT_ ?_
        refine yl 4 53 HT_ HW_ hHeld ?_
        refine yp 6 55 HT_ ?_
        refine yl 7 56 HT_ HW_ hHeld ?_
        refine yp 8 57 HT_ ?_
        refine yw 10 59 HT_ (fun K hK => ?_)
        refine ygs Try.func46 #[.int .i64 ae] ?_
        with_reducible refine (r10_Width.calls k3 ae bA _ A26.out).mono ?_
        rintro e w' ⟨rfl,⟨nd,rfl⟩⟩
        refine ⟨_,rfl, ?_⟩
        refine hK.out _ _ yH (fun hHeld => ?_)
        clear hK K
        refine ym (some 59) ?_
        refine yp 11 60 HT_ ?_
        refine yp 12 61 HT_ ?_
        refine yp 13 62 HT_ ?_
        refine yp 15 64 HT_ ?_
        refine yp 18 67 HT_ ?_
        refine yp 22 71 HT_ ?_
        refine yp 23 72 HT_ ?_
        refine yp 24 73 HT_ ?_
        refine yp 26 75 HT_ ?_
        refine yl 14 63 HT_ HW_ hHeld ?_
        refine yp 16 65 HT_ ?_
        refine yl 17 66 HT_ HW_ hHeld ?_
        refine yp 19 68 HT_ ?_
        refine yl 20 69 HT_ HW_ hHeld ?_
        refine yl 25 74 HT_ HW_ hHeld ?_
        refine yp 27 76 HT_ ?_
        refine yl 28 77 HT_ HW_ hHeld ?_
        refine yw 21 70 HT_ (fun K hK => ?_)
        refine ygs Try.func40 #[.slice ay (rd_L1 (rd_L2 ac aa) ae).length az] ?_
        with_reducible refine (r06_Pulses.calls k3 _ _ (rd_L1 (rd_L2 ac aa) ae) bB _ ?aK ?bK A28.out).mono ?_
        (case aK=>exact ycb aA)
        (case bK=>exact a8.out)
        rintro e w' ⟨rfl,⟨nd,rfl⟩⟩
        refine ⟨_,rfl, ?_⟩
        refine hK.out _ _ yH (fun hHeld => ?_)
        clear hK K
        refine ym (some 70) ?_
        refine yp 29 78 HT_ ?_
        refine yp 30 79 HT_ ?_
        refine done_ (done_of HT_.out (by kernel_rfl)) ?_
        try go_wp2
        go_ret
        exact ⟨ye,yhb⟩
       rw [if_neg c27] at H
       obtain ⟨cv,cw⟩:=yF c27
       obtain rfl:=Option.some.inj H
       try go_wp2
       replace aw:=zm (Kd.S_drew aw.out)
       replace ag:=zm (zj ag.out)
       replace HB:=zm (zf HB.out)
       have ba : 0≤(aa : Int):=yt
       have bb : aa < (ac.length : Int):=yt
       obtain ⟨bp,bF,aJ,bG,af,ao,ap⟩:=at_L2 a9.out aa ba bb
       have hw741_0:=af
       obtain rfl : am=bp:=(by injection bG)
       replace af:=yhx HB af
       have aq:=zm ap;have bz:=zm ao;clear ap ao
       replace ba:=eq_true ba
       replace bb:=eq_true bb
       have bc : 0≤(ae : Int):=yt
       have bd : ae < ((rd_L2 ac aa).length : Int):=yt
       obtain ⟨aD,ay,az,bH,ah,au,av⟩:=at_L1 aq.out ae bc bd
       have hw742_0:=ah
       cases bH
       replace ah:=yhx HB ah
       have aA:=zm av;have a8:=zm au;clear av au
       replace bc:=eq_true bc
       replace bd:=eq_true bd
       refine yst (fun w' => w'.cell? ⟨aC,0,none⟩=some (.bool aI)∧w'.cell? ⟨aC,1,none⟩=some (.slice bf ak.length bg)∧w'.cell? ⟨aC,2,none⟩=some (.slice (some am) ac.length bh)∧w'.cell? (am.add (aa).toNat)=some (.slice (some aD) (rd_L2 ac aa).length aJ)∧w'.cell? (aD.add (ae).toNat)=some (.slice ay (rd_L1 (rd_L2 ac aa) ae).length az)) [] 31 r13_Right.tab12 r13_Right.bits12 (fun hHeld HT_ HW_ => ?_)
       generalize wr.drew=w36 at aw ag HB aq aA af ah hHeld ⊢
       refine yp 0 49 HT_ ?_
       refine yp 2 51 HT_ ?_
       refine yp 5 54 HT_ ?_
       refine yp 9 58 HT_ ?_
       refine yl 1 50 HT_ HW_ hHeld ?_
       refine yp 3 52 HT_ ?_
       refine yl 4 53 HT_ HW_ hHeld ?_
       refine yp 6 55 HT_ ?_
       refine yl 7 56 HT_ HW_ hHeld ?_
       refine yp 8 57 HT_ ?_
       refine yw 10 59 HT_ (fun K hK => ?_)
       refine ygs Try.func46 #[.int .i64 ae] ?_
       with_reducible refine (r10_Width.calls k3 ae bA _ A26.out).mono ?_
       rintro e w' ⟨rfl,⟨nd,rfl⟩⟩
       refine ⟨_,rfl, ?_⟩
       refine hK.out _ _ yH (fun hHeld => ?_)
       clear hK K
       refine ym (some 59) ?_
       refine yp 11 60 HT_ ?_
       refine yp 12 61 HT_ ?_
       refine yu 13 62 HT_ ?_
       refine yu 14 63 HT_ ?_
       refine yu 15 64 HT_ ?_
       refine yu 16 65 HT_ ?_
       refine yu 17 66 HT_ ?_
       refine yu 18 67 HT_ ?_
       refine yu 19 68 HT_ ?_
       refine yu 20 69 HT_ ?_
       refine yu 21 70 HT_ ?_
       refine yu 22 71 HT_ ?_
       refine yu 23 72 HT_ ?_
       refine yu 24 73 HT_ ?_
       refine yu 25 74 HT_ ?_
       refine yu 26 75 HT_ ?_
       refine yu 27 76 HT_ ?_
       refine yu 28 77 HT_ ?_
       refine yu 29 78 HT_ ?_
       refine yp 30 79 HT_ ?_
       refine done_ (done_of HT_.out (by kernel_rfl)) ?_
       try go_wp2
       go_ret
       exact ⟨ye,yhb⟩
      rw [if_neg c21] at H
      have cu:=yG c21
      clear c21
      have H' := zm H
      clear H
      go_wp2
      go_roundg k3
      case measure=>exact yom3 HJ3 HK2 HK3
      case rel=>exact ⟨(wrap64 (aa+1)),yq,H',⟨yom3 HJ3 HK2 HK3⟩,⟨yr aw⟩,⟨yk ag⟩,⟨yhb⟩⟩
    rw [if_neg c19] at H
    obtain ⟨b7,b8⟩:=yF c19
    obtain rfl:=Option.some.inj H
    obtain ⟨_,_,_,_,_,_⟩:=yc3 ag
    have bn : 0≤(aa : Int):=yt
    have bo : aa < (ac.length : Int):=yt
    obtain ⟨am,cb,ce,cf,aH,aM,aN⟩:=at_L2 a9.out aa bn bo
    cases cf
    replace aH:=yhx HB aH
    have bX:=zm aN;have bY:=zm aM;clear aN aM
    replace bn:=eq_true bn
    replace bo:=eq_true bo
    go_wp2
    go_ret
    exact ⟨ye,yhb⟩
   rw [if_neg c16] at H
   have b6:=yG c16
   clear c16
   obtain rfl:=Option.some.inj H
   go_wp2
   go_ret
   exact ⟨ye,yhb⟩
end Go.Proofs.Ytnmbndkojpjkmaa.Prt
