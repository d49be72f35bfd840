-- Functions of the program and of the document as plain Lean, each with the proof that the code comes to it. Written by a program of this session (wip/tools/myprint.py, pack.py) over the kit's printer; Lean checks it.
import Derived.Test.YtkaoiblgfpphoaaZGainBackPrt0
import Derived.Test.YtkaoiblgfpphoaaZGainBackSh
import Derived.Test.YtkaoiblgfpphoaaZGainBackM2
namespace Go.Proofs.Ytkaoiblgfpphoaa.Prt
open Go.RowKit Go.Proofs.YtkaoiblgfpphoaaW.PrintWords Go.Proofs.YtkaoiblgfpphoaaW.PrintLast Go.Proofs.YtkaoiblgfpphoaaW.PrintMore
attribute [local go_sem] max2_int min2_int max_two min_two max_three min_three max_four min_four   -- for this text's walks alone
set_option linter.unusedVariables false
set_option linter.unusedSimpArgs false


def psalteryref11_Right.l0 : Nat→List Int→Bool→Int→Option (Bool)
 | 0,_,_,_=>none
 | k+1,x0,x3,x4=>if x4 < (x0.length : Int) then (if x3=true then (if 0≤x4 then (if (rd x0 x4) ≥ 0 then (psalteryref11_Right.l0 k x0 (decide ((rd x0 x4)≤44)) (wrap64 (x4+1))) else (psalteryref11_Right.l0 k x0 false (wrap64 (x4+1)))) else (none)) else (psalteryref11_Right.l0 k x0 false (wrap64 (x4+1)))) else (some x3)
def psalteryref11_Right.f (k : Nat) (l0 : List Int) : Option (Bool):=psalteryref11_Right.l0 k l0 ((l0.length : Int) == 5) 0
theorem psalteryref11_Right.mono_l : ∀ k,(∀ y0 y1 y2,LeO (psalteryref11_Right.l0 k y0 y1 y2) (psalteryref11_Right.l0 (k+1) y0 y1 y2))
 | 0=>fun _ _ _ r h=>by simp [psalteryref11_Right.l0] at h
 | k+1=>by
  have ih0:=psalteryref11_Right.mono_l k
  ·
   intro y0 y1 y2
   unfold psalteryref11_Right.l0
   repeat' with_reducible first|apply ih0|apply yLr|apply yLn|apply yLi|apply yLb|intro _
theorem psalteryref11_Right.mono : ∀ a0 k,LeO (psalteryref11_Right.f k a0) (psalteryref11_Right.f (k+1) a0):=by
 intro a0 k
 have ih0:=psalteryref11_Right.mono_l k
 unfold psalteryref11_Right.f
 repeat' with_reducible first|apply ih0|apply yLr|apply yLn|apply yLi|apply yLb|intro _
set_option maxHeartbeats 8000000 in
set_option maxRecDepth 100000 in
theorem psalteryref11_Right.calls (k : Nat) (A0 : Option Addr) (c0 : Nat) (l0 : List Int) (r : Bool) (w : World) (hr0 : Kd.C (Kd.int .i64) w A0 l0.length l0) (hc0 : l0.length≤c0) (h : psalteryref11_Right.f k l0=some r) :
  Calls Try.prog 46 #[.slice A0 l0.length c0] w fun e w' => e=.returned (.bool r)∧Drawn0 w w' := by
 have HR0:=zm hr0;have HC0:=zm hc0;clear hr0 hc0
 have H : (psalteryref11_Right.l0 k l0 ((l0.length : Int) == 5) 0)=some r:=h
 clear h
 have H' := zm H
 clear H
 go_enter Try.func46,Try.ntmps46
 go_wp2
 go_loopg [3,4] k (fun kq v3 v4 w' => ∃ (x3_1 : Bool) (x4_1 : Int),v3=.bool x3_1∧v4=.int .i64 x4_1∧Aside0 (psalteryref11_Right.l0 kq l0 x3_1 x4_1=some r)∧Aside0 (kq≤k)∧Drawn0 w w')
 case atStart=>exact ⟨(((l0.length : Int) == 5)),(0),yq,yq,H',⟨Nat.le_refl _⟩,yd⟩
 case round =>
  clear H'
  obtain ⟨x3_1,x4_1,rfl,rfl,HA,HK1,⟨m1,rfl⟩⟩:=hrel
  obtain ⟨k1,rfl⟩:=ysu gk (fun h=>by subst h;exact absurd HA.out (by simp [psalteryref11_Right.l0]))
  have H:=HA.out;clear HA
  simp only [psalteryref11_Right.l0] at H
  by_cases c2 : x4_1 < (l0.length : Int)
  ·
   rw [if_pos c2] at H
   have c2b0 : decide (x4_1 < (l0.length : Int))=true:=decide_eq_true c2
   clear c2
   by_cases c3 : x3_1=true
   ·
    subst c3
    rw [if_pos rfl] at H
    replace H:=yif H;obtain ⟨c4,H⟩:=H
    have c4b0 : decide (0≤x4_1)=true:=decide_eq_true c4
    clear c4
    by_cases c5 : (rd l0 x4_1) ≥ 0
    ·
     rw [if_pos c5] at H
     have c5b0 : decide (0≤(rd l0 x4_1))=true:=decide_eq_true c5
     clear c5
     have H' := zm H
     clear H
     obtain ⟨ad817,e817,hx817_0,p817,q817⟩:=yai HR0 x4_1
     cases e817
     have p818 : 0≤(x4_1 : Int):=yt
     have q818 : x4_1 < (l0.length : Int):=yt
     obtain ⟨ad818,e818,hx818_0⟩:=Kd.at_int HR0.out x4_1 p818 q818
     obtain rfl : ad817=ad818:=(by injection e818)
     replace p818:=eq_true p818
     replace q818:=eq_true q818
     go_wp2
     go_roundg k1
     case measure=>exact yom1 HK1
     case rel=>exact ⟨(decide ((rd l0 x4_1)≤44)),(wrap64 (x4_1+1)),yq,yq,H',⟨yom1 HK1⟩,yd⟩
    ·
     rw [if_neg c5] at H
     have c5b0 : decide (0≤(rd l0 x4_1))=false:=decide_eq_false c5
     clear c5
     have H' := zm H
     clear H
     obtain ⟨ad817,e817,hx817_0,p817,q817⟩:=yai HR0 x4_1
     cases e817
     go_wp2
     go_roundg k1
     case measure=>exact yom1 HK1
     case rel=>exact ⟨(false),(wrap64 (x4_1+1)),yq,yq,H',⟨yom1 HK1⟩,yd⟩
   ·
    replace c3:=Bool.eq_false_iff.mpr c3
    subst c3
    rw [ynf] at H
    have H' := zm H
    clear H
    go_wp2
    go_roundg k1
    case measure=>exact yom1 HK1
    case rel=>exact ⟨(false),(wrap64 (x4_1+1)),yq,yq,H',⟨yom1 HK1⟩,yd⟩
  ·
   rw [if_neg c2] at H
   have c2b0 : decide (x4_1 < (l0.length : Int))=false:=decide_eq_false c2
   clear c2
   obtain rfl:=Option.some.inj H
   go_wp2
   go_ret
   exact ⟨yq,yd⟩
mutual
def psalteryref11_Put.j0 : Nat→List Int→List Int→Bool→Bool→Int→List Int→Option (Int × List Int × Int)
 | 0,_,_,_,_,_,_=>none
 | k+1,x1,x2,x3,x26,x820000,x820001=>if x26=true then (some (x820000,x820001,1)) else (psalteryref11_Put.l0 k x1 x2 x3 0 x820000 x820001 x820000 x820001)
def psalteryref11_Put.l0 : Nat→List Int→List Int→Bool→Int→Int→List Int→Int→List Int→Option (Int × List Int × Int)
 | 0,_,_,_,_,_,_,_,_=>none
 | k+1,x1,x2,x3,x11,x820000,x820001,x824000,x824001=>if x11 < 5 then (if x3=true then (psalteryref11_Put.j3 k x1 x2 x3 x11 x3 x820000 x820001 x824000 x824001) else (if 0≤x11 then (if x11 < (x1.length : Int) then (if x11 < (x2.length : Int) then (if (wrap64 ((wrap64 ((rd x1 x11) - (rd x2 x11)))+3)) < 0 then (psalteryref11_Put.j2 k x1 x2 x3 x11 x3 (wrap64 ((wrap64 ((rd x1 x11) - (rd x2 x11)))+3)) true x820000 x820001 x824000 x824001) else (psalteryref11_Put.j2 k x1 x2 x3 x11 x3 (wrap64 ((wrap64 ((rd x1 x11) - (rd x2 x11)))+3)) (decide ((wrap64 ((wrap64 ((rd x1 x11) - (rd x2 x11)))+3)) > 6)) x820000 x820001 x824000 x824001)) else (none)) else (none)) else (none))) else (some (x824000,x824001,0))
def psalteryref11_Put.j3 : Nat→List Int→List Int→Bool→Int→Bool→Int→List Int→Int→List Int→Option (Int × List Int × Int)
 | 0,_,_,_,_,_,_,_,_,_=>none
 | k+1,x1,x2,x3,x11,x13,x820000,x820001,x824000,x824001=>if x13=true then (if 0≤x11 then (if x11 < (x1.length : Int) then ((psalteryref05_PutNum.f k x824000 x824001 (IntKind.u64.wrap (rd x1 x11)) 45).bind fun bt837=>(if bt837.2.2=0 then (psalteryref11_Put.l0 k x1 x2 x3 (wrap64 (x11+1)) x820000 x820001 bt837.1 bt837.2.1) else (some (x820000,x820001,bt837.2.2)))) else (none)) else (none)) else (psalteryref11_Put.l0 k x1 x2 x3 (wrap64 (x11+1)) x820000 x820001 x824000 x824001)
def psalteryref11_Put.j2 : Nat→List Int→List Int→Bool→Int→Bool→Int→Bool→Int→List Int→Int→List Int→Option (Int × List Int × Int)
 | 0,_,_,_,_,_,_,_,_,_,_,_=>none
 | k+1,x1,x2,x3,x11,x13,x14,x51,x820000,x820001,x824000,x824001=>if x51=true then ((psalteryref05_Put.f k x824000 x824001 7 (7+1) 8).bind fun bt826=>(if bt826.2.2=0 then (psalteryref11_Put.j3 k x1 x2 x3 x11 true x820000 x820001 bt826.1 bt826.2.1) else (some (x820000,x820001,bt826.2.2)))) else ((psalteryref05_Put.f k x824000 x824001 x14 (wrap64 (x14+1)) 8).bind fun bt831=>(if bt831.2.2=0 then (psalteryref11_Put.j3 k x1 x2 x3 x11 x13 x820000 x820001 bt831.1 bt831.2.1) else (some (x820000,x820001,bt831.2.2))))
end
def psalteryref11_Put.f (k : Nat) (a0_0 : Int) (l0_1 : List Int) (l1 : List Int) (l2 : List Int) (a3 : Bool) : Option (Int × List Int × Int):=(psalteryref11_Right.f k l1).bind fun t821=>(if t821=true then (if a3=true then (psalteryref11_Put.j0 k l1 l2 a3 false a0_0 l0_1) else ((psalteryref11_Right.f k l2).bind fun t822=>(psalteryref11_Put.j0 k l1 l2 a3 (!t822) a0_0 l0_1))) else (psalteryref11_Put.j0 k l1 l2 a3 true a0_0 l0_1))
theorem psalteryref11_Put.mono_l : ∀ k,(∀ y0 y1 y2 y3 y4 y5,LeO (psalteryref11_Put.j0 k y0 y1 y2 y3 y4 y5) (psalteryref11_Put.j0 (k+1) y0 y1 y2 y3 y4 y5))∧(∀ y0 y1 y2 y3 y4 y5 y6 y7,LeO (psalteryref11_Put.l0 k y0 y1 y2 y3 y4 y5 y6 y7) (psalteryref11_Put.l0 (k+1) y0 y1 y2 y3 y4 y5 y6 y7))∧(∀ y0 y1 y2 y3 y4 y5 y6 y7 y8,LeO (psalteryref11_Put.j3 k y0 y1 y2 y3 y4 y5 y6 y7 y8) (psalteryref11_Put.j3 (k+1) y0 y1 y2 y3 y4 y5 y6 y7 y8))∧(∀ y0 y1 y2 y3 y4 y5 y6 y7 y8 y9 y10,LeO (psalteryref11_Put.j2 k y0 y1 y2 y3 y4 y5 y6 y7 y8 y9 y10) (psalteryref11_Put.j2 (k+1) y0 y1 y2 y3 y4 y5 y6 y7 y8 y9 y10))
 | 0=>⟨fun _ _ _ _ _ _ r h=>by simp [psalteryref11_Put.j0] at h,fun _ _ _ _ _ _ _ _ r h=>by simp [psalteryref11_Put.l0] at h,fun _ _ _ _ _ _ _ _ _ r h=>by simp [psalteryref11_Put.j3] at h,fun _ _ _ _ _ _ _ _ _ _ _ r h=>by simp [psalteryref11_Put.j2] at h⟩
 | k+1=>by
  obtain ⟨ih0,ih1,ih2,ih3⟩:=psalteryref11_Put.mono_l k
  refine ⟨?_, ?_, ?_, ?_⟩
  ·
   intro y0 y1 y2 y3 y4 y5
   unfold psalteryref11_Put.j0
   repeat' with_reducible first|apply ih0|apply ih1|apply ih2|apply ih3|apply psalteryref05_Put.mono|apply psalteryref05_PutNum.mono|apply psalteryref11_Right.mono|apply yLr|apply yLn|apply yLi|apply yLb|intro _
  ·
   intro y0 y1 y2 y3 y4 y5 y6 y7
   unfold psalteryref11_Put.l0
   repeat' with_reducible first|apply ih0|apply ih1|apply ih2|apply ih3|apply psalteryref05_Put.mono|apply psalteryref05_PutNum.mono|apply psalteryref11_Right.mono|apply yLr|apply yLn|apply yLi|apply yLb|intro _
  ·
   intro y0 y1 y2 y3 y4 y5 y6 y7 y8
   unfold psalteryref11_Put.j3
   repeat' with_reducible first|apply ih0|apply ih1|apply ih2|apply ih3|apply psalteryref05_Put.mono|apply psalteryref05_PutNum.mono|apply psalteryref11_Right.mono|apply yLr|apply yLn|apply yLi|apply yLb|intro _
  ·
   intro y0 y1 y2 y3 y4 y5 y6 y7 y8 y9 y10
   unfold psalteryref11_Put.j2
   repeat' with_reducible first|apply ih0|apply ih1|apply ih2|apply ih3|apply psalteryref05_Put.mono|apply psalteryref05_PutNum.mono|apply psalteryref11_Right.mono|apply yLr|apply yLn|apply yLi|apply yLb|intro _
theorem psalteryref11_Put.mono : ∀ a0 a1 a2 a3 a4 k,LeO (psalteryref11_Put.f k a0 a1 a2 a3 a4) (psalteryref11_Put.f (k+1) a0 a1 a2 a3 a4):=by
 intro a0 a1 a2 a3 a4 k
 obtain ⟨ih0,ih1,ih2,ih3⟩:=psalteryref11_Put.mono_l k
 unfold psalteryref11_Put.f
 repeat' with_reducible first|apply ih0|apply ih1|apply ih2|apply ih3|apply psalteryref05_Put.mono|apply psalteryref05_PutNum.mono|apply psalteryref11_Right.mono|apply yLr|apply yLn|apply yLi|apply yLb|intro _
def psalteryref11_Put.T10 : Bool × List (List Nat × List Nat):=(true, [([], []),([], []),([0,1], [0,1]),([2], [2]),([], []),([], []),([4,5], [4,5]),([6], [6]),([3,7], [3,7]),([8], [8]),([9,0,1,2,3,4,5,6,7,8,9], [9])])
def psalteryref11_Put.B10 : List Nat := [0,0,3,7,0,0,48,112,255,511,1023]
theorem psalteryref11_Put.tab10 : rtab .any (opsOf Try.f44 10)=psalteryref11_Put.T10:=by kernel_rfl
theorem psalteryref11_Put.bits10 : waitsOk psalteryref11_Put.T10.2 psalteryref11_Put.B10=true:=by kernel_rfl
def psalteryref11_Put.T18 : Bool × List (List Nat × List Nat):=(true, [([], []),([], []),([], []),([1,2], [1,2]),([3], [3]),([4], [4]),([0,5], [0,5]),([6], [6]),([7], [7]),([7], [7]),([8,6,0,1,2,3,4,5,6,7,8], [8]),([9,10,0,1,2,3,4,5,6,7,8,9,10], [9])])
def psalteryref11_Put.B18 : List Nat := [0,0,0,6,14,30,63,127,255,255,511,2047]
theorem psalteryref11_Put.tab18 : rtab .any (opsOf Try.f44 18)=psalteryref11_Put.T18:=by kernel_rfl
theorem psalteryref11_Put.bits18 : waitsOk psalteryref11_Put.T18.2 psalteryref11_Put.B18=true:=by kernel_rfl
set_option maxHeartbeats 8000000 in
set_option maxRecDepth 100000 in
theorem psalteryref11_Put.calls (k : Nat) (a0_0 : Int) (P0_1_ : Nat→Prop) (A0_1 : Option Addr) (c0_1 : Nat) (l0_1 : List Int) (A1 : Option Addr) (c1 : Nat) (l1 : List Int) (A2 : Option Addr) (c2 : Nat) (l2 : List Int) (a3 : Bool) (r1 : Int) (r2 : List Int) (r3 : Int) (w : World) (hs0_1 : Kd.V (Kd.int .i64) 3 w w.heap.size (fun k_=>P0_1_ k_) (.slice A0_1 l0_1.length c0_1) l0_1) (hr1 : Kd.C (Kd.int .i64) w A1 l1.length l1) (hc1 : l1.length≤c1) (hr2 : Kd.C (Kd.int .i64) w A2 l2.length l2) (hc2 : l2.length≤c2) (h : psalteryref11_Put.f k a0_0 l0_1 l1 l2 a3=some (r1,r2,r3)) :
  Calls Try.prog 44 #[.agg #[.int .u64 a0_0, .slice A0_1 l0_1.length c0_1], .slice A1 l1.length c1, .slice A2 l2.length c2, .bool a3] w fun e w' => ∃ v1_ : Value,e=.returned (.tuple #[.agg #[.int .u64 r1,v1_], .int .i64 r3])∧Kd.V (Kd.int .i64) 3 w' w.heap.size (fun k_=>(P0_1_ k_∨w.heap.size≤k_)) v1_ r2∧Below w.heap.size w w' := by
 have hu33:=Try.underlying33
 have HO0_1:=zm (show Kd.V (Kd.int .i64) 3 w w.heap.size (fun k_=>(P0_1_ k_∨w.heap.size≤k_)) (.slice A0_1 l0_1.length c0_1) l0_1 from zy hs0_1 (fun k_ hk => .inl hk))
 have HR1:=zm hr1;have HC1:=zm hc1;clear hr1 hc1;have HR2:=zm hr2;have HC2:=zm hc2;clear hr2 hc2;have HB:=zm (Below.refl w.heap.size w)
 have H : ((psalteryref11_Right.f k l1).bind fun t821=>(if t821=true then (if a3=true then (psalteryref11_Put.j0 k l1 l2 a3 false a0_0 l0_1) else ((psalteryref11_Right.f k l2).bind fun t822=>(psalteryref11_Put.j0 k l1 l2 a3 (!t822) a0_0 l0_1))) else (psalteryref11_Put.j0 k l1 l2 a3 true a0_0 l0_1)))=some (r1,r2,r3):=h
 clear h;have HC5:=zm H;clear H
 go_enter Try.func44,Try.ntmps44
 go_upto_region 1 with (first|((with_reducible refine gate_dst (N:=4) rfl ?_);refine ybx 4 #[.int .u64 a0_0, .slice A0_1 l0_1.length c0_1] 33 ?_;intro gb819 hg w6 hbox hb;replace HO0_1:=yVe HO0_1 hg hb;have BK819:=zm (hbox);have GW819:=ygw hg;have GE819:=ygw hg;replace HB:=ybs hb;clear hb hbox hg)|((with_reducible refine gate_dst (N:=8) rfl ?_);refine ybx 8 #[.int .u64 0, .slice none 0 0] 33 ?_;intro gb820 hg w7 hbox hb;replace HO0_1:=yVe HO0_1 hg hb;have BK820:=zm (hbox);have GW820:=ygw hg;have GE820:=ygw hg;replace HB:=ybs hb;have NB819_820:=ynl BK819 hg;have NB820_819:=yng BK819 hg;replace BK819:=ybb BK819 hb;clear hb hbox hg))
 (try simp only [Act.put,List.setIfInBounds_toArray,List.set_cons_zero,List.set_cons_succ])
 go_cut [26] (fun v26 wc => ∃ (kq : Nat) (x26_4 : Bool),v26=.bool x26_4∧Aside0 (psalteryref11_Put.j0 kq l1 l2 a3 x26_4 a0_0 l0_1=some (r1,r2,r3))∧Aside0 (kq≤k)∧Aside0 (Kd.V (Kd.int .i64) 3 wc w.heap.size (fun k_=>(P0_1_ k_∨w.heap.size≤k_)∧k_≠gb819∧k_≠gb820) (.slice A0_1 l0_1.length c0_1) l0_1)∧Aside0 (wc.heap[gb819]? = some (.cells #[.int .u64 a0_0,(.slice A0_1 l0_1.length c0_1)] 33 (0,0)))∧Aside0 (wc.heap[gb820]? = some (.cells #[.int .u64 0,(.slice none 0 0)] 33 (0,0)))∧Aside0 (Below w.heap.size w wc))
 case first =>
  have H:=HC5.out;clear HC5
  replace H:=ybi H;obtain ⟨t821,A8,H⟩:=H
  by_cases c9 : t821=true
  ·
   subst c9
   rw [if_pos rfl] at H
   by_cases c10 : a3=true
   ·
    subst c10
    rw [if_pos rfl] at H
    have H' := zm H
    clear H
    go_wp2_with (first|((with_reducible refine gate_callee (f:=46) rfl ?_);refine ygl 16 Try.func46 #[.slice A1 l1.length c1] ?_;(with_reducible refine (psalteryref11_Right.calls k _ _ l1 true _ ?side1 HC1.out A8.out).mono ?_);(case side1=>exact ycb HR1);rintro e w' ⟨rfl,⟨nd,rfl⟩⟩;refine ⟨_,rfl, ?_⟩))
    go_meet
    case rel=>exact ⟨_,(false),yq,H',⟨yo⟩,⟨yV0 HO0_1⟩,⟨yk BK819⟩,⟨yk BK820⟩,⟨yhb⟩⟩
   ·
    replace c10:=Bool.eq_false_iff.mpr c10
    subst c10
    rw [ynf] at H
    replace H:=ybi H;obtain ⟨t822,A11,H⟩:=H
    have H' := zm H
    clear H
    go_wp2_with (first|((with_reducible refine gate_callee (f:=46) rfl ?_);refine ygl 16 Try.func46 #[.slice A1 l1.length c1] ?_;(with_reducible refine (psalteryref11_Right.calls k _ _ l1 true _ ?side1 HC1.out A8.out).mono ?_);(case side1=>exact ycb HR1);rintro e w' ⟨rfl,⟨nd,rfl⟩⟩;refine ⟨_,rfl, ?_⟩)|(go_at_call 46;(with_reducible refine (psalteryref11_Right.calls k _ _ l2 t822 _ ?side1 HC2.out A11.out).mono ?_);(case side1=>exact ycb HR2);rintro e w' ⟨rfl,⟨nd,rfl⟩⟩))
    go_meet
    case rel=>exact ⟨_,(!t822),yq,H',⟨yo⟩,⟨yV0 HO0_1⟩,⟨yk BK819⟩,⟨yk BK820⟩,⟨yhb⟩⟩
  ·
   replace c9:=Bool.eq_false_iff.mpr c9
   subst c9
   rw [ynf] at H
   have H' := zm H
   clear H
   go_wp2_with (first|((with_reducible refine gate_callee (f:=46) rfl ?_);refine ygl 16 Try.func46 #[.slice A1 l1.length c1] ?_;(with_reducible refine (psalteryref11_Right.calls k _ _ l1 false _ ?side1 HC1.out A8.out).mono ?_);(case side1=>exact ycb HR1);rintro e w' ⟨rfl,⟨nd,rfl⟩⟩;refine ⟨_,rfl, ?_⟩))
   go_meet
   case rel=>exact ⟨_,(true),yq,H',⟨yo⟩,⟨yV0 HO0_1⟩,⟨yk BK819⟩,⟨yk BK820⟩,⟨yhb⟩⟩
 case rest =>
  clear HC5
  try clear c1
  try clear c2
  obtain ⟨kq,x26_4,rfl,HA,HJ4,HO_820001,BK819,BK820,HB⟩:=hcut
  obtain ⟨kj4,rfl⟩:=ysu kq (fun h=>by subst h;exact absurd HA.out (by simp [psalteryref11_Put.j0]))
  have H:=HA.out;clear HA
  simp only [psalteryref11_Put.j0] at H
  by_cases c12 : x26_4=true
  ·
   subst c12
   rw [if_pos rfl] at H
   simp only [Option.some.injEq,Prod.mk.injEq] at H
   obtain ⟨rfl,rfl,rfl⟩:=H
   have:=NB819_820.out
   have:=NB820_819.out
   obtain ⟨hcz14_0,hcz14_1,hfz14_0,hfz14_1⟩:=yc2 BK819
   obtain ⟨hcz15_0,hcz15_1,hfz15_0,hfz15_1⟩:=yc2 BK820
   go_wp2
   refine bodyPost_ret (results_ct rfl _ _ gb820 33 #[.int .u64 a0_0, .slice A0_1 l0_1.length c0_1] (0,0) _ rfl (ykp BK820) Try.underlying33 rfl (by kernel_rfl)) rfl ?_
   exact ⟨_,ye,yV0 HO_820001,yhb⟩
  ·
   replace c12:=Bool.eq_false_iff.mpr c12
   subst c12
   rw [ynf] at H
   have H' := zm H
   clear H
   have:=NB819_820.out
   have:=NB820_819.out
   obtain ⟨hcz17_0,hcz17_1,hfz17_0,hfz17_1⟩:=yc2 BK819
   go_wp2_with (first|((with_reducible refine gate_dst (N:=10) rfl ?_);refine ybx 10 #[.int .u64 0, .slice none 0 0] 33 ?_;intro gb823 hg w18 hbox hb;replace HO_820001:=yVe HO_820001 hg hb;have BK823:=zm (hbox);have GW823:=ygw hg;have GE823:=ygw hg;replace HB:=ybs hb;have NB819_823:=ynl BK819 hg;have NB823_819:=yng BK819 hg;replace BK819:=ybb BK819 hb;have NB820_823:=ynl BK820 hg;have NB823_820:=yng BK820 hg;replace BK820:=ybb BK820 hb;clear hb hbox hg;have:=NB823_819.out;have:=NB819_823.out;have:=NB823_820.out;have:=NB820_823.out;obtain ⟨hcz21_0,hcz21_1,hfz21_0,hfz21_1⟩:=yc2 BK823))
   go_loopg [11] kj4 (fun kq v11 w' => ∃ (x11_2 : Int) (x821000_2 : Int) (x824000_2 : Int) (x824001_2 : List Int) (u824001 : Value),v11=.int .i64 x11_2∧Aside0 (psalteryref11_Put.l0 kq l1 l2 a3 x11_2 a0_0 l0_1 x824000_2 x824001_2=some (r1,r2,r3))∧Aside0 (kq≤kj4)∧Aside0 (Kd.V (Kd.int .i64) 3 w' w.heap.size (fun k_=>(P0_1_ k_∨w.heap.size≤k_)∧k_≠gb819∧k_≠gb820∧k_≠gb823) (.slice A0_1 l0_1.length c0_1) l0_1)∧Aside0 (Kd.V (Kd.int .i64) 3 w' w.heap.size (fun k_=>(P0_1_ k_∨w.heap.size≤k_)∧k_≠gb819∧k_≠gb820∧k_≠gb823) u824001 x824001_2)∧Aside0 (w'.heap[gb819]? = some (.cells #[.int .u64 a0_0,(.slice A0_1 l0_1.length c0_1)] 33 (0,0)))∧Aside0 (w'.heap[gb820]? = some (.cells #[.int .u64 x821000_2,(.slice none 0 0)] 33 (0,0)))∧Aside0 (w'.heap[gb823]? = some (.cells #[.int .u64 x824000_2,u824001] 33 (0,0)))∧Aside0 (Below w.heap.size w w'))
   case atStart=>exact ⟨(0),(0),(a0_0),(l0_1),(.slice A0_1 l0_1.length c0_1),yq,H',⟨Nat.le_refl _⟩,⟨yV0 HO_820001⟩,⟨yV0 HO_820001⟩,⟨yk BK819⟩,⟨yk BK820⟩,⟨ykp BK823⟩,⟨yhb⟩⟩
   case round =>
    clear H'
    try clear hcz14_0
    try clear hcz14_1
    try clear hcz15_0
    try clear hcz15_1
    try clear hcz17_0
    try clear hcz17_1
    try clear hcz21_0
    try clear hcz21_1
    try clear hfz14_0
    try clear hfz14_1
    try clear hfz15_0
    try clear hfz15_1
    try clear hfz17_0
    try clear hfz17_1
    try clear hfz21_0
    try clear hfz21_1
    obtain ⟨x11_2,x821000_2,x824000_2,x824001_2,u824001,rfl,HA,HK2,HO_820001,HO_824001,BK819,BK820,BK823,HB⟩:=hrel
    obtain ⟨k2,rfl⟩:=ysu gk (fun h=>by subst h;exact absurd HA.out (by simp [psalteryref11_Put.l0]))
    have H:=HA.out;clear HA
    simp only [psalteryref11_Put.l0] at H
    by_cases c22 : x11_2 < 5
    ·
     rw [if_pos c22] at H
     have c22b0 : decide (x11_2 < 5)=true:=decide_eq_true c22
     clear c22;have HC23:=zm H;clear H
     go_upto_if 35 with (fail)
     go_cut [13] (fun v13 wc => ∃ (kq : Nat) (x13_22 : Bool) (x821000_22 : Int) (x824000_22 : Int) (x824001_22 : List Int) (u824001 : Value),v13=.bool x13_22∧Aside0 (psalteryref11_Put.j3 kq l1 l2 a3 x11_2 x13_22 a0_0 l0_1 x824000_22 x824001_22=some (r1,r2,r3))∧Aside0 (kq≤k2)∧Aside0 (Kd.V (Kd.int .i64) 3 wc w.heap.size (fun k_=>(P0_1_ k_∨w.heap.size≤k_)∧k_≠gb819∧k_≠gb820∧k_≠gb823) (.slice A0_1 l0_1.length c0_1) l0_1)∧Aside0 (Kd.V (Kd.int .i64) 3 wc w.heap.size (fun k_=>(P0_1_ k_∨w.heap.size≤k_)∧k_≠gb819∧k_≠gb820∧k_≠gb823) u824001 x824001_22)∧Aside0 (wc.heap[gb819]? = some (.cells #[.int .u64 a0_0,(.slice A0_1 l0_1.length c0_1)] 33 (0,0)))∧Aside0 (wc.heap[gb820]? = some (.cells #[.int .u64 x821000_22,(.slice none 0 0)] 33 (0,0)))∧Aside0 (wc.heap[gb823]? = some (.cells #[.int .u64 x824000_22,u824001] 33 (0,0)))∧Aside0 (Below w.heap.size w wc))
     case first =>
      have H:=HC23.out;clear HC23
      by_cases c24 : a3=true
      ·
       subst c24
       rw [if_pos rfl] at H
       have H' := zm H
       clear H
       go_wp2
       go_meet
       case rel=>exact ⟨_,(true),(x821000_2),(x824000_2),(x824001_2),(u824001),yq,H',⟨yom2 HJ4 HK2⟩,⟨yr HO_820001⟩,⟨yr HO_824001⟩,⟨yk BK819⟩,⟨yk BK820⟩,⟨yk BK823⟩,⟨yhb⟩⟩
      ·
       replace c24:=Bool.eq_false_iff.mpr c24
       subst c24
       rw [ynf] at H
       replace H:=yif H;obtain ⟨c25,H⟩:=H
       have c25b0 : decide (0≤x11_2)=true:=decide_eq_true c25
       clear c25
       (first|rw [c25b0]|(simp only [i64_w,i32_w];rw [c25b0])|skip)
       replace H:=yif H;obtain ⟨c26,H⟩:=H
       have c26b0 : decide (x11_2 < (l1.length : Int))=true:=decide_eq_true c26
       clear c26
       replace H:=yif H;obtain ⟨c27,H⟩:=H
       have c27b0 : decide (x11_2 < (l2.length : Int))=true:=decide_eq_true c27
       clear c27;have HC28:=zm H;clear H
       try go_wp2
       replace HO_820001:=zm (zC HO_820001.out)
       replace HO_824001:=zm (zC HO_824001.out)
       replace BK819:=zm (zj BK819.out)
       replace BK820:=zm (zj BK820.out)
       replace BK823:=zm (zj BK823.out)
       replace HB:=zm (zf HB.out)
       have p824 : 0≤(x11_2 : Int):=yt
       have q824 : x11_2 < (l1.length : Int):=yt
       obtain ⟨ad824,e824,hx824_0⟩:=Kd.at_int HR1.out x11_2 p824 q824
       have hw824_0:=hx824_0
       cases e824
       replace hx824_0:=yhx HB hx824_0
       replace p824:=eq_true p824
       replace q824:=eq_true q824
       have p825 : 0≤(x11_2 : Int):=yt
       have q825 : x11_2 < (l2.length : Int):=yt
       obtain ⟨ad825,e825,hx825_0⟩:=Kd.at_int HR2.out x11_2 p825 q825
       have hw825_0:=hx825_0
       cases e825
       replace hx825_0:=yhx HB hx825_0
       replace p825:=eq_true p825
       replace q825:=eq_true q825
       refine yst (fun w' => w'.cell? (ad824.add (x11_2).toNat)=some (.int .i64 (rd l1 x11_2))∧w'.cell? (ad825.add (x11_2).toNat)=some (.int .i64 (rd l2 x11_2))) [] 11 psalteryref11_Put.tab10 psalteryref11_Put.bits10 (fun hHeld HT_ HW_ => ?_)
       generalize wr.drew=w29 at HO_820001 HO_824001 BK819 BK820 BK823 HB hx824_0 hx825_0 hHeld ⊢
       refine yp 0 36 HT_ ?_
       refine yp 1 37 HT_ ?_
       refine yp 2 38 HT_ ?_
       refine yp 4 40 HT_ ?_
       refine yp 5 41 HT_ ?_
       refine yp 6 42 HT_ ?_
       refine yl 3 39 HT_ HW_ hHeld ?_
       refine yl 7 43 HT_ HW_ hHeld ?_
       refine yp 8 44 HT_ ?_
       refine yp 9 45 HT_ ?_
       refine yp 10 14 HT_ ?_
       refine done_ (done_of HT_.out (by kernel_rfl)) ?_
       go_upto_region 11 with (fail)
       go_cut [51] (fun v51 wc => ∃ (kq : Nat) (x51_27 : Bool),v51=.bool x51_27∧Aside0 (psalteryref11_Put.j2 kq l1 l2 false x11_2 false (wrap64 ((wrap64 ((rd l1 x11_2) - (rd l2 x11_2)))+3)) x51_27 a0_0 l0_1 x824000_2 x824001_2=some (r1,r2,r3))∧Aside0 (kq≤k2)∧Aside0 (Kd.V (Kd.int .i64) 3 wc w.heap.size (fun k_=>(P0_1_ k_∨w.heap.size≤k_)∧k_≠gb819∧k_≠gb820∧k_≠gb823) (.slice A0_1 l0_1.length c0_1) l0_1)∧Aside0 (Kd.V (Kd.int .i64) 3 wc w.heap.size (fun k_=>(P0_1_ k_∨w.heap.size≤k_)∧k_≠gb819∧k_≠gb820∧k_≠gb823) u824001 x824001_2)∧Aside0 (wc.heap[gb819]? = some (.cells #[.int .u64 a0_0,(.slice A0_1 l0_1.length c0_1)] 33 (0,0)))∧Aside0 (wc.heap[gb820]? = some (.cells #[.int .u64 x821000_2,(.slice none 0 0)] 33 (0,0)))∧Aside0 (wc.heap[gb823]? = some (.cells #[.int .u64 x824000_2,u824001] 33 (0,0)))∧Aside0 (Below w.heap.size w wc))
       case first =>
        have H:=HC28.out;clear HC28
        by_cases c30 : (wrap64 ((wrap64 ((rd l1 x11_2) - (rd l2 x11_2)))+3)) < 0
        ·
         rw [if_pos c30] at H
         have c30b0 : decide ((wrap64 ((wrap64 ((rd l1 x11_2) - (rd l2 x11_2)))+3)) < 0)=true:=decide_eq_true c30
         clear c30
         (first|rw [c30b0]|(simp only [i64_w,i32_w];rw [c30b0])|skip)
         have H' := zm H
         clear H
         go_wp2
         go_meet
         case rel=>exact ⟨_,(true),yq,H',⟨yom2 HJ4 HK2⟩,⟨yr HO_820001⟩,⟨yr HO_824001⟩,⟨yk BK819⟩,⟨yk BK820⟩,⟨yk BK823⟩,⟨yhb⟩⟩
        ·
         rw [if_neg c30] at H
         have c30b0 : decide ((wrap64 ((wrap64 ((rd l1 x11_2) - (rd l2 x11_2)))+3)) < 0)=false:=decide_eq_false c30
         clear c30
         (first|rw [c30b0]|(simp only [i64_w,i32_w];rw [c30b0])|skip)
         have H' := zm H
         clear H
         go_wp2
         go_meet
         case rel=>exact ⟨_,(decide ((wrap64 ((wrap64 ((rd l1 x11_2) - (rd l2 x11_2)))+3)) > 6)),yq,H',⟨yom2 HJ4 HK2⟩,⟨yr HO_820001⟩,⟨yr HO_824001⟩,⟨yk BK819⟩,⟨yk BK820⟩,⟨yk BK823⟩,⟨yhb⟩⟩
       case rest =>
        clear HC28
        try clear c22b0
        try clear c25b0
        try clear c26b0
        try clear c27b0
        try clear hx824_0
        try clear hx825_0
        try clear p824
        try clear p825
        try clear q824
        try clear q825
        obtain ⟨kq,x51_27,rfl,HA,HJ27,HO_820001,HO_824001,BK819,BK820,BK823,HB⟩:=hcut
        obtain ⟨kj27,rfl⟩:=ysu kq (fun h=>by subst h;exact absurd HA.out (by simp [psalteryref11_Put.j2]))
        have H:=HA.out;clear HA
        simp only [psalteryref11_Put.j2] at H
        by_cases c31 : x51_27=true
        ·
         subst c31
         rw [if_pos rfl] at H
         replace H:=ybi H;obtain ⟨⟨t826,t827,t830⟩,A32,H⟩:=H
         try dsimp only at H
         by_cases c33 : t830=0
         ·
          rw [if_pos c33] at H
          have c33b0 : (t830 == 0)=true:=beq_iff_eq.mpr c33
          have c33b1 : (t830 != 0)=false:=bne_eq_false_iff_eq.mpr c33
          clear c33
          have H' := zm H
          clear H
          have:=NB823_819.out
          have:=NB819_823.out
          have:=NB823_820.out
          have:=NB820_823.out
          obtain ⟨_,_,_,_⟩:=yc2 BK823
          obtain ⟨Ao37,co37,eo37⟩:=Kd.V_slice HO_824001.out
          subst eo37
          go_wp2_with (first|((with_reducible refine gate_callee (f:=19) rfl ?_);refine ygl 57 Try.func19 #[.agg #[.int .u64 x824000_2, .slice Ao37 x824001_2.length co37], .int .i64 7, .int .i64 (7+1), .int .i64 8] ?_;(with_reducible refine (psalteryref05_Put.calls kj27 x824000_2 (fun k_=>((P0_1_ k_∨w.heap.size≤k_)∧(k_≠gb819∧(k_≠gb820∧k_≠gb823)))) _ _ x824001_2 7 (7+1) 8 t826 t827 t830 _ HO_824001.out A32.out).mono ?_);rintro e w38 ⟨v828,rfl,ho0,hb⟩;refine ⟨_,rfl, ?_⟩;replace HO_820001:=yVb HO_820001 hb;replace HO_824001:=yVb HO_824001 hb;have HO829:=yho (fun k_=>(P0_1_ k_∨w.heap.size≤k_)∧k_≠gb819∧k_≠gb820∧k_≠gb823) ho0 (fun k_ hk_=>⟨Or.elim hk_ (fun hs_=>hs_.1) (fun hn_=>(.inr (Nat.le_trans (zE yhb) hn_))),yoB BK819 hk_,yoB BK820 hk_,yoB BK823 hk_⟩);replace BK819:=ybb BK819 hb;replace BK820:=ybb BK820 hb;replace BK823:=ybb BK823 hb;replace HB:=ybs hb;(try clear hb);(try clear ho0);obtain ⟨_,_,_,_⟩:=yc2 BK823;obtain ⟨Ao40,co40,eo40⟩:=Kd.V_slice HO829.out;subst eo40))
          go_meet
          case rel=>exact ⟨_,(true),(x821000_2),(t826),(t827),(.slice Ao40 t827.length co40),yq,H',⟨yom3 HJ4 HK2 HJ27⟩,⟨yV0 HO_820001⟩,⟨yV0 HO829⟩,⟨yk BK819⟩,⟨yk BK820⟩,⟨ykp BK823⟩,⟨yhb⟩⟩
         ·
          rw [if_neg c33] at H
          have c33b0 : (t830 == 0)=false:=beq_eq_false_iff_ne.mpr c33
          have c33b1 : (t830 != 0)=true:=bne_iff_ne.mpr c33
          simp only [Option.some.injEq,Prod.mk.injEq] at H
          obtain ⟨rfl,rfl,rfl⟩:=H
          have:=NB823_819.out
          have:=NB819_823.out
          have:=NB823_820.out
          have:=NB820_823.out
          obtain ⟨_,_,_,_⟩:=yc2 BK823
          obtain ⟨Ao44,co44,eo44⟩:=Kd.V_slice HO_824001.out
          subst eo44
          go_wp2_with (first|((with_reducible refine gate_callee (f:=19) rfl ?_);refine ygl 57 Try.func19 #[.agg #[.int .u64 x824000_2, .slice Ao44 x824001_2.length co44], .int .i64 7, .int .i64 (7+1), .int .i64 8] ?_;(with_reducible refine (psalteryref05_Put.calls kj27 x824000_2 (fun k_=>((P0_1_ k_∨w.heap.size≤k_)∧(k_≠gb819∧(k_≠gb820∧k_≠gb823)))) _ _ x824001_2 7 (7+1) 8 t826 t827 t830 _ HO_824001.out A32.out).mono ?_);rintro e w45 ⟨v828,rfl,ho0,hb⟩;refine ⟨_,rfl, ?_⟩;replace HO_820001:=yVb HO_820001 hb;replace HO_824001:=yVb HO_824001 hb;have HO829:=yho (fun k_=>(P0_1_ k_∨w.heap.size≤k_)∧k_≠gb819∧k_≠gb820∧k_≠gb823) ho0 (fun k_ hk_=>⟨Or.elim hk_ (fun hs_=>hs_.1) (fun hn_=>(.inr (Nat.le_trans (zE yhb) hn_))),yoB BK819 hk_,yoB BK820 hk_,yoB BK823 hk_⟩);replace BK819:=ybb BK819 hb;replace BK820:=ybb BK820 hb;replace BK823:=ybb BK823 hb;replace HB:=ybs hb;(try clear hb);(try clear ho0);obtain ⟨_,_,_,_⟩:=yc2 BK823;obtain ⟨Ao47,co47,eo47⟩:=Kd.V_slice HO829.out;subst eo47;have:=NB819_820.out;have:=NB820_819.out;obtain ⟨_,_,_,_⟩:=yc2 BK819;obtain ⟨_,_,_,_⟩:=yc2 BK820))
          refine bodyPost_ret (results_ct rfl _ _ gb820 33 #[.int .u64 a0_0, .slice A0_1 l0_1.length c0_1] (0,0) _ rfl (ykp BK820) Try.underlying33 rfl (by kernel_rfl)) rfl ?_
          exact ⟨_,ye,yV0 HO_820001,yhb⟩
        ·
         replace c31:=Bool.eq_false_iff.mpr c31
         subst c31
         rw [ynf] at H
         replace H:=ybi H;obtain ⟨⟨t831,t832,t835⟩,A51,H⟩:=H
         try dsimp only at H
         by_cases c52 : t835=0
         ·
          rw [if_pos c52] at H
          have c52b0 : (t835 == 0)=true:=beq_iff_eq.mpr c52
          have c52b1 : (t835 != 0)=false:=bne_eq_false_iff_eq.mpr c52
          clear c52
          have H' := zm H
          clear H
          have:=NB823_819.out
          have:=NB819_823.out
          have:=NB823_820.out
          have:=NB820_823.out
          obtain ⟨_,_,_,_⟩:=yc2 BK823
          obtain ⟨Ao56,co56,eo56⟩:=Kd.V_slice HO_824001.out
          subst eo56
          go_wp2_with (first|((with_reducible refine gate_callee (f:=19) rfl ?_);refine ygl 57 Try.func19 #[.agg #[.int .u64 x824000_2, .slice Ao56 x824001_2.length co56], .int .i64 (wrap64 ((wrap64 ((rd l1 x11_2) - (rd l2 x11_2)))+3)), .int .i64 (wrap64 ((wrap64 ((wrap64 ((rd l1 x11_2) - (rd l2 x11_2)))+3))+1)), .int .i64 8] ?_;(with_reducible refine (psalteryref05_Put.calls kj27 x824000_2 (fun k_=>((P0_1_ k_∨w.heap.size≤k_)∧(k_≠gb819∧(k_≠gb820∧k_≠gb823)))) _ _ x824001_2 (wrap64 ((wrap64 ((rd l1 x11_2) - (rd l2 x11_2)))+3)) (wrap64 ((wrap64 ((wrap64 ((rd l1 x11_2) - (rd l2 x11_2)))+3))+1)) 8 t831 t832 t835 _ HO_824001.out A51.out).mono ?_);rintro e w57 ⟨v833,rfl,ho0,hb⟩;refine ⟨_,rfl, ?_⟩;replace HO_820001:=yVb HO_820001 hb;replace HO_824001:=yVb HO_824001 hb;have HO834:=yho (fun k_=>(P0_1_ k_∨w.heap.size≤k_)∧k_≠gb819∧k_≠gb820∧k_≠gb823) ho0 (fun k_ hk_=>⟨Or.elim hk_ (fun hs_=>hs_.1) (fun hn_=>(.inr (Nat.le_trans (zE yhb) hn_))),yoB BK819 hk_,yoB BK820 hk_,yoB BK823 hk_⟩);replace BK819:=ybb BK819 hb;replace BK820:=ybb BK820 hb;replace BK823:=ybb BK823 hb;replace HB:=ybs hb;(try clear hb);(try clear ho0);obtain ⟨_,_,_,_⟩:=yc2 BK823;obtain ⟨Ao59,co59,eo59⟩:=Kd.V_slice HO834.out;subst eo59))
          go_meet
          case rel=>exact ⟨_,(false),(x821000_2),(t831),(t832),(.slice Ao59 t832.length co59),yq,H',⟨yom3 HJ4 HK2 HJ27⟩,⟨yV0 HO_820001⟩,⟨yV0 HO834⟩,⟨yk BK819⟩,⟨yk BK820⟩,⟨ykp BK823⟩,⟨yhb⟩⟩
         ·
          rw [if_neg c52] at H
          have c52b0 : (t835 == 0)=false:=beq_eq_false_iff_ne.mpr c52
          have c52b1 : (t835 != 0)=true:=bne_iff_ne.mpr c52
          simp only [Option.some.injEq,Prod.mk.injEq] at H
          obtain ⟨rfl,rfl,rfl⟩:=H
          have:=NB823_819.out
          have:=NB819_823.out
          have:=NB823_820.out
          have:=NB820_823.out
          obtain ⟨_,_,_,_⟩:=yc2 BK823
          obtain ⟨Ao63,co63,eo63⟩:=Kd.V_slice HO_824001.out
          subst eo63
          go_wp2_with (first|((with_reducible refine gate_callee (f:=19) rfl ?_);refine ygl 57 Try.func19 #[.agg #[.int .u64 x824000_2, .slice Ao63 x824001_2.length co63], .int .i64 (wrap64 ((wrap64 ((rd l1 x11_2) - (rd l2 x11_2)))+3)), .int .i64 (wrap64 ((wrap64 ((wrap64 ((rd l1 x11_2) - (rd l2 x11_2)))+3))+1)), .int .i64 8] ?_;(with_reducible refine (psalteryref05_Put.calls kj27 x824000_2 (fun k_=>((P0_1_ k_∨w.heap.size≤k_)∧(k_≠gb819∧(k_≠gb820∧k_≠gb823)))) _ _ x824001_2 (wrap64 ((wrap64 ((rd l1 x11_2) - (rd l2 x11_2)))+3)) (wrap64 ((wrap64 ((wrap64 ((rd l1 x11_2) - (rd l2 x11_2)))+3))+1)) 8 t831 t832 t835 _ HO_824001.out A51.out).mono ?_);rintro e w64 ⟨v833,rfl,ho0,hb⟩;refine ⟨_,rfl, ?_⟩;replace HO_820001:=yVb HO_820001 hb;replace HO_824001:=yVb HO_824001 hb;have HO834:=yho (fun k_=>(P0_1_ k_∨w.heap.size≤k_)∧k_≠gb819∧k_≠gb820∧k_≠gb823) ho0 (fun k_ hk_=>⟨Or.elim hk_ (fun hs_=>hs_.1) (fun hn_=>(.inr (Nat.le_trans (zE yhb) hn_))),yoB BK819 hk_,yoB BK820 hk_,yoB BK823 hk_⟩);replace BK819:=ybb BK819 hb;replace BK820:=ybb BK820 hb;replace BK823:=ybb BK823 hb;replace HB:=ybs hb;(try clear hb);(try clear ho0);obtain ⟨_,_,_,_⟩:=yc2 BK823;obtain ⟨Ao66,co66,eo66⟩:=Kd.V_slice HO834.out;subst eo66;have:=NB819_820.out;have:=NB820_819.out;obtain ⟨_,_,_,_⟩:=yc2 BK819;obtain ⟨_,_,_,_⟩:=yc2 BK820))
          refine bodyPost_ret (results_ct rfl _ _ gb820 33 #[.int .u64 a0_0, .slice A0_1 l0_1.length c0_1] (0,0) _ rfl (ykp BK820) Try.underlying33 rfl (by kernel_rfl)) rfl ?_
          exact ⟨_,ye,yV0 HO_820001,yhb⟩
     case rest =>
      clear HC23
      try clear c22b0
      obtain ⟨kq,x13_22,x821000_22,x824000_22,x824001_22,u824001,rfl,HA,HJ22,HO_820001,HO_824001,BK819,BK820,BK823,HB⟩:=hcut
      obtain ⟨kj22,rfl⟩:=ysu kq (fun h=>by subst h;exact absurd HA.out (by simp [psalteryref11_Put.j3]))
      have H:=HA.out;clear HA
      simp only [psalteryref11_Put.j3] at H
      by_cases c70 : x13_22=true
      ·
       subst c70
       rw [if_pos rfl] at H
       replace H:=yif H;obtain ⟨c71,H⟩:=H
       have c71b0 : decide (0≤x11_2)=true:=decide_eq_true c71
       clear c71
       replace H:=yif H;obtain ⟨c72,H⟩:=H
       have c72b0 : decide (x11_2 < (l1.length : Int))=true:=decide_eq_true c72
       clear c72
       replace H:=ybi H;obtain ⟨⟨t837,t838,t841⟩,A73,H⟩:=H
       try dsimp only at H
       by_cases c74 : t841=0
       ·
        rw [if_pos c74] at H
        have c74b0 : (t841 == 0)=true:=beq_iff_eq.mpr c74
        have c74b1 : (t841 != 0)=false:=bne_eq_false_iff_eq.mpr c74
        clear c74
        have H' := zm H
        clear H
        try go_wp2
        replace HO_820001:=zm (zC HO_820001.out)
        replace HO_824001:=zm (zC HO_824001.out)
        replace BK819:=zm (zj BK819.out)
        replace BK820:=zm (zj BK820.out)
        replace BK823:=zm (zj BK823.out)
        replace HB:=zm (zf HB.out)
        have p836 : 0≤(x11_2 : Int):=yt
        have q836 : x11_2 < (l1.length : Int):=yt
        obtain ⟨ad836,e836,hx836_0⟩:=Kd.at_int HR1.out x11_2 p836 q836
        have hw836_0:=hx836_0
        cases e836
        replace hx836_0:=yhx HB hx836_0
        replace p836:=eq_true p836
        replace q836:=eq_true q836
        obtain ⟨Ao76,co76,eo76⟩:=Kd.V_slice HO_824001.out
        (first|subst eo76|(injection eo76 with f1_ f2_ f3_;have f4_:=f1_.symm;have f5_:=f3_.symm;clear f1_ f2_ f3_;subst f4_;subst f5_))
        refine yst (fun w' => w'.cell? ⟨gb823,0,none⟩=some (.int .u64 x824000_22)∧w'.cell? ⟨gb823,1,none⟩=some (.slice Ao76 x824001_22.length co76)∧w'.cell? (ad836.add (x11_2).toNat)=some (.int .i64 (rd l1 x11_2))) [10] 12 psalteryref11_Put.tab18 psalteryref11_Put.bits18 (fun hHeld HT_ HW_ => ?_)
        generalize wc.drew=w75 at HO_820001 HO_824001 BK819 BK820 BK823 HB hx836_0 hHeld ⊢
        refine yp 1 67 HT_ ?_
        refine yp 2 68 HT_ ?_
        refine yp 3 69 HT_ ?_
        refine yl 0 66 HT_ HW_ hHeld ?_
        refine yl 4 70 HT_ HW_ hHeld ?_
        refine yp 5 71 HT_ ?_
        refine yw 6 72 HT_ (fun K hK => ?_)
        refine ygs Try.func38 #[.agg #[.int .u64 x824000_22, .slice Ao76 x824001_22.length co76], .int .u64 (IntKind.u64.wrap (rd l1 x11_2)), .int .u64 45] ?_
        with_reducible refine (psalteryref05_PutNum.calls kj22 x824000_22 (fun k_=>((P0_1_ k_∨w.heap.size≤k_)∧(k_≠gb819∧(k_≠gb820∧k_≠gb823)))) _ _ x824001_22 (IntKind.u64.wrap (rd l1 x11_2)) 45 t837 t838 t841 _ ?side1 A73.out).mono ?_
        (case side1=>exact HO_824001.out)
        rintro e w77 ⟨v839,rfl,ho0,hb⟩
        refine ⟨_,rfl, ?_⟩
        replace HO_820001:=yVb HO_820001 hb
        replace HO_824001:=yVb HO_824001 hb
        have HO840:=yho (fun k_=>(P0_1_ k_∨w.heap.size≤k_)∧k_≠gb819∧k_≠gb820∧k_≠gb823) ho0 (fun k_ hk_=>⟨Or.elim hk_ (fun hs_=>hs_.1) (fun hn_=>(.inr (Nat.le_trans (zE yhb) hn_))),yoB BK819 hk_,yoB BK820 hk_,yoB BK823 hk_⟩)
        replace BK819:=ybb BK819 hb
        replace BK820:=ybb BK820 hb
        replace BK823:=ybb BK823 hb
        replace HB:=ybs hb
        (try clear hb)
        (try clear ho0)
        obtain ⟨Ao79,co79,eo79⟩:=Kd.V_slice HO840.out
        (first|subst eo79|(injection eo79 with f1_ f2_ f3_;have f4_:=f1_.symm;have f5_:=f3_.symm;clear f1_ f2_ f3_;subst f4_;subst f5_))
        refine hK.out _ _ yH (fun hHeld => ?_)
        clear hK K
        refine ym (some 72) ?_
        refine yp 7 65 HT_ ?_
        refine yp 8 73 HT_ ?_
        refine yp 9 74 HT_ ?_
        refine last_ (i:=10) (N:=none) #[true,true,true,true,true,true,true,true,true,true,true,false] rfl rfl (one_of HT_.out (by kernel_rfl)) (by decide) (fun K hK => ?_)
        have hs78 : w77.cell? ⟨gb823,0,none⟩=some (.int .u64 x824000_22):=(zs BK823.out 0).trans rfl
        have hfs78:=zx BK823.out 0
        have:=NB819_823.out
        have:=NB820_823.out
        have:=NB823_819.out
        have:=NB823_820.out
        have hs80 : w77.cell? ⟨gb823,1,none⟩=some (.slice Ao76 x824001_22.length co76):=(zs BK823.out 1).trans rfl
        have hfs80:=zx BK823.out 1
        have:=NB819_823.out
        have:=NB820_823.out
        have:=NB823_819.out
        have:=NB823_820.out
        refine skip_ (w1 := ?_) (by rfl) rfl ?_ ?_
        rotate_left
        ·
         go_simp
         rfl
        refine hK.out _ _ ?_
        clear hK K
        refine yp 11 12 HT_ ?_
        refine done_ (done_of HT_.out (by kernel_rfl)) ?_
        try go_wp2
        go_roundg kj22
        case measure=>exact yom3 HJ4 HK2 HJ22
        case rel=>exact ⟨(wrap64 (x11_2+1)),(x821000_22),(t837),(t838),(.slice Ao79 t838.length co79),yq,H',⟨yom3 HJ4 HK2 HJ22⟩,⟨yV0 HO_820001⟩,⟨yV0 HO840⟩,⟨yk BK819⟩,⟨yk BK820⟩,⟨ykp BK823⟩,⟨yhb⟩⟩
       ·
        rw [if_neg c74] at H
        have c74b0 : (t841 == 0)=false:=beq_eq_false_iff_ne.mpr c74
        have c74b1 : (t841 != 0)=true:=bne_iff_ne.mpr c74
        simp only [Option.some.injEq,Prod.mk.injEq] at H
        obtain ⟨rfl,rfl,rfl⟩:=H
        try go_wp2
        replace HO_820001:=zm (zC HO_820001.out)
        replace HO_824001:=zm (zC HO_824001.out)
        replace BK819:=zm (zj BK819.out)
        replace BK820:=zm (zj BK820.out)
        replace BK823:=zm (zj BK823.out)
        replace HB:=zm (zf HB.out)
        have p836 : 0≤(x11_2 : Int):=yt
        have q836 : x11_2 < (l1.length : Int):=yt
        obtain ⟨ad836,e836,hx836_0⟩:=Kd.at_int HR1.out x11_2 p836 q836
        have hw836_0:=hx836_0
        cases e836
        replace hx836_0:=yhx HB hx836_0
        replace p836:=eq_true p836
        replace q836:=eq_true q836
        obtain ⟨Ao82,co82,eo82⟩:=Kd.V_slice HO_824001.out
        (first|subst eo82|(injection eo82 with f1_ f2_ f3_;have f4_:=f1_.symm;have f5_:=f3_.symm;clear f1_ f2_ f3_;subst f4_;subst f5_))
        refine yst (fun w' => w'.cell? ⟨gb823,0,none⟩=some (.int .u64 x824000_22)∧w'.cell? ⟨gb823,1,none⟩=some (.slice Ao82 x824001_22.length co82)∧w'.cell? (ad836.add (x11_2).toNat)=some (.int .i64 (rd l1 x11_2))) [10] 12 psalteryref11_Put.tab18 psalteryref11_Put.bits18 (fun hHeld HT_ HW_ => ?_)
        generalize wc.drew=w81 at HO_820001 HO_824001 BK819 BK820 BK823 HB hx836_0 hHeld ⊢
        refine yp 1 67 HT_ ?_
        refine yp 2 68 HT_ ?_
        refine yp 3 69 HT_ ?_
        refine yl 0 66 HT_ HW_ hHeld ?_
        refine yl 4 70 HT_ HW_ hHeld ?_
        refine yp 5 71 HT_ ?_
        refine yw 6 72 HT_ (fun K hK => ?_)
        refine ygs Try.func38 #[.agg #[.int .u64 x824000_22, .slice Ao82 x824001_22.length co82], .int .u64 (IntKind.u64.wrap (rd l1 x11_2)), .int .u64 45] ?_
        with_reducible refine (psalteryref05_PutNum.calls kj22 x824000_22 (fun k_=>((P0_1_ k_∨w.heap.size≤k_)∧(k_≠gb819∧(k_≠gb820∧k_≠gb823)))) _ _ x824001_22 (IntKind.u64.wrap (rd l1 x11_2)) 45 t837 t838 t841 _ ?side1 A73.out).mono ?_
        (case side1=>exact HO_824001.out)
        rintro e w83 ⟨v839,rfl,ho0,hb⟩
        refine ⟨_,rfl, ?_⟩
        replace HO_820001:=yVb HO_820001 hb
        replace HO_824001:=yVb HO_824001 hb
        have HO840:=yho (fun k_=>(P0_1_ k_∨w.heap.size≤k_)∧k_≠gb819∧k_≠gb820∧k_≠gb823) ho0 (fun k_ hk_=>⟨Or.elim hk_ (fun hs_=>hs_.1) (fun hn_=>(.inr (Nat.le_trans (zE yhb) hn_))),yoB BK819 hk_,yoB BK820 hk_,yoB BK823 hk_⟩)
        replace BK819:=ybb BK819 hb
        replace BK820:=ybb BK820 hb
        replace BK823:=ybb BK823 hb
        replace HB:=ybs hb
        (try clear hb)
        (try clear ho0)
        obtain ⟨Ao85,co85,eo85⟩:=Kd.V_slice HO840.out
        (first|subst eo85|(injection eo85 with f1_ f2_ f3_;have f4_:=f1_.symm;have f5_:=f3_.symm;clear f1_ f2_ f3_;subst f4_;subst f5_))
        refine hK.out _ _ yH (fun hHeld => ?_)
        clear hK K
        refine ym (some 72) ?_
        refine yp 7 65 HT_ ?_
        refine yp 8 73 HT_ ?_
        refine yp 9 74 HT_ ?_
        refine last_ (i:=10) (N:=none) #[true,true,true,true,true,true,true,true,true,true,true,false] rfl rfl (one_of HT_.out (by kernel_rfl)) (by decide) (fun K hK => ?_)
        have hs84 : w83.cell? ⟨gb823,0,none⟩=some (.int .u64 x824000_22):=(zs BK823.out 0).trans rfl
        have hfs84:=zx BK823.out 0
        have:=NB819_823.out
        have:=NB820_823.out
        have:=NB823_819.out
        have:=NB823_820.out
        have hs86 : w83.cell? ⟨gb823,1,none⟩=some (.slice Ao82 x824001_22.length co82):=(zs BK823.out 1).trans rfl
        have hfs86:=zx BK823.out 1
        have:=NB819_823.out
        have:=NB820_823.out
        have:=NB823_819.out
        have:=NB823_820.out
        refine skip_ (w1 := ?_) (by rfl) rfl ?_ ?_
        rotate_left
        ·
         go_simp
         rfl
        refine hK.out _ _ ?_
        clear hK K
        refine yp 11 12 HT_ ?_
        refine done_ (done_of HT_.out (by kernel_rfl)) ?_
        have:=NB819_820.out
        have:=NB820_819.out
        have:=NB819_823.out
        have:=NB823_819.out
        obtain ⟨_,_,_,_⟩:=yc2 BK819
        have:=NB820_823.out
        have:=NB823_820.out
        obtain ⟨_,_,_,_⟩:=yc2 BK820
        try go_wp2
        refine bodyPost_ret (results_ct rfl _ _ gb820 33 #[.int .u64 a0_0, .slice A0_1 l0_1.length c0_1] (0,0) _ rfl (ykp BK820) Try.underlying33 rfl (by kernel_rfl)) rfl ?_
        exact ⟨_,ye,yV0 HO_820001,yhb⟩
      ·
       replace c70:=Bool.eq_false_iff.mpr c70
       subst c70
       rw [ynf] at H
       have H' := zm H
       clear H
       go_wp2
       go_roundg kj22
       case measure=>exact yom3 HJ4 HK2 HJ22
       case rel=>exact ⟨(wrap64 (x11_2+1)),(x821000_22),(x824000_22),(x824001_22),(u824001),yq,H',⟨yom3 HJ4 HK2 HJ22⟩,⟨yr HO_820001⟩,⟨yr HO_824001⟩,⟨yk BK819⟩,⟨yk BK820⟩,⟨yk BK823⟩,⟨yhb⟩⟩
    ·
     rw [if_neg c22] at H
     have c22b0 : decide (x11_2 < 5)=false:=decide_eq_false c22
     clear c22
     simp only [Option.some.injEq,Prod.mk.injEq] at H
     obtain ⟨rfl,rfl,rfl⟩:=H
     have:=NB823_819.out
     have:=NB819_823.out
     have:=NB823_820.out
     have:=NB820_823.out
     obtain ⟨_,_,_,_⟩:=yc2 BK823
     have:=NB820_819.out
     have:=NB819_820.out
     obtain ⟨_,_,_,_⟩:=yc2 BK820
     obtain ⟨Ao97,co97,eo97⟩:=Kd.V_slice HO_824001.out
     subst eo97
     go_wp2
     refine bodyPost_ret (results_ct rfl _ _ gb820 33 #[.int .u64 x824000_2, .slice Ao97 x824001_2.length co97] (0,0) _ rfl (ykp BK820) Try.underlying33 rfl (by kernel_rfl)) rfl ?_
     exact ⟨_,ye,yV0 HO_824001,yhb⟩
end Go.Proofs.Ytkaoiblgfpphoaa.Prt
