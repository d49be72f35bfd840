-- Functions of the program and of the document as plain Lean, each with the proof that the code comes to it. Written by a program of this session (wip/tools/myprint.py, pack.py) over the kit's printer; Lean checks it.
import Derived.Test.YtifkhfnmbiefaaaZToneWritesPrt0
import Derived.Test.YtifkhfnmbiefaaaZToneWritesSh2
import Derived.Test.YtifkhfnmbiefaaaZToneWritesSh
import Derived.Test.YtifkhfnmbiefaaaZToneWritesM3
import Derived.Test.YtifkhfnmbiefaaaZToneWritesM1
import Derived.Test.YtifkhfnmbiefaaaZToneWritesM2
namespace Go.Proofs.Ytifkhfnmbiefaaa.Prt
open Go.RowKit Go.Proofs.YtifkhfnmbiefaaaW.PrintWords Go.Proofs.YtifkhfnmbiefaaaW.PrintLast Go.Proofs.YtifkhfnmbiefaaaW.PrintMore
attribute [local go_sem] max2_int min2_int max_two min_two max_three min_three max_four min_four   -- for this text's walks alone
set_option linter.unusedVariables false
set_option linter.unusedSimpArgs false


def r11_Right.l0 : Nat→List Int→Bool→Int→Option (Bool)
 | 0,_,_,_=>none
 | k+1,x0,x3,x4=>if x4 < (x0.length : Int) then (if x3=true then (if 0≤x4 then (if (rd x0 x4) ≥ 0 then (r11_Right.l0 k x0 (decide ((rd x0 x4)≤44)) (wrap64 (x4+1))) else (r11_Right.l0 k x0 false (wrap64 (x4+1)))) else (none)) else (r11_Right.l0 k x0 false (wrap64 (x4+1)))) else (some x3)
def r11_Right.f (k : Nat) (l0 : List Int) : Option (Bool):=r11_Right.l0 k l0 ((l0.length : Int) == 5) 0
theorem r11_Right.mono_l : ∀ k,(∀ y0 y1 y2,LeO (r11_Right.l0 k y0 y1 y2) (r11_Right.l0 (k+1) y0 y1 y2))
 | 0=>fun _ _ _ r h=>by simp [r11_Right.l0] at h
 | k+1=>by
  have ih0:=r11_Right.mono_l k
  ·
   intro y0 y1 y2
   unfold r11_Right.l0
   repeat' with_reducible first|apply ih0|apply yLr|apply yLn|apply yLi|apply yLb|intro _
theorem r11_Right.mono : ∀ a0 k,LeO (r11_Right.f k a0) (r11_Right.f (k+1) a0):=by
 intro a0 k
 have ih0:=r11_Right.mono_l k
 unfold r11_Right.f
 repeat' with_reducible first|apply ih0|apply yLr|apply yLn|apply yLi|apply yLb|intro _
set_option maxHeartbeats 8000000 in
set_option maxRecDepth 100000 in
theorem r11_Right.calls (k : Nat) (A0 : Option Addr) (c0 : Nat) (l0 : List Int) (r : Bool) (w : World) (hr0 : Kd.C (Kd.int .i64) w A0 l0.length l0) (hc0 : l0.length≤c0) (h : r11_Right.f k l0=some r) :
  Calls Try.prog 34 #[.slice A0 l0.length c0] w fun e w' => e=.returned (.bool r)∧Drawn0 w w' := by
 have HR0:=zm hr0;have HC0:=zm hc0;clear hr0 hc0;have H:=h
 unfold r11_Right.f at H
 clear h
 have H' := zm H
 clear H
 go_enter Try.func34,Try.ntmps34
 go_wp2
 go_loopg [3,4] k (fun kq v3 v4 w' => ∃ (ac : Bool) (aa : Int),v3=.bool ac∧v4=.int .i64 aa∧Aside0 (r11_Right.l0 kq l0 ac aa=some r)∧Aside0 (kq≤k)∧Drawn0 w w')
 case atStart=>exact ⟨(((l0.length : Int) == 5)),(0),yq,yq,H',⟨Nat.le_refl _⟩,yd⟩
 case round =>
  clear H'
  obtain ⟨ac,aa,rfl,rfl,HA,HK1,⟨m1,rfl⟩⟩:=hrel
  obtain ⟨k1,rfl⟩:=ysu gk (fun h=>by subst h;exact absurd HA.out (by simp [r11_Right.l0]))
  have H:=HA.out;clear HA
  simp only [r11_Right.l0] at H
  by_cases c2 : aa < (l0.length : Int)
  ·
   rw [if_pos c2] at H
   have al:=yD c2
   clear c2
   by_cases c3 : ac=true
   ·
    subst c3
    rw [if_pos rfl] at H
    replace H:=yif H;obtain ⟨c4,H⟩:=H
    have au : decide (0≤aa)=true:=decide_eq_true c4
    clear c4
    by_cases c5 : (rd l0 aa) ≥ 0
    ·
     rw [if_pos c5] at H
     have am:=yDl c5
     clear c5
     have H' := zm H
     clear H
     obtain ⟨af,ag,ae,ao,ap⟩:=yai HR0 aa
     cases ag
     have ah : 0≤(aa : Int):=yt
     have ai : aa < (l0.length : Int):=yt
     obtain ⟨aj,aq,ak⟩:=Kd.at_int HR0.out aa ah ai
     obtain rfl : af=aj:=(by injection aq)
     replace ah:=eq_true ah
     replace ai:=eq_true ai
     go_wp2
     go_roundg k1
     case measure=>exact yom1 HK1
     case rel=>exact ⟨(decide ((rd l0 aa)≤44)),(wrap64 (aa+1)),yq,yq,H',⟨yom1 HK1⟩,yd⟩
    rw [if_neg c5] at H
    have am:=yGl c5
    clear c5
    have H' := zm H
    clear H
    obtain ⟨af,ag,ae,ao,ap⟩:=yai HR0 aa
    cases ag
    go_wp2
    go_roundg k1
    case measure=>exact yom1 HK1
    case rel=>exact ⟨(false),(wrap64 (aa+1)),yq,yq,H',⟨yom1 HK1⟩,yd⟩
   replace c3:=Bool.eq_false_iff.mpr c3
   subst c3
   rw [ynf] at H
   have H' := zm H
   clear H
   go_wp2
   go_roundg k1
   case measure=>exact yom1 HK1
   case rel=>exact ⟨(false),(wrap64 (aa+1)),yq,yq,H',⟨yom1 HK1⟩,yd⟩
  rw [if_neg c2] at H
  have al:=yG c2
  clear c2
  obtain rfl:=Option.some.inj H
  go_wp2
  go_ret
  exact ⟨yq,yd⟩
def r12_Fair.l0 : Nat→List (List Int)→Int→Option (Bool)
 | 0,_,_=>none
 | k+1,x1,x5=>if x5 < (x1.length : Int) then (if 0≤x5 then ((r11_Right.f k (rd_L2 x1 x5)).bind fun ao=>(if ao=true then (r12_Fair.l0 k x1 (wrap64 (x5+1))) else (some false))) else (none)) else (some true)
def r12_Fair.f (k : Nat) (a0 : Int) (l1 : List (List Int)) : Option (Bool):=if (l1.length : Int)=a0 then (r12_Fair.l0 k l1 0) else (some false)
theorem r12_Fair.mono_l : ∀ k,(∀ y0 y1,LeO (r12_Fair.l0 k y0 y1) (r12_Fair.l0 (k+1) y0 y1))
 | 0=>fun _ _ r h=>by simp [r12_Fair.l0] at h
 | k+1=>by
  have ih0:=r12_Fair.mono_l k
  ·
   intro y0 y1
   unfold r12_Fair.l0
   repeat' with_reducible first|apply ih0|apply r11_Right.mono|apply yLr|apply yLn|apply yLi|apply yLb|intro _
theorem r12_Fair.mono : ∀ a0 a1 k,LeO (r12_Fair.f k a0 a1) (r12_Fair.f (k+1) a0 a1):=by
 intro a0 a1 k
 have ih0:=r12_Fair.mono_l k
 unfold r12_Fair.f
 repeat' with_reducible first|apply ih0|apply r11_Right.mono|apply yLr|apply yLn|apply yLi|apply yLb|intro _
set_option maxHeartbeats 8000000 in
set_option maxRecDepth 100000 in
theorem r12_Fair.calls (k : Nat) (a0 : Int) (A1 : Option Addr) (c1 : Nat) (l1 : List (List Int)) (r : Bool) (w : World) (hr1 : Kd.C (Kd.slice 3 (Kd.int .i64)) w A1 l1.length l1) (hc1 : l1.length≤c1) (h : r12_Fair.f k a0 l1=some r) :
  Calls Try.prog 11 #[.int .i64 a0, .slice A1 l1.length c1] w fun e w' => e=.returned (.bool r)∧Drawn0 w w' := by
 have HR1:=zm hr1;have HC1:=zm hc1;clear hr1 hc1;have H:=h
 unfold r12_Fair.f at H
 clear h
 by_cases c3 : (l1.length : Int)=a0
 ·
  rw [if_pos c3] at H
  obtain ⟨aq,au⟩:=yE c3
  clear c3
  have H' := zm H
  clear H
  go_enter Try.func11,Try.ntmps11
  go_wp2
  go_loopg [5] k (fun kq v5 w' => ∃ (aa : Int),v5=.int .i64 aa∧Aside0 (r12_Fair.l0 kq l1 aa=some r)∧Aside0 (kq≤k)∧Drawn0 w w')
  case atStart=>exact ⟨(0),yq,H',⟨Nat.le_refl _⟩,yd⟩
  case round =>
   clear H'
   try clear c1
   try clear aq
   try clear au
   obtain ⟨aa,rfl,HA,HK1,⟨m1,rfl⟩⟩:=hrel
   obtain ⟨k1,rfl⟩:=ysu gk (fun h=>by subst h;exact absurd HA.out (by simp [r12_Fair.l0]))
   have H:=HA.out;clear HA
   simp only [r12_Fair.l0] at H
   by_cases c4 : aa < (l1.length : Int)
   ·
    rw [if_pos c4] at H
    have aw:=yD c4
    clear c4
    replace H:=yif H;obtain ⟨c5,H⟩:=H
    have ax : decide (0≤aa)=true:=decide_eq_true c5
    clear c5
    replace H:=ybi H;obtain ⟨ao,A6,H⟩:=H
    by_cases c7 : ao=true
    ·
     subst c7
     rw [if_pos rfl] at H
     have H' := zm H
     clear H
     have ah : 0≤(aa : Int):=yt
     have ai : aa < (l1.length : Int):=yt
     obtain ⟨av,aj,ak,ap,am,ac,ae⟩:=at_L2 HR1.out aa ah ai
     cases ap
     have af:=zm ae;have ag:=zm ac;clear ae ac
     replace ah:=eq_true ah
     replace ai:=eq_true ai
     go_wp2_with (first|((with_reducible refine gate_callee (f:=34) rfl ?_);refine ygl 20 Try.func34 #[.slice aj (rd_L2 l1 aa).length ak] ?_;(with_reducible refine (r11_Right.calls k1 _ _ (rd_L2 l1 aa) true _ ?al ag.out A6.out).mono ?_);(case al=>exact yce af.out);rintro e w' ⟨rfl,⟨nd,rfl⟩⟩;refine ⟨_,rfl, ?_⟩))
     go_roundg k1
     case measure=>exact yom1 HK1
     case rel=>exact ⟨(wrap64 (aa+1)),yq,H',⟨yom1 HK1⟩,yd⟩
    replace c7:=Bool.eq_false_iff.mpr c7
    subst c7
    rw [ynf] at H
    obtain rfl:=Option.some.inj H
    have ah : 0≤(aa : Int):=yt
    have ai : aa < (l1.length : Int):=yt
    obtain ⟨av,aj,ak,ap,am,ac,ae⟩:=at_L2 HR1.out aa ah ai
    cases ap
    have af:=zm ae;have ag:=zm ac;clear ae ac
    replace ah:=eq_true ah
    replace ai:=eq_true ai
    go_wp2_with (first|((with_reducible refine gate_callee (f:=34) rfl ?_);refine ygl 20 Try.func34 #[.slice aj (rd_L2 l1 aa).length ak] ?_;(with_reducible refine (r11_Right.calls k1 _ _ (rd_L2 l1 aa) false _ ?al ag.out A6.out).mono ?_);(case al=>exact yce af.out);rintro e w' ⟨rfl,⟨nd,rfl⟩⟩;refine ⟨_,rfl, ?_⟩))
    go_ret
    exact ⟨yq,yd⟩
   rw [if_neg c4] at H
   have aw:=yG c4
   clear c4
   obtain rfl:=Option.some.inj H
   go_wp2
   go_ret
   exact ⟨yq,yd⟩
 rw [if_neg c3] at H
 obtain ⟨aq,au⟩:=yF c3
 obtain rfl:=Option.some.inj H
 go_enter Try.func11,Try.ntmps11
 go_wp2
 go_ret
 exact ⟨yq,yd⟩
def r12_Same.l0 : Nat→List (List Int)→List (List Int)→Int→Option (Bool)
 | 0,_,_,_=>none
 | k+1,x0,x1,x5=>if x5 < (x0.length : Int) then (if 0≤x5 then (if x5 < (x1.length : Int) then ((r06_Same.f k (rd_L2 x0 x5) (rd_L2 x1 x5)).bind fun ax=>(if ax=true then (r12_Same.l0 k x0 x1 (wrap64 (x5+1))) else (some false))) else (none)) else (none)) else (some true)
def r12_Same.f (k : Nat) (l0 : List (List Int)) (l1 : List (List Int)) : Option (Bool):=if (l0.length : Int)=(l1.length : Int) then (r12_Same.l0 k l0 l1 0) else (some false)
theorem r12_Same.mono_l : ∀ k,(∀ y0 y1 y2,LeO (r12_Same.l0 k y0 y1 y2) (r12_Same.l0 (k+1) y0 y1 y2))
 | 0=>fun _ _ _ r h=>by simp [r12_Same.l0] at h
 | k+1=>by
  have ih0:=r12_Same.mono_l k
  ·
   intro y0 y1 y2
   unfold r12_Same.l0
   repeat' with_reducible first|apply ih0|apply r06_Same.mono|apply yLr|apply yLn|apply yLi|apply yLb|intro _
theorem r12_Same.mono : ∀ a0 a1 k,LeO (r12_Same.f k a0 a1) (r12_Same.f (k+1) a0 a1):=by
 intro a0 a1 k
 have ih0:=r12_Same.mono_l k
 unfold r12_Same.f
 repeat' with_reducible first|apply ih0|apply r06_Same.mono|apply yLr|apply yLn|apply yLi|apply yLb|intro _
set_option maxHeartbeats 8000000 in
set_option maxRecDepth 100000 in
theorem r12_Same.calls (k : Nat) (A0 : Option Addr) (c0 : Nat) (l0 : List (List Int)) (A1 : Option Addr) (c1 : Nat) (l1 : List (List Int)) (r : Bool) (w : World) (hr0 : Kd.C (Kd.slice 3 (Kd.int .i64)) w A0 l0.length l0) (hc0 : l0.length≤c0) (hr1 : Kd.C (Kd.slice 3 (Kd.int .i64)) w A1 l1.length l1) (hc1 : l1.length≤c1) (h : r12_Same.f k l0 l1=some r) :
  Calls Try.prog 60 #[.slice A0 l0.length c0, .slice A1 l1.length c1] w fun e w' => e=.returned (.bool r)∧Drawn0 w w' := by
 have HR0:=zm hr0;have HC0:=zm hc0;clear hr0 hc0;have HR1:=zm hr1;have HC1:=zm hc1;clear hr1 hc1;have H:=h
 unfold r12_Same.f at H
 clear h
 by_cases c3 : (l0.length : Int)=(l1.length : Int)
 ·
  rw [if_pos c3] at H
  obtain ⟨aG,aH⟩:=yE c3
  have aI : (l0.length == l1.length)=true:=by first|simpa using c3|(simp at c3 ⊢; omega)
  clear c3
  have H' := zm H
  clear H
  go_enter Try.func60,Try.ntmps60
  go_wp2
  repeat (go_quiet (fail);try go_wp2)
  go_loopg [5] k (fun kq v5 w' => ∃ (aa : Int),v5=.int .i64 aa∧Aside0 (r12_Same.l0 kq l0 l1 aa=some r)∧Aside0 (kq≤k)∧Drawn0 w w')
  case atStart=>exact ⟨(0),yq,H',⟨Nat.le_refl _⟩,yd⟩
  case round =>
   clear H'
   try clear c1
   try clear aG
   try clear aH
   try clear aI
   obtain ⟨aa,rfl,HA,HK1,⟨m1,rfl⟩⟩:=hrel
   obtain ⟨k1,rfl⟩:=ysu gk (fun h=>by subst h;exact absurd HA.out (by simp [r12_Same.l0]))
   have H:=HA.out;clear HA
   simp only [r12_Same.l0] at H
   by_cases c4 : aa < (l0.length : Int)
   ·
    rw [if_pos c4] at H
    have aM:=yD c4
    clear c4
    replace H:=yif H;obtain ⟨c5,H⟩:=H
    have aN : decide (0≤aa)=true:=decide_eq_true c5
    clear c5
    replace H:=yif H;obtain ⟨c6,H⟩:=H
    have aQ : decide (aa < (l1.length : Int))=true:=decide_eq_true c6
    clear c6
    replace H:=ybi H;obtain ⟨ax,A7,H⟩:=H
    by_cases c8 : ax=true
    ·
     subst c8
     rw [if_pos rfl] at H
     have H' := zm H
     clear H
     have ao : 0≤(aa : Int):=yt
     have ap : aa < (l0.length : Int):=yt
     obtain ⟨aJ,ay,az,aA,av,aj,ak⟩:=at_L2 HR0.out aa ao ap
     cases aA
     have ac:=zm ak;have ae:=zm aj;clear ak aj
     replace ao:=eq_true ao
     replace ap:=eq_true ap
     have aq : 0≤(aa : Int):=yt
     have au : aa < (l1.length : Int):=yt
     obtain ⟨aK,aC,aD,aE,aw,al,am⟩:=at_L2 HR1.out aa aq au
     cases aE
     have af:=zm am;have ag:=zm al;clear am al
     replace aq:=eq_true aq
     replace au:=eq_true au
     go_wp2_with (first|(go_at_call 35;(with_reducible refine (r06_Same.calls k1 _ _ (rd_L2 l0 aa) _ _ (rd_L2 l1 aa) true _ ?ah ae.out ?ai ag.out A7.out).mono ?_);(case ah=>exact yce ac.out);(case ai=>exact yce af.out);rintro e w' ⟨rfl,⟨nd,rfl⟩⟩;(try exact yww)))
     repeat (go_quiet (first|(go_at_call 35;(with_reducible refine (r06_Same.calls k1 _ _ (rd_L2 l0 aa) _ _ (rd_L2 l1 aa) true _ ?ah ae.out ?ai ag.out A7.out).mono ?_);(case ah=>exact yce ac.out);(case ai=>exact yce af.out);rintro e w' ⟨rfl,⟨nd,rfl⟩⟩;(try exact yww)));try go_wp2_with (first|(go_at_call 35;(with_reducible refine (r06_Same.calls k1 _ _ (rd_L2 l0 aa) _ _ (rd_L2 l1 aa) true _ ?ah ae.out ?ai ag.out A7.out).mono ?_);(case ah=>exact yce ac.out);(case ai=>exact yce af.out);rintro e w' ⟨rfl,⟨nd,rfl⟩⟩;(try exact yww))))
     go_roundg k1
     case measure=>exact yom1 HK1
     case rel=>exact ⟨(wrap64 (aa+1)),yq,H',⟨yom1 HK1⟩,yd⟩
    replace c8:=Bool.eq_false_iff.mpr c8
    subst c8
    rw [ynf] at H
    obtain rfl:=Option.some.inj H
    have ao : 0≤(aa : Int):=yt
    have ap : aa < (l0.length : Int):=yt
    obtain ⟨aJ,ay,az,aA,av,aj,ak⟩:=at_L2 HR0.out aa ao ap
    cases aA
    have ac:=zm ak;have ae:=zm aj;clear ak aj
    replace ao:=eq_true ao
    replace ap:=eq_true ap
    have aq : 0≤(aa : Int):=yt
    have au : aa < (l1.length : Int):=yt
    obtain ⟨aK,aC,aD,aE,aw,al,am⟩:=at_L2 HR1.out aa aq au
    cases aE
    have af:=zm am;have ag:=zm al;clear am al
    replace aq:=eq_true aq
    replace au:=eq_true au
    go_wp2_with (first|(go_at_call 35;(with_reducible refine (r06_Same.calls k1 _ _ (rd_L2 l0 aa) _ _ (rd_L2 l1 aa) false _ ?ah ae.out ?ai ag.out A7.out).mono ?_);(case ah=>exact yce ac.out);(case ai=>exact yce af.out);rintro e w' ⟨rfl,⟨nd,rfl⟩⟩;(try exact yww)))
    repeat (go_quiet (first|(go_at_call 35;(with_reducible refine (r06_Same.calls k1 _ _ (rd_L2 l0 aa) _ _ (rd_L2 l1 aa) false _ ?ah ae.out ?ai ag.out A7.out).mono ?_);(case ah=>exact yce ac.out);(case ai=>exact yce af.out);rintro e w' ⟨rfl,⟨nd,rfl⟩⟩;(try exact yww)));try go_wp2_with (first|(go_at_call 35;(with_reducible refine (r06_Same.calls k1 _ _ (rd_L2 l0 aa) _ _ (rd_L2 l1 aa) false _ ?ah ae.out ?ai ag.out A7.out).mono ?_);(case ah=>exact yce ac.out);(case ai=>exact yce af.out);rintro e w' ⟨rfl,⟨nd,rfl⟩⟩;(try exact yww))))
    go_ret
    exact ⟨yq,yd⟩
   rw [if_neg c4] at H
   have aM:=yG c4
   clear c4
   obtain rfl:=Option.some.inj H
   go_wp2
   repeat (go_quiet (fail);try go_wp2)
   go_ret
   exact ⟨yq,yd⟩
 rw [if_neg c3] at H
 obtain ⟨aG,aH⟩:=yF c3
 have aI : (l0.length == l1.length)=false:=by first|simpa using c3|(simp at c3 ⊢; omega)
 obtain rfl:=Option.some.inj H
 go_enter Try.func60,Try.ntmps60
 go_wp2
 repeat (go_quiet (fail);try go_wp2)
 go_ret
 exact ⟨yq,yd⟩
mutual
def r13_Same.j0 : Nat→Bool→Bool→List (List Int)→List (List (List Int))→Bool→List (List Int)→List (List (List Int))→Option (Bool)
 | 0,_,_,_,_,_,_,_=>none
 | k+1,x27,aM,aN,ax,aQ,aT,ay=>if x27=true then (some false) else (r13_Same.l0 k 0 aM aN ax aQ aT ay)
def r13_Same.l0 : Nat→Int→Bool→List (List Int)→List (List (List Int))→Bool→List (List Int)→List (List (List Int))→Option (Bool)
 | 0,_,_,_,_,_,_,_=>none
 | k+1,x5,aM,aN,ax,aQ,aT,ay=>if x5 < (ax.length : Int) then (if 0≤x5 then (if x5 < (ay.length : Int) then ((r12_Same.f k (rd_L4 ax x5) (rd_L4 ay x5)).bind fun bo=>(if bo=true then (r13_Same.l0 k (wrap64 (x5+1)) aM aN ax aQ aT ay) else (some false))) else (none)) else (none)) else (some true)
end
def r13_Same.f (k : Nat) (am : Bool) (ak : List (List Int)) (ai : List (List (List Int))) (ao : Bool) (al : List (List Int)) (aj : List (List (List Int))) : Option (Bool):=if (am != ao)=true then (r13_Same.j0 k true am ak ai ao al aj) else ((r12_Same.f k ak al).bind fun bp=>(if bp=true then (r13_Same.j0 k ((ai.length : Int) != (aj.length : Int)) am ak ai ao al aj) else (r13_Same.j0 k true am ak ai ao al aj)))
theorem r13_Same.mono_l : ∀ k,(∀ y0 y1 y2 y3 y4 y5 y6,LeO (r13_Same.j0 k y0 y1 y2 y3 y4 y5 y6) (r13_Same.j0 (k+1) y0 y1 y2 y3 y4 y5 y6))∧(∀ y0 y1 y2 y3 y4 y5 y6,LeO (r13_Same.l0 k y0 y1 y2 y3 y4 y5 y6) (r13_Same.l0 (k+1) y0 y1 y2 y3 y4 y5 y6))
 | 0=>⟨fun _ _ _ _ _ _ _ r h=>by simp [r13_Same.j0] at h,fun _ _ _ _ _ _ _ r h=>by simp [r13_Same.l0] at h⟩
 | k+1=>by
  obtain ⟨ih0,ih1⟩:=r13_Same.mono_l k
  refine ⟨?_, ?_⟩
  ·
   intro y0 y1 y2 y3 y4 y5 y6
   unfold r13_Same.j0
   repeat' with_reducible first|apply ih0|apply ih1|apply r12_Same.mono|apply yLr|apply yLn|apply yLi|apply yLb|intro _
  intro y0 y1 y2 y3 y4 y5 y6
  unfold r13_Same.l0
  repeat' with_reducible first|apply ih0|apply ih1|apply r12_Same.mono|apply yLr|apply yLn|apply yLi|apply yLb|intro _
theorem r13_Same.mono : ∀ a0 a1 a2 a3 a4 a5 k,LeO (r13_Same.f k a0 a1 a2 a3 a4 a5) (r13_Same.f (k+1) a0 a1 a2 a3 a4 a5):=by
 intro a0 a1 a2 a3 a4 a5 k
 obtain ⟨ih0,ih1⟩:=r13_Same.mono_l k
 unfold r13_Same.f
 repeat' with_reducible first|apply ih0|apply ih1|apply r12_Same.mono|apply yLr|apply yLn|apply yLi|apply yLb|intro _
set_option maxHeartbeats 8000000 in
set_option maxRecDepth 100000 in
theorem r13_Same.calls (k : Nat) (am : Bool) (aU : Option Addr) (aV : Nat) (ak : List (List Int)) (aW : Option Addr) (aX : Nat) (ai : List (List (List Int))) (ao : Bool) (aY : Option Addr) (aZ : Nat) (al : List (List Int)) (a7 : Option Addr) (a8 : Nat) (aj : List (List (List Int))) (r : Bool) (w : World) (hr0_1 : Kd.C (Kd.slice 3 (Kd.int .i64)) w aU ak.length ak) (hc0_1 : ak.length≤aV) (hr0_2 : Kd.C (Kd.slice 55 (Kd.slice 3 (Kd.int .i64))) w aW ai.length ai) (hc0_2 : ai.length≤aX) (hr1_1 : Kd.C (Kd.slice 3 (Kd.int .i64)) w aY al.length al) (hc1_1 : al.length≤aZ) (hr1_2 : Kd.C (Kd.slice 55 (Kd.slice 3 (Kd.int .i64))) w a7 aj.length aj) (hc1_2 : aj.length≤a8) (h : r13_Same.f k am ak ai ao al aj=some r) :
  Calls Try.prog 18 #[.agg #[.bool am, .slice aU ak.length aV, .slice aW ai.length aX], .agg #[.bool ao, .slice aY al.length aZ, .slice a7 aj.length a8]] w fun e w' => e=.returned (.bool r)∧Below w.heap.size w w' := by
 have hu42:=Try.underlying42;have aH:=zm hr0_1;have aI:=zm hc0_1;clear hr0_1 hc0_1;have bi:=zm hr0_2;have bD:=zm hc0_2;clear hr0_2 hc0_2;have aJ:=zm hr1_1;have aK:=zm hc1_1;clear hr1_1 hc1_1;have bj:=zm hr1_2;have bE:=zm hc1_2;clear hr1_2 hc1_2;have HB:=zm (Below.refl w.heap.size w);have H:=h
 unfold r13_Same.f at H
 clear h;have HC3:=zm H;clear H
 go_enter Try.func18,Try.ntmps18
 go_upto_region 1 with (first|((with_reducible refine gate_dst (N:=2) rfl ?_);(try (refine gate_guard (by rfl) ?_;dsimp only));refine ybx 2 #[.bool am, .slice aU ak.length aV, .slice aW ai.length aX] 42 ?_;intro bd hg w4 hbox hb;have aa:=zm (hbox);have bk:=ygw hg;have bl:=ygw hg;replace HB:=ybs hb;clear hb hbox hg)|((with_reducible refine gate_dst (N:=3) rfl ?_);(try (refine gate_guard (by rfl) ?_;dsimp only));refine ybx 3 #[.bool ao, .slice aY al.length aZ, .slice a7 aj.length a8] 42 ?_;intro bf hg w5 hbox hb;have ap:=zm (hbox);have bm:=ygw hg;have bn:=ygw hg;replace HB:=ybs hb;have ag:=ynl aa hg;have ah:=yng aa hg;replace aa:=ybb aa hb;clear hb hbox hg))
 repeat (go_quiet (first|((with_reducible refine gate_dst (N:=2) rfl ?_);(try (refine gate_guard (by rfl) ?_;dsimp only));refine ybx 2 #[.bool am, .slice aU ak.length aV, .slice aW ai.length aX] 42 ?_;intro bd hg w4 hbox hb;have aa:=zm (hbox);have bk:=ygw hg;have bl:=ygw hg;replace HB:=ybs hb;clear hb hbox hg)|((with_reducible refine gate_dst (N:=3) rfl ?_);(try (refine gate_guard (by rfl) ?_;dsimp only));refine ybx 3 #[.bool ao, .slice aY al.length aZ, .slice a7 aj.length a8] 42 ?_;intro bf hg w5 hbox hb;have ap:=zm (hbox);have bm:=ygw hg;have bn:=ygw hg;replace HB:=ybs hb;have ag:=ynl aa hg;have ah:=yng aa hg;replace aa:=ybb aa hb;clear hb hbox hg));go_upto_region 1 with (first|((with_reducible refine gate_dst (N:=2) rfl ?_);(try (refine gate_guard (by rfl) ?_;dsimp only));refine ybx 2 #[.bool am, .slice aU ak.length aV, .slice aW ai.length aX] 42 ?_;intro bd hg w4 hbox hb;have aa:=zm (hbox);have bk:=ygw hg;have bl:=ygw hg;replace HB:=ybs hb;clear hb hbox hg)|((with_reducible refine gate_dst (N:=3) rfl ?_);(try (refine gate_guard (by rfl) ?_;dsimp only));refine ybx 3 #[.bool ao, .slice aY al.length aZ, .slice a7 aj.length a8] 42 ?_;intro bf hg w5 hbox hb;have ap:=zm (hbox);have bm:=ygw hg;have bn:=ygw hg;replace HB:=ybs hb;have ag:=ynl aa hg;have ah:=yng aa hg;replace aa:=ybb aa hb;clear hb hbox hg)))
 (try simp only [Act.put,List.setIfInBounds_toArray,List.set_cons_zero,List.set_cons_succ])
 go_cut [27] (fun v27 wc => ∃ (kq : Nat) (bg : Bool),v27=.bool bg∧Aside0 (r13_Same.j0 kq bg am ak ai ao al aj=some r)∧Aside0 (kq≤k)∧Aside0 (wc.heap[bd]? = some (.cells #[.bool am,(.slice aU ak.length aV),(.slice aW ai.length aX)] 42 (0,0)))∧Aside0 (wc.heap[bf]? = some (.cells #[.bool ao,(.slice aY al.length aZ),(.slice a7 aj.length a8)] 42 (0,0)))∧Aside0 (Below w.heap.size w wc))
 case first =>
  have H:=HC3.out;clear HC3
  by_cases c6 : (am != ao)=true
  ·
   rw [if_pos c6] at H
   have bh : (am != ao)=true:=c6
   (try (have bB : decide (am=ao)=false:=by simpa using c6))
   (try (have bC : (am == ao)=false:=by simpa using c6))
   (try (have bH : ¬ (am=ao):=by simpa using c6))
   clear c6
   (first|rw [bh]|(simp only [i64_w,i32_w];rw [bh])|skip)
   have H' := zm H
   clear H
   have:=ag.out
   have:=ah.out
   obtain ⟨_,_,_,_,_,_⟩:=yc3 aa
   obtain ⟨_,_,_,_,_,_⟩:=yc3 ap
   go_wp2
   repeat (go_quiet (fail);try go_wp2)
   go_meet
   case rel=>exact ⟨_,(true),yq,H',⟨yo⟩,⟨yk aa⟩,⟨yk ap⟩,⟨yhb⟩⟩
  rw [if_neg c6] at H
  have bh : (am != ao)=false:=by simpa using c6
  (try (have bB : decide (am=ao)=true:=by simpa using c6))
  (try (have bC : (am == ao)=true:=by simpa using c6))
  clear c6
  (first|rw [bh]|(simp only [i64_w,i32_w];rw [bh])|skip)
  replace H:=ybi H;obtain ⟨bp,A10,H⟩:=H
  by_cases c11 : bp=true
  ·
   subst c11
   rw [if_pos rfl] at H
   have H' := zm H
   clear H
   have:=ag.out
   have:=ah.out
   obtain ⟨_,_,_,_,_,_⟩:=yc3 aa
   obtain ⟨_,_,_,_,_,_⟩:=yc3 ap
   go_wp2_with (first|(go_at_call 60;(with_reducible refine (r12_Same.calls k _ _ ak _ _ al true _ ?ac aI.out ?ae aK.out A10.out).mono ?_);(case ac=>exact ycb aH);(case ae=>exact ycb aJ);rintro e w' ⟨rfl,⟨nd,rfl⟩⟩;(try exact yww)))
   repeat (go_quiet (first|(go_at_call 60;(with_reducible refine (r12_Same.calls k _ _ ak _ _ al true _ ?ac aI.out ?ae aK.out A10.out).mono ?_);(case ac=>exact ycb aH);(case ae=>exact ycb aJ);rintro e w' ⟨rfl,⟨nd,rfl⟩⟩;(try exact yww)));try go_wp2_with (first|(go_at_call 60;(with_reducible refine (r12_Same.calls k _ _ ak _ _ al true _ ?ac aI.out ?ae aK.out A10.out).mono ?_);(case ac=>exact ycb aH);(case ae=>exact ycb aJ);rintro e w' ⟨rfl,⟨nd,rfl⟩⟩;(try exact yww))))
   go_meet
   case rel=>exact ⟨_,(((ai.length : Int) != (aj.length : Int))),yq,H',⟨yo⟩,⟨yk aa⟩,⟨yk ap⟩,⟨yhb⟩⟩
  replace c11:=Bool.eq_false_iff.mpr c11
  subst c11
  rw [ynf] at H
  have H' := zm H
  clear H
  have:=ag.out
  have:=ah.out
  obtain ⟨_,_,_,_,_,_⟩:=yc3 aa
  obtain ⟨_,_,_,_,_,_⟩:=yc3 ap
  go_wp2_with (first|(go_at_call 60;(with_reducible refine (r12_Same.calls k _ _ ak _ _ al false _ ?ac aI.out ?ae aK.out A10.out).mono ?_);(case ac=>exact ycb aH);(case ae=>exact ycb aJ);rintro e w' ⟨rfl,⟨nd,rfl⟩⟩;(try exact yww)))
  repeat (go_quiet (first|(go_at_call 60;(with_reducible refine (r12_Same.calls k _ _ ak _ _ al false _ ?ac aI.out ?ae aK.out A10.out).mono ?_);(case ac=>exact ycb aH);(case ae=>exact ycb aJ);rintro e w' ⟨rfl,⟨nd,rfl⟩⟩;(try exact yww)));try go_wp2_with (first|(go_at_call 60;(with_reducible refine (r12_Same.calls k _ _ ak _ _ al false _ ?ac aI.out ?ae aK.out A10.out).mono ?_);(case ac=>exact ycb aH);(case ae=>exact ycb aJ);rintro e w' ⟨rfl,⟨nd,rfl⟩⟩;(try exact yww))))
  go_meet
  case rel=>exact ⟨_,(true),yq,H',⟨yo⟩,⟨yk aa⟩,⟨yk ap⟩,⟨yhb⟩⟩
 case rest =>
  clear HC3
  obtain ⟨kq,bg,rfl,HA,HJ2,aa,ap,HB⟩:=hcut
  obtain ⟨kj2,rfl⟩:=ysu kq (fun h=>by subst h;exact absurd HA.out (by simp [r13_Same.j0]))
  have H:=HA.out;clear HA
  simp only [r13_Same.j0] at H
  by_cases c18 : bg=true
  ·
   subst c18
   rw [if_pos rfl] at H
   obtain rfl:=Option.some.inj H
   go_wp2
   repeat (go_quiet (fail);try go_wp2)
   go_ret
   exact ⟨ye,yhb⟩
  replace c18:=Bool.eq_false_iff.mpr c18
  subst c18
  rw [ynf] at H
  have H' := zm H
  clear H
  go_wp2
  repeat (go_quiet (fail);try go_wp2)
  go_loopg [5] kj2 (fun kq v5 w' => ∃ (af : Int),v5=.int .i64 af∧Aside0 (r13_Same.l0 kq af am ak ai ao al aj=some r)∧Aside0 (kq≤kj2)∧Aside0 (w'.heap[bd]? = some (.cells #[.bool am,(.slice aU ak.length aV),(.slice aW ai.length aX)] 42 (0,0)))∧Aside0 (w'.heap[bf]? = some (.cells #[.bool ao,(.slice aY al.length aZ),(.slice a7 aj.length a8)] 42 (0,0)))∧Aside0 (Below w.heap.size w w'))
  case atStart=>exact ⟨(0),yq,H',⟨Nat.le_refl _⟩,⟨yk aa⟩,⟨yk ap⟩,⟨yhb⟩⟩
  case round =>
   clear H'
   obtain ⟨af,rfl,HA,HK2,aa,ap,HB⟩:=hrel
   obtain ⟨k2,rfl⟩:=ysu gk (fun h=>by subst h;exact absurd HA.out (by simp [r13_Same.l0]))
   have H:=HA.out;clear HA
   simp only [r13_Same.l0] at H
   by_cases c19 : af < (ai.length : Int)
   ·
    rw [if_pos c19] at H
    have bx:=yD c19
    clear c19
    replace H:=yif H;obtain ⟨c20,H⟩:=H
    have bF : decide (0≤af)=true:=decide_eq_true c20
    clear c20
    replace H:=yif H;obtain ⟨c21,H⟩:=H
    have bG : decide (af < (aj.length : Int))=true:=decide_eq_true c21
    clear c21
    replace H:=ybi H;obtain ⟨bo,A22,H⟩:=H
    by_cases c23 : bo=true
    ·
     subst c23
     rw [if_pos rfl] at H
     have H' := zm H
     clear H
     have:=ag.out
     have:=ah.out
     obtain ⟨_,_,_,_,_,_⟩:=yc3 aa
     have a9 : 0≤(af : Int):=yt
     have ba : af < (ai.length : Int):=yt
     obtain ⟨bz,bq,br,bs,az,aA,aC⟩:=at_L4 bi.out af a9 ba
     cases bs
     replace az:=yhx HB az
     have aq:=zm aC;have au:=zm aA;clear aC aA
     replace a9:=eq_true a9
     replace ba:=eq_true ba
     obtain ⟨_,_,_,_,_,_⟩:=yc3 ap
     have bb : 0≤(af : Int):=yt
     have bc : af < (aj.length : Int):=yt
     obtain ⟨bA,bu,bv,bw,aD,aE,aG⟩:=at_L4 bj.out af bb bc
     cases bw
     replace aD:=yhx HB aD
     have av:=zm aG;have aw:=zm aE;clear aG aE
     replace bb:=eq_true bb
     replace bc:=eq_true bc
     go_wp2_with (first|(go_at_call 60;(with_reducible refine (r12_Same.calls k2 _ _ (rd_L4 ai af) _ _ (rd_L4 aj af) true _ ?ac au.out ?ae aw.out A22.out).mono ?_);(case ac=>exact ycb aq);(case ae=>exact ycb av);rintro e w' ⟨rfl,⟨nd,rfl⟩⟩;(try exact yww)))
     repeat (go_quiet (first|(go_at_call 60;(with_reducible refine (r12_Same.calls k2 _ _ (rd_L4 ai af) _ _ (rd_L4 aj af) true _ ?ac au.out ?ae aw.out A22.out).mono ?_);(case ac=>exact ycb aq);(case ae=>exact ycb av);rintro e w' ⟨rfl,⟨nd,rfl⟩⟩;(try exact yww)));try go_wp2_with (first|(go_at_call 60;(with_reducible refine (r12_Same.calls k2 _ _ (rd_L4 ai af) _ _ (rd_L4 aj af) true _ ?ac au.out ?ae aw.out A22.out).mono ?_);(case ac=>exact ycb aq);(case ae=>exact ycb av);rintro e w' ⟨rfl,⟨nd,rfl⟩⟩;(try exact yww))))
     go_roundg k2
     case measure=>exact yom2 HJ2 HK2
     case rel=>exact ⟨(wrap64 (af+1)),yq,H',⟨yom2 HJ2 HK2⟩,⟨yk aa⟩,⟨yk ap⟩,⟨yhb⟩⟩
    replace c23:=Bool.eq_false_iff.mpr c23
    subst c23
    rw [ynf] at H
    obtain rfl:=Option.some.inj H
    have:=ag.out
    have:=ah.out
    obtain ⟨_,_,_,_,_,_⟩:=yc3 aa
    have a9 : 0≤(af : Int):=yt
    have ba : af < (ai.length : Int):=yt
    obtain ⟨bz,bq,br,bs,az,aA,aC⟩:=at_L4 bi.out af a9 ba
    cases bs
    replace az:=yhx HB az
    have aq:=zm aC;have au:=zm aA;clear aC aA
    replace a9:=eq_true a9
    replace ba:=eq_true ba
    obtain ⟨_,_,_,_,_,_⟩:=yc3 ap
    have bb : 0≤(af : Int):=yt
    have bc : af < (aj.length : Int):=yt
    obtain ⟨bA,bu,bv,bw,aD,aE,aG⟩:=at_L4 bj.out af bb bc
    cases bw
    replace aD:=yhx HB aD
    have av:=zm aG;have aw:=zm aE;clear aG aE
    replace bb:=eq_true bb
    replace bc:=eq_true bc
    go_wp2_with (first|(go_at_call 60;(with_reducible refine (r12_Same.calls k2 _ _ (rd_L4 ai af) _ _ (rd_L4 aj af) false _ ?ac au.out ?ae aw.out A22.out).mono ?_);(case ac=>exact ycb aq);(case ae=>exact ycb av);rintro e w' ⟨rfl,⟨nd,rfl⟩⟩;(try exact yww)))
    repeat (go_quiet (first|(go_at_call 60;(with_reducible refine (r12_Same.calls k2 _ _ (rd_L4 ai af) _ _ (rd_L4 aj af) false _ ?ac au.out ?ae aw.out A22.out).mono ?_);(case ac=>exact ycb aq);(case ae=>exact ycb av);rintro e w' ⟨rfl,⟨nd,rfl⟩⟩;(try exact yww)));try go_wp2_with (first|(go_at_call 60;(with_reducible refine (r12_Same.calls k2 _ _ (rd_L4 ai af) _ _ (rd_L4 aj af) false _ ?ac au.out ?ae aw.out A22.out).mono ?_);(case ac=>exact ycb aq);(case ae=>exact ycb av);rintro e w' ⟨rfl,⟨nd,rfl⟩⟩;(try exact yww))))
    go_ret
    exact ⟨ye,yhb⟩
   rw [if_neg c19] at H
   have bx:=yG c19
   clear c19
   obtain rfl:=Option.some.inj H
   have:=ag.out
   have:=ah.out
   obtain ⟨_,_,_,_,_,_⟩:=yc3 aa
   go_wp2
   repeat (go_quiet (fail);try go_wp2)
   go_ret
   exact ⟨ye,yhb⟩
mutual
def r07_Fair.j0 : Nat→List Int→Bool→Option (Bool)
 | 0,_,_=>none
 | k+1,x0,x3=>r07_Fair.l0 k x0 x3 0
def r07_Fair.l0 : Nat→List Int→Bool→Int→Option (Bool)
 | 0,_,_,_=>none
 | k+1,x0,x3,x4=>if x4 < (x0.length : Int) then (if x3=true then (if 0≤x4 then (if (rd x0 x4) ≥ (-1048576) then (r07_Fair.l0 k x0 (decide ((rd x0 x4)≤1048576)) (wrap64 (x4+1))) else (r07_Fair.l0 k x0 false (wrap64 (x4+1)))) else (none)) else (r07_Fair.l0 k x0 false (wrap64 (x4+1)))) else (some x3)
end
def r07_Fair.f (k : Nat) (l0 : List Int) : Option (Bool):=if (l0.length : Int) > 0 then (r07_Fair.j0 k l0 (decide ((l0.length : Int)≤16))) else (r07_Fair.j0 k l0 false)
theorem r07_Fair.mono_l : ∀ k,(∀ y0 y1,LeO (r07_Fair.j0 k y0 y1) (r07_Fair.j0 (k+1) y0 y1))∧(∀ y0 y1 y2,LeO (r07_Fair.l0 k y0 y1 y2) (r07_Fair.l0 (k+1) y0 y1 y2))
 | 0=>⟨fun _ _ r h=>by simp [r07_Fair.j0] at h,fun _ _ _ r h=>by simp [r07_Fair.l0] at h⟩
 | k+1=>by
  obtain ⟨ih0,ih1⟩:=r07_Fair.mono_l k
  refine ⟨?_, ?_⟩
  ·
   intro y0 y1
   unfold r07_Fair.j0
   repeat' with_reducible first|apply ih0|apply ih1|apply yLr|apply yLn|apply yLi|apply yLb|intro _
  intro y0 y1 y2
  unfold r07_Fair.l0
  repeat' with_reducible first|apply ih0|apply ih1|apply yLr|apply yLn|apply yLi|apply yLb|intro _
theorem r07_Fair.mono : ∀ a0 k,LeO (r07_Fair.f k a0) (r07_Fair.f (k+1) a0):=by
 intro a0 k
 obtain ⟨ih0,ih1⟩:=r07_Fair.mono_l k
 unfold r07_Fair.f
 repeat' with_reducible first|apply ih0|apply ih1|apply yLr|apply yLn|apply yLi|apply yLb|intro _
set_option maxHeartbeats 8000000 in
set_option maxRecDepth 100000 in
theorem r07_Fair.calls (k : Nat) (A0 : Option Addr) (c0 : Nat) (l0 : List Int) (r : Bool) (w : World) (hr0 : Kd.C (Kd.int .i64) w A0 l0.length l0) (hc0 : l0.length≤c0) (h : r07_Fair.f k l0=some r) :
  Calls Try.prog 82 #[.slice A0 l0.length c0] w fun e w' => e=.returned (.bool r)∧Drawn0 w w' := by
 have HR0:=zm hr0;have HC0:=zm hc0;clear hr0 hc0;have H:=h
 unfold r07_Fair.f at H
 clear h;have HC2:=zm H;clear H
 go_enter Try.func82,Try.ntmps82
 go_upto_region 1 with (fail)
 go_cut [3] (fun v3 wc => ∃ (kq : Nat) (ae : Bool),v3=.bool ae∧Aside0 (r07_Fair.j0 kq l0 ae=some r)∧Aside0 (kq≤k)∧Drawn0 w wc)
 case first =>
  have H:=HC2.out;clear HC2
  by_cases c3 : (l0.length : Int) > 0
  ·
   rw [if_pos c3] at H
   have ac:=yDs c3
   have ao : decide (0 < l0.length)=true:=decide_eq_true (by omega)
   clear c3
   (first|rw [ac]|(simp only [i64_w,i32_w];rw [ac])|skip)
   have H' := zm H
   clear H
   go_wp2
   go_meet
   case rel=>exact ⟨_,(decide ((l0.length : Int)≤16)),yq,H',⟨yo⟩,yd⟩
  rw [if_neg c3] at H
  have ac:=yGs c3
  have ao : decide (0 < l0.length)=false:=decide_eq_false (by omega)
  clear c3
  (first|rw [ac]|(simp only [i64_w,i32_w];rw [ac])|skip)
  have H' := zm H
  clear H
  go_wp2
  go_meet
  case rel=>exact ⟨_,(false),yq,H',⟨yo⟩,yd⟩
 case rest =>
  clear HC2
  obtain ⟨kq,ae,rfl,HA,HJ1,⟨mc1,rfl⟩⟩:=hcut
  obtain ⟨kj1,rfl⟩:=ysu kq (fun h=>by subst h;exact absurd HA.out (by simp [r07_Fair.j0]))
  have H:=HA.out;clear HA
  simp only [r07_Fair.j0] at H
  have H' := zm H
  clear H
  go_wp2
  go_loopg [3,4] kj1 (fun kq v3 v4 w' => ∃ (af : Bool) (aa : Int),v3=.bool af∧v4=.int .i64 aa∧Aside0 (r07_Fair.l0 kq l0 af aa=some r)∧Aside0 (kq≤kj1)∧Drawn0 w w')
  case atStart=>exact ⟨(ae),(0),yq,yq,H',⟨Nat.le_refl _⟩,yd⟩
  case round =>
   clear H'
   obtain ⟨af,aa,rfl,rfl,HA,HK2,⟨m2,rfl⟩⟩:=hrel
   obtain ⟨k2,rfl⟩:=ysu gk (fun h=>by subst h;exact absurd HA.out (by simp [r07_Fair.l0]))
   have H:=HA.out;clear HA
   simp only [r07_Fair.l0] at H
   by_cases c4 : aa < (l0.length : Int)
   ·
    rw [if_pos c4] at H
    have ap:=yD c4
    clear c4
    by_cases c5 : af=true
    ·
     subst c5
     rw [if_pos rfl] at H
     replace H:=yif H;obtain ⟨c6,H⟩:=H
     have ax : decide (0≤aa)=true:=decide_eq_true c6
     clear c6
     by_cases c7 : (rd l0 aa) ≥ (-1048576)
     ·
      rw [if_pos c7] at H
      have aq:=yDl c7
      clear c7
      have H' := zm H
      clear H
      obtain ⟨ah,ai,ag,au,av⟩:=yai HR0 aa
      cases ai
      have aj : 0≤(aa : Int):=yt
      have ak : aa < (l0.length : Int):=yt
      obtain ⟨al,aw,am⟩:=Kd.at_int HR0.out aa aj ak
      obtain rfl : ah=al:=(by injection aw)
      replace aj:=eq_true aj
      replace ak:=eq_true ak
      go_wp2
      go_roundg k2
      case measure=>exact yom2 HJ1 HK2
      case rel=>exact ⟨(decide ((rd l0 aa)≤1048576)),(wrap64 (aa+1)),yq,yq,H',⟨yom2 HJ1 HK2⟩,yd⟩
     rw [if_neg c7] at H
     have aq:=yGl c7
     clear c7
     have H' := zm H
     clear H
     obtain ⟨ah,ai,ag,au,av⟩:=yai HR0 aa
     cases ai
     go_wp2
     go_roundg k2
     case measure=>exact yom2 HJ1 HK2
     case rel=>exact ⟨(false),(wrap64 (aa+1)),yq,yq,H',⟨yom2 HJ1 HK2⟩,yd⟩
    replace c5:=Bool.eq_false_iff.mpr c5
    subst c5
    rw [ynf] at H
    have H' := zm H
    clear H
    go_wp2
    go_roundg k2
    case measure=>exact yom2 HJ1 HK2
    case rel=>exact ⟨(false),(wrap64 (aa+1)),yq,yq,H',⟨yom2 HJ1 HK2⟩,yd⟩
   rw [if_neg c4] at H
   have ap:=yG c4
   clear c4
   obtain rfl:=Option.some.inj H
   go_wp2
   go_ret
   exact ⟨yq,yd⟩
def r10_Fair.f (k : Nat) (l0 : List Int) : Option (Bool):=if (l0.length : Int)=16 then ((r07_Fair.f k l0).bind fun aa=>(some aa)) else (some false)
theorem r10_Fair.mono : ∀ a0 k,LeO (r10_Fair.f k a0) (r10_Fair.f (k+1) a0):=by
 intro a0 k
 unfold r10_Fair.f
 repeat' with_reducible first|apply r07_Fair.mono|apply yLr|apply yLn|apply yLi|apply yLb|intro _
set_option maxHeartbeats 8000000 in
set_option maxRecDepth 100000 in
theorem r10_Fair.calls (k : Nat) (A0 : Option Addr) (c0 : Nat) (l0 : List Int) (r : Bool) (w : World) (hr0 : Kd.C (Kd.int .i64) w A0 l0.length l0) (hc0 : l0.length≤c0) (h : r10_Fair.f k l0=some r) :
  Calls Try.prog 41 #[.slice A0 l0.length c0] w fun e w' => e=.returned (.bool r)∧Drawn0 w w' := by
 have HR0:=zm hr0;have HC0:=zm hc0;clear hr0 hc0;have H:=h
 unfold r10_Fair.f at H
 clear h
 by_cases c2 : (l0.length : Int)=16
 ·
  rw [if_pos c2] at H
  obtain ⟨ae,af⟩:=yE c2
  clear c2
  replace H:=ybi H;obtain ⟨aa,A3,H⟩:=H
  obtain rfl:=Option.some.inj H
  go_enter Try.func41,Try.ntmps41
  go_wp2_with (first|(go_at_call 82;(with_reducible refine (r07_Fair.calls k _ _ l0 aa _ ?ac HC0.out A3.out).mono ?_);(case ac=>exact yce HR0.out);rintro e w' ⟨rfl,⟨nd,rfl⟩⟩))
  go_ret
  exact ⟨yq,yd⟩
 rw [if_neg c2] at H
 obtain ⟨ae,af⟩:=yF c2
 obtain rfl:=Option.some.inj H
 go_enter Try.func41,Try.ntmps41
 go_wp2
 go_ret
 exact ⟨yq,yd⟩
def r12_Right.f (a0 : Int) (a1 : Int) : Option (Bool):=if a0≤60 then (if a1=1 then (if a0 ≥ 11 then (some true) else (if a1=2 then (some (decide (a0 ≥ 17))) else (some false))) else (if a1=2 then (some (decide (a0 ≥ 17))) else (some false))) else (some false)
set_option maxHeartbeats 8000000 in
set_option maxRecDepth 100000 in
theorem r12_Right.calls (a0 : Int) (a1 : Int) (r : Bool) (w : World) (h : r12_Right.f a0 a1=some r) :
  Calls Try.prog 40 #[.int .i64 a0, .int .i64 a1] w fun e w' => e=.returned (.bool r)∧Drawn0 w w' := by
 have H:=h
 unfold r12_Right.f at H
 clear h
 by_cases c3 : a0≤60
 ·
  rw [if_pos c3] at H
  have aa:=yD c3
  clear c3
  by_cases c4 : a1=1
  ·
   rw [if_pos c4] at H
   obtain ⟨ac,ae⟩:=yE c4
   clear c4
   by_cases c5 : a0 ≥ 11
   ·
    rw [if_pos c5] at H
    have af:=yDl c5
    clear c5
    obtain rfl:=Option.some.inj H
    go_enter Try.func40,Try.ntmps40
    go_wp2
    go_ret
    exact ⟨yq,yd⟩
   rw [if_neg c5] at H
   have af:=yGl c5
   clear c5
   by_cases c6 : a1=2
   ·
    rw [if_pos c6] at H
    obtain ⟨ag,ah⟩:=yE c6
    clear c6
    obtain rfl:=Option.some.inj H
    go_enter Try.func40,Try.ntmps40
    go_wp2
    go_ret
    exact ⟨yq,yd⟩
   rw [if_neg c6] at H
   obtain ⟨ag,ah⟩:=yF c6
   obtain rfl:=Option.some.inj H
   go_enter Try.func40,Try.ntmps40
   go_wp2
   go_ret
   exact ⟨yq,yd⟩
  rw [if_neg c4] at H
  obtain ⟨ac,ae⟩:=yF c4
  by_cases c7 : a1=2
  ·
   rw [if_pos c7] at H
   obtain ⟨ai,aj⟩:=yE c7
   clear c7
   obtain rfl:=Option.some.inj H
   go_enter Try.func40,Try.ntmps40
   go_wp2
   go_ret
   exact ⟨yq,yd⟩
  rw [if_neg c7] at H
  obtain ⟨ai,aj⟩:=yF c7
  obtain rfl:=Option.some.inj H
  go_enter Try.func40,Try.ntmps40
  go_wp2
  go_ret
  exact ⟨yq,yd⟩
 rw [if_neg c3] at H
 have aa:=yG c3
 clear c3
 obtain rfl:=Option.some.inj H
 go_enter Try.func40,Try.ntmps40
 go_wp2
 go_ret
 exact ⟨yq,yd⟩
mutual
def r23_Right.j0 : Nat→Int→Bool→List (List Int)→Option (Bool)
 | 0,_,_,_=>none
 | k+1,x1,x18,ae=>if x18=true then (some false) else (r23_Right.l0 k x1 0 ae)
def r23_Right.l0 : Nat→Int→Int→List (List Int)→Option (Bool)
 | 0,_,_,_=>none
 | k+1,x1,x7,ae=>if x7 < x1 then (if 0≤x7 then (if x7 < (ae.length : Int) then ((r10_Fair.f k (rd_L1 ae x7)).bind fun az=>(if az=true then (r23_Right.l0 k x1 (wrap64 (x7+1)) ae) else (some false))) else (none)) else (none)) else (some true)
end
def r23_Right.f (k : Nat) (a0 : Int) (a1 : Int) (aa : List (List Int)) : Option (Bool):=(r12_Right.f a0 a1).bind fun aA=>(if aA=true then (r23_Right.j0 k a1 ((aa.length : Int) != a1) aa) else (r23_Right.j0 k a1 true aa))
theorem r23_Right.mono_l : ∀ k,(∀ y0 y1 y2,LeO (r23_Right.j0 k y0 y1 y2) (r23_Right.j0 (k+1) y0 y1 y2))∧(∀ y0 y1 y2,LeO (r23_Right.l0 k y0 y1 y2) (r23_Right.l0 (k+1) y0 y1 y2))
 | 0=>⟨fun _ _ _ r h=>by simp [r23_Right.j0] at h,fun _ _ _ r h=>by simp [r23_Right.l0] at h⟩
 | k+1=>by
  obtain ⟨ih0,ih1⟩:=r23_Right.mono_l k
  refine ⟨?_, ?_⟩
  ·
   intro y0 y1 y2
   unfold r23_Right.j0
   repeat' with_reducible first|apply ih0|apply ih1|apply r10_Fair.mono|apply yLr|apply yLn|apply yLi|apply yLb|intro _
  intro y0 y1 y2
  unfold r23_Right.l0
  repeat' with_reducible first|apply ih0|apply ih1|apply r10_Fair.mono|apply yLr|apply yLn|apply yLi|apply yLb|intro _
theorem r23_Right.mono : ∀ a0 a1 a2 k,LeO (r23_Right.f k a0 a1 a2) (r23_Right.f (k+1) a0 a1 a2):=by
 intro a0 a1 a2 k
 obtain ⟨ih0,ih1⟩:=r23_Right.mono_l k
 unfold r23_Right.f
 repeat' with_reducible first|apply ih0|apply ih1|apply r10_Fair.mono|apply yLr|apply yLn|apply yLi|apply yLb|intro _
set_option maxHeartbeats 8000000 in
set_option maxRecDepth 100000 in
theorem r23_Right.calls (k : Nat) (a0 : Int) (a1 : Int) (au : Option Addr) (av : Nat) (aa : List (List Int)) (r : Bool) (w : World) (hr2_0 : Kd.C (Kd.slice 2 (Kd.int .i64)) w au aa.length aa) (hc2_0 : aa.length≤av) (h : r23_Right.f k a0 a1 aa=some r) :
  Calls Try.prog 14 #[.int .i64 a0, .int .i64 a1, .agg #[.slice au aa.length av]] w fun e w' => e=.returned (.bool r)∧Below w.heap.size w w' := by
 have hu24:=Try.underlying24;have ax:=zm hr2_0;have aG:=zm hc2_0;clear hr2_0 hc2_0;have HB:=zm (Below.refl w.heap.size w);have H:=h
 unfold r23_Right.f at H
 clear h;have HC4:=zm H;clear H
 go_enter Try.func14,Try.ntmps14
 go_upto_region 1 with (first|((with_reducible refine gate_dst (N:=5) rfl ?_);(try (refine gate_guard (by rfl) ?_;dsimp only));refine ybx 5 #[.slice au aa.length av] 24 ?_;intro ay hg w5 hbox hb;have af:=zm (hbox);have aH:=ygw hg;have aI:=ygw hg;replace HB:=ybs hb;clear hb hbox hg))
 (try simp only [Act.put,List.setIfInBounds_toArray,List.set_cons_zero,List.set_cons_succ])
 go_cut [18] (fun v18 wc => ∃ (kq : Nat) (aq : Bool),v18=.bool aq∧Aside0 (r23_Right.j0 kq a1 aq aa=some r)∧Aside0 (kq≤k)∧Aside0 (wc.heap[ay]? = some (.cells #[(.slice au aa.length av)] 24 (0,0)))∧Aside0 (Below w.heap.size w wc))
 case first =>
  have H:=HC4.out;clear HC4
  replace H:=ybi H;obtain ⟨aA,A6,H⟩:=H
  by_cases c7 : aA=true
  ·
   subst c7
   rw [if_pos rfl] at H
   have H' := zm H
   clear H
   go_wp2_with (first|((with_reducible refine gate_callee (f:=40) rfl ?_);refine ygl 10 Try.func40 #[.int .i64 a0, .int .i64 a1] ?_;(with_reducible refine (r12_Right.calls a0 a1 true _ A6.out).mono ?_);rintro e w' ⟨rfl,⟨nd,rfl⟩⟩;refine ⟨_,rfl, ?_⟩;obtain ⟨_,_⟩:=yc1 af))
   go_meet
   case rel=>exact ⟨_,(((aa.length : Int) != a1)),yq,H',⟨yo⟩,⟨yk af⟩,⟨yhb⟩⟩
  replace c7:=Bool.eq_false_iff.mpr c7
  subst c7
  rw [ynf] at H
  have H' := zm H
  clear H
  go_wp2_with (first|((with_reducible refine gate_callee (f:=40) rfl ?_);refine ygl 10 Try.func40 #[.int .i64 a0, .int .i64 a1] ?_;(with_reducible refine (r12_Right.calls a0 a1 false _ A6.out).mono ?_);rintro e w' ⟨rfl,⟨nd,rfl⟩⟩;refine ⟨_,rfl, ?_⟩))
  go_meet
  case rel=>exact ⟨_,(true),yq,H',⟨yo⟩,⟨yk af⟩,⟨yhb⟩⟩
 case rest =>
  clear HC4
  obtain ⟨kq,aq,rfl,HA,HJ3,af,HB⟩:=hcut
  obtain ⟨kj3,rfl⟩:=ysu kq (fun h=>by subst h;exact absurd HA.out (by simp [r23_Right.j0]))
  have H:=HA.out;clear HA
  simp only [r23_Right.j0] at H
  by_cases c9 : aq=true
  ·
   subst c9
   rw [if_pos rfl] at H
   obtain rfl:=Option.some.inj H
   go_wp2
   go_ret
   exact ⟨ye,yhb⟩
  replace c9:=Bool.eq_false_iff.mpr c9
  subst c9
  rw [ynf] at H
  have H' := zm H
  clear H
  go_wp2
  go_loopg [7] kj3 (fun kq v7 w' => ∃ (ac : Int),v7=.int .i64 ac∧Aside0 (r23_Right.l0 kq a1 ac aa=some r)∧Aside0 (kq≤kj3)∧Aside0 (w'.heap[ay]? = some (.cells #[(.slice au aa.length av)] 24 (0,0)))∧Aside0 (Below w.heap.size w w'))
  case atStart=>exact ⟨(0),yq,H',⟨Nat.le_refl _⟩,⟨yk af⟩,⟨yhb⟩⟩
  case round =>
   clear H'
   obtain ⟨ac,rfl,HA,HK2,af,HB⟩:=hrel
   obtain ⟨k2,rfl⟩:=ysu gk (fun h=>by subst h;exact absurd HA.out (by simp [r23_Right.l0]))
   have H:=HA.out;clear HA
   simp only [r23_Right.l0] at H
   by_cases c10 : ac < a1
   ·
    rw [if_pos c10] at H
    have aD:=yD c10
    clear c10
    replace H:=yif H;obtain ⟨c11,H⟩:=H
    have aJ : decide (0≤ac)=true:=decide_eq_true c11
    clear c11
    replace H:=yif H;obtain ⟨c12,H⟩:=H
    have aK : decide (ac < (aa.length : Int))=true:=decide_eq_true c12
    clear c12
    replace H:=ybi H;obtain ⟨az,A13,H⟩:=H
    by_cases c14 : az=true
    ·
     subst c14
     rw [if_pos rfl] at H
     have H' := zm H
     clear H
     obtain ⟨_,_⟩:=yc1 af
     have al : 0≤(ac : Int):=yt
     have am : ac < (aa.length : Int):=yt
     obtain ⟨aE,ao,ap,aC,ag,ah,ai⟩:=at_L1 ax.out ac al am
     cases aC
     replace ag:=yhx HB ag
     have aj:=zm ai;have ak:=zm ah;clear ai ah
     replace al:=eq_true al
     replace am:=eq_true am
     go_wp2_with (first|((with_reducible refine gate_callee (f:=41) rfl ?_);refine ygl 29 Try.func41 #[.slice ao (rd_L1 aa ac).length ap] ?_;(with_reducible refine (r10_Fair.calls k2 _ _ (rd_L1 aa ac) true _ ?aw ak.out A13.out).mono ?_);(case aw=>exact ycb aj);rintro e w' ⟨rfl,⟨nd,rfl⟩⟩;refine ⟨_,rfl, ?_⟩))
     go_roundg k2
     case measure=>exact yom2 HJ3 HK2
     case rel=>exact ⟨(wrap64 (ac+1)),yq,H',⟨yom2 HJ3 HK2⟩,⟨yk af⟩,⟨yhb⟩⟩
    replace c14:=Bool.eq_false_iff.mpr c14
    subst c14
    rw [ynf] at H
    obtain rfl:=Option.some.inj H
    obtain ⟨_,_⟩:=yc1 af
    have al : 0≤(ac : Int):=yt
    have am : ac < (aa.length : Int):=yt
    obtain ⟨aE,ao,ap,aC,ag,ah,ai⟩:=at_L1 ax.out ac al am
    cases aC
    replace ag:=yhx HB ag
    have aj:=zm ai;have ak:=zm ah;clear ai ah
    replace al:=eq_true al
    replace am:=eq_true am
    go_wp2_with (first|((with_reducible refine gate_callee (f:=41) rfl ?_);refine ygl 29 Try.func41 #[.slice ao (rd_L1 aa ac).length ap] ?_;(with_reducible refine (r10_Fair.calls k2 _ _ (rd_L1 aa ac) false _ ?aw ak.out A13.out).mono ?_);(case aw=>exact ycb aj);rintro e w' ⟨rfl,⟨nd,rfl⟩⟩;refine ⟨_,rfl, ?_⟩))
    go_ret
    exact ⟨ye,yhb⟩
   rw [if_neg c10] at H
   have aD:=yG c10
   clear c10
   obtain rfl:=Option.some.inj H
   go_wp2
   go_ret
   exact ⟨ye,yhb⟩
def w23_ToneWrites.j0 : Nat→Int→Int→Bool→List (List Int)→Bool→List (List Int)→Option (Bool)
 | 0,_,_,_,_,_,_=>none
 | k+1,x0,x1,x3,x4,x24,ba=>if x24=true then ((w23_knows.f k).bind fun bo=>(some bo)) else ((ccodec_Encode.f k x0 x1 ba x3).bind fun ay=>(if ay.2.2.2=0 then ((cpack_Write.f k x0 x1 ay.1 ay.2.1 ay.2.2.1 x4).bind fun bj=>((cpack_Read.f k x0 x1 bj.1 x4).bind fun a9=>((cpack_Right.f k x0 x1 ay.1 ay.2.1 ay.2.2.1).bind fun bF=>(if bF=true then (if bj.2=0 then (if a9.2.2.2=0 then (if (bj.1.length : Int)=x0 then ((w13_As.f ay.1 ay.2.1 ay.2.2.1).bind fun bk=>((w13_As.f a9.1 a9.2.1 a9.2.2.1).bind fun bl=>((r13_Same.f k bk.1 bk.2.1 bk.2.2 bl.1 bl.2.1 bl.2.2).bind fun bG=>(if bG=true then ((w23_knows.f k).bind fun bp=>(some bp)) else (none))))) else (none)) else (none)) else (none)) else (none))))) else ((r23_Right.f k x0 x1 ba).bind fun bH=>(if bH=true then (none) else ((w23_knows.f k).bind fun bq=>(some bq))))))
def w23_ToneWrites.f (k : Nat) (a0 : Int) (a1 : Int) (ax : List (List Int)) (a3 : Bool) (l4 : List (List Int)) : Option (Bool):=(w23_great.f k ax).bind fun br=>(if br=true then (w23_ToneWrites.j0 k a0 a1 a3 l4 true ax) else ((r12_Fair.f k a1 l4).bind fun bm=>(w23_ToneWrites.j0 k a0 a1 a3 l4 (!bm) ax)))
theorem w23_ToneWrites.mono_l : ∀ k,(∀ y0 y1 y2 y3 y4 y5,LeO (w23_ToneWrites.j0 k y0 y1 y2 y3 y4 y5) (w23_ToneWrites.j0 (k+1) y0 y1 y2 y3 y4 y5))
 | 0=>fun _ _ _ _ _ _ r h=>by simp [w23_ToneWrites.j0] at h
 | k+1=>by
  have ih0:=w23_ToneWrites.mono_l k
  ·
   intro y0 y1 y2 y3 y4 y5
   unfold w23_ToneWrites.j0
   repeat' with_reducible first|apply ih0|apply ccodec_Encode.mono|apply cpack_Read.mono|apply cpack_Right.mono|apply cpack_Write.mono|apply w23_great.mono|apply w23_knows.mono|apply r12_Fair.mono|apply r13_Same.mono|apply r23_Right.mono|apply yLr|apply yLn|apply yLi|apply yLb|intro _
theorem w23_ToneWrites.mono : ∀ a0 a1 a2 a3 a4 k,LeO (w23_ToneWrites.f k a0 a1 a2 a3 a4) (w23_ToneWrites.f (k+1) a0 a1 a2 a3 a4):=by
 intro a0 a1 a2 a3 a4 k
 have ih0:=w23_ToneWrites.mono_l k
 unfold w23_ToneWrites.f
 repeat' with_reducible first|apply ih0|apply ccodec_Encode.mono|apply cpack_Read.mono|apply cpack_Right.mono|apply cpack_Write.mono|apply w23_great.mono|apply w23_knows.mono|apply r12_Fair.mono|apply r13_Same.mono|apply r23_Right.mono|apply yLr|apply yLn|apply yLi|apply yLb|intro _
def w23_ToneWrites.T8 : Bool × List (List Nat × List Nat):=(true, [([], []),([], []),([], []),([0,1,2], [0,1,2]),([3,3], [3]),([4], [4]),([5,4], [4,5]),([4,6], [4,6]),([7,4], [7]),([8], [8]),([9,8], [8,9]),([8,10], [8,10]),([11,8], [11]),([12], [12]),([13,12], [12,13]),([12], [12]),([14,15,12], [12,14,15]),([12,16], [12,16]),([17,12], [17]),([18], [18]),([19,18,18], [18,19]),([18], [18]),([21,20,18], [18,21]),([20,22,22,18], [18,20,22]),([18,23], [18,23]),([24,23], [24]),([25,25], [25]),([25,26], [25,26]),([27,26,0,1,2,3,4,5,6,7,8,9,10,11,12,13,14,15,16,17,18,19,20,21,22,23,24,25,26,27], [27])])
def w23_ToneWrites.B8 : List Nat := [0,0,0,7,15,31,63,127,255,511,1023,2047,4095,8191,16383,8191,65535,131071,262143,524287,1048575,524287,4194303,8388607,16777215,33554431,67108863,134217727,268435455]
theorem w23_ToneWrites.tab8 : rtab .any (opsOf Try.f3 8)=w23_ToneWrites.T8:=by kernel_rfl
theorem w23_ToneWrites.bits8 : waitsOk w23_ToneWrites.T8.2 w23_ToneWrites.B8=true:=by kernel_rfl
set_option maxHeartbeats 8000000 in
set_option maxRecDepth 100000 in
theorem w23_ToneWrites.calls (k : Nat) (a0 : Int) (a1 : Int) (aZ : Option Addr) (a7 : Nat) (ax : List (List Int)) (a3 : Bool) (A4 : Option Addr) (c4 : Nat) (l4 : List (List Int)) (r : Bool) (w : World) (hr2_0 : Kd.C (Kd.slice 2 (Kd.int .i64)) w aZ ax.length ax) (hc2_0 : ax.length≤a7) (hr4 : Kd.C (Kd.slice 3 (Kd.int .i64)) w A4 l4.length l4) (hc4 : l4.length≤c4) (h : w23_ToneWrites.f k a0 a1 ax a3 l4=some r) :
  Calls Try.prog 3 #[.int .i64 a0, .int .i64 a1, .agg #[.slice aZ ax.length a7], .bool a3, .slice A4 l4.length c4] w fun e w' => e=.returned (.bool r)∧Below w.heap.size w w' := by
 have hu24:=Try.underlying24;have hu31:=Try.underlying31;have bb:=zm hr2_0;have bc:=zm hc2_0;clear hr2_0 hc2_0;have HR4:=zm hr4;have HC4:=zm hc4;clear hr4 hc4;have HB:=zm (Below.refl w.heap.size w);have H:=h
 unfold w23_ToneWrites.f at H
 clear h;have HC6:=zm H;clear H
 go_enter Try.func3,Try.ntmps3
 go_upto_region 1 with (first|((with_reducible refine gate_dst (N:=7) rfl ?_);(try (refine gate_guard (by rfl) ?_;dsimp only));refine ybx 7 #[.slice aZ ax.length a7] 24 ?_;intro aj hg w7 hbox hb;have aa:=zm (hbox);have b6:=ygw hg;have b7:=ygw hg;replace HB:=ybs hb;clear hb hbox hg))
 (try simp only [Act.put,List.setIfInBounds_toArray,List.set_cons_zero,List.set_cons_succ])
 go_cut [24] (fun v24 wc => ∃ (kq : Nat) (bn : Bool),v24=.bool bn∧Aside0 (w23_ToneWrites.j0 kq a0 a1 a3 l4 bn ax=some r)∧Aside0 (kq≤k)∧Aside0 (wc.heap[aj]? = some (.cells #[(.slice aZ ax.length a7)] 24 (0,0)))∧Aside0 (Below w.heap.size w wc))
 case first =>
  have H:=HC6.out;clear HC6
  replace H:=ybi H;obtain ⟨br,A8,H⟩:=H
  by_cases c9 : br=true
  ·
   subst c9
   rw [if_pos rfl] at H
   have H' := zm H
   clear H
   obtain ⟨_,_⟩:=yc1 aa
   go_wp2_with (first|((with_reducible refine gate_callee (f:=10) rfl ?_);refine ygl 18 Try.func10 #[.agg #[.slice aZ ax.length a7]] ?_;(with_reducible refine (w23_great.calls k _ _ ax true _ ?aq bc.out A8.out).mono ?_);(case aq=>exact ycb bb);rintro e w11 ⟨rfl,hb⟩;refine ⟨_,rfl, ?_⟩;replace aa:=ybb aa hb;replace HB:=ybs hb;(try clear hb)))
   go_meet
   case rel=>exact ⟨_,(true),yq,H',⟨yo⟩,⟨yk aa⟩,⟨yhb⟩⟩
  replace c9:=Bool.eq_false_iff.mpr c9
  subst c9
  rw [ynf] at H
  replace H:=ybi H;obtain ⟨bm,A12,H⟩:=H
  have H' := zm H
  clear H
  obtain ⟨_,_⟩:=yc1 aa
  go_wp2_with (first|((with_reducible refine gate_callee (f:=10) rfl ?_);refine ygl 18 Try.func10 #[.agg #[.slice aZ ax.length a7]] ?_;(with_reducible refine (w23_great.calls k _ _ ax false _ ?aq bc.out A8.out).mono ?_);(case aq=>exact ycb bb);rintro e w14 ⟨rfl,hb⟩;refine ⟨_,rfl, ?_⟩;replace aa:=ybb aa hb;replace HB:=ybs hb;(try clear hb))|(go_at_call 11;(with_reducible refine (r12_Fair.calls k a1 _ _ l4 bm _ ?aq HC4.out A12.out).mono ?_);(case aq=>exact ycb HR4);rintro e w' ⟨rfl,⟨nd,rfl⟩⟩))
  go_meet
  case rel=>exact ⟨_,(!bm),yq,H',⟨yo⟩,⟨yk aa⟩,⟨yhb⟩⟩
 case rest =>
  clear HC6
  try clear c4
  obtain ⟨kq,bn,rfl,HA,HJ5,aa,HB⟩:=hcut
  obtain ⟨kj5,rfl⟩:=ysu kq (fun h=>by subst h;exact absurd HA.out (by simp [w23_ToneWrites.j0]))
  have H:=HA.out;clear HA
  simp only [w23_ToneWrites.j0] at H
  by_cases c15 : bn=true
  ·
   subst c15
   rw [if_pos rfl] at H
   replace H:=ybi H;obtain ⟨bo,A16,H⟩:=H
   obtain rfl:=Option.some.inj H
   go_wp2_with (first|((with_reducible refine gate_callee (f:=12) rfl ?_);refine ygl 25 Try.func12 #[] ?_;(with_reducible refine (w23_knows.calls kj5  bo _ A16.out).mono ?_);rintro e w17 ⟨rfl,hb⟩;refine ⟨_,rfl, ?_⟩;replace aa:=ybb aa hb;replace HB:=ybs hb;(try clear hb)))
   go_ret
   exact ⟨ye,yhb⟩
  replace c15:=Bool.eq_false_iff.mpr c15
  subst c15
  rw [ynf] at H
  replace H:=ybi H;obtain ⟨⟨aE,ao,ap,bs⟩,A18,H⟩:=H
  try dsimp only at H
  by_cases c19 : bs=0
  ·
   rw [if_pos c19] at H
   obtain ⟨bM,bN⟩:=yE c19
   clear c19
   replace H:=ybi H;obtain ⟨⟨au,bI⟩,A20,H⟩:=H
   try dsimp only at H
   replace H:=ybi H;obtain ⟨⟨a8,av,aw,bJ⟩,A21,H⟩:=H
   try dsimp only at H
   replace H:=ybi H;obtain ⟨bF,A22,H⟩:=H
   replace H:=yif H;obtain ⟨c23,H⟩:=H
   subst c23
   by_cases c24 : bI=0
   ·
    rw [if_pos c24] at H
    obtain ⟨bO,bP⟩:=yE c24
    clear c24
    by_cases c25 : bJ=0
    ·
     rw [if_pos c25] at H
     obtain ⟨bQ,bR⟩:=yE c25
     clear c25
     by_cases c26 : (au.length : Int)=a0
     ·
      rw [if_pos c26] at H
      obtain ⟨bS,bT⟩:=yE c26
      clear c26
      replace H:=ybi H;obtain ⟨⟨bu,bv,bw⟩,A27,H⟩:=H
      try dsimp only at H
      replace H:=ybi H;obtain ⟨⟨bx,bz,bA⟩,A28,H⟩:=H
      try dsimp only at H
      replace H:=ybi H;obtain ⟨bG,A29,H⟩:=H
      replace H:=yif H;obtain ⟨c30,H⟩:=H
      subst c30
      replace H:=ybi H;obtain ⟨bp,A31,H⟩:=H
      obtain rfl:=Option.some.inj H
      obtain ⟨_,_⟩:=yc1 aa
      try go_wp2_with (first|((with_reducible refine gate_callee (f:=13) rfl ?_);refine ygl 31 Try.func13 #[.int .i64 a0, .int .i64 a1, .agg #[.slice aZ ax.length a7], .bool a3] ?_;(with_reducible refine (ccodec_Encode.calls kj5 a0 a1 _ _ ax a3 aE ao ap bs _ ?aq bc.out A18.out).mono ?_);(case aq=>exact ycb bb);rintro e w33 ⟨bB,bC,rfl,ho0,ho1,hb⟩;refine ⟨_,rfl, ?_⟩;have ac:=zm (Kd.N_lower (Kd.N_mono (ok' := fun k_=>some k_≠(bC : Value).ownBlock∧k_≠aj) ho0 (fun k_ hk_=>⟨hk_.2,(Kd.freshB (yk aa) k_ hk_.1)⟩)) (zE yhb));have ae:=zm (Kd.N_lower (Kd.N_mono (ok' := fun k_=>some k_≠(bB : Value).ownBlock∧k_≠aj) ho1 (fun k_ hk_=>⟨hk_.2,(Kd.freshB (yk aa) k_ hk_.1)⟩)) (zE yhb));replace aa:=ybb aa hb;replace HB:=ybs hb;(try clear hb);(try clear ho0);(try clear ho1))|((with_reducible refine gate_dst (N:=11) rfl ?_);(try (refine gate_guard (by rfl) ?_;dsimp only));refine ybx 11 #[.bool false, .slice none 0 0, .slice none 0 0] 31 ?_;intro ah hg w34 hbox hb;replace ac:=zm (Kd.N_below (Kd.N_elderB (yr ac) ah (Nat.le_of_eq hg.symm)) hb);replace ae:=zm (Kd.N_below (Kd.N_elderB (yr ae) ah (Nat.le_of_eq hg.symm)) hb);have af:=zm (hbox);have bK:=ygw hg;have bL:=ygw hg;replace HB:=ybs hb;have aI:=ynl aa hg;have aJ:=yng aa hg;replace aa:=ybb aa hb;clear hb hbox hg;have:=aJ.out;have:=aI.out;obtain ⟨_,_,_,_,_,_⟩:=yc3 af;obtain ⟨aG,az,b8⟩:=Kd.N_slice ac.out;subst b8;obtain ⟨aH,aA,b9⟩:=Kd.N_slice ae.out;subst b9)|((with_reducible refine gate_callee (f:=15) rfl ?_);refine ygl 49 Try.func15 #[.int .i64 a0, .int .i64 a1, .agg #[.bool aE, .slice aG ao.length az, .slice aH ap.length aA], .slice A4 l4.length c4] ?_;(with_reducible refine (cpack_Write.calls kj5 a0 a1 aE _ _ ao _ _ ap _ _ l4 au bI _ ?aq ?aK ?aY ?bd ?bD ?bE A20.out).mono ?_);(case aq=>refine (Kd.N_reads' (e:=55) (base:=w.heap.size) (ok:=fun k_=>((some k_≠(.slice aH ap.length aA : Value).ownBlock∧k_≠aj)∧k_≠ah)) (n:=ao.length) (c:=az) ?_).2.2;exact (yN0 ac));(case aK=>exact (Kd.N_reads' ac.out).2.1);(case aY=>refine (Kd.N_reads' (e:=25) (base:=w.heap.size) (ok:=fun k_=>((some k_≠(.slice aG ao.length az : Value).ownBlock∧k_≠aj)∧k_≠ah)) (n:=ap.length) (c:=aA) ?_).2.2;exact (yN0 ae));(case bd=>exact (Kd.N_reads' ae.out).2.1);(case bD=>exact Kd.C_below HR4.out yhb);(case bE=>exact HC4.out);rintro e w39 ⟨cw,rfl,ho0,hb⟩;refine ⟨_,rfl, ?_⟩;replace ac:=zm (Kd.N_elder' (yN0 ac) (Kd.R_base ho0) hb);replace ae:=zm (Kd.N_elder' (yN0 ae) (Kd.R_base ho0) hb);have ag:=zm (Kd.R_lower ho0 (zE yhb));replace aa:=ybb aa hb;replace af:=zm (zF (g:=ah) (o:=.cells #[.bool aE, .slice aG ao.length az, .slice aH ap.length aA] 31 (0,0)) (ykp af) hb);replace HB:=ybs hb;(try clear hb);(try clear ho0);obtain ⟨aM,aN,ca⟩:=Kd.R_slice ag.out;subst ca)|((with_reducible refine gate_callee (f:=16) rfl ?_);refine ygl 57 Try.func16 #[.int .i64 a0, .int .i64 a1, .slice aM au.length aN, .slice A4 l4.length c4] ?_;(with_reducible refine (cpack_Read.calls kj5 a0 a1 _ _ au _ _ l4 a8 av aw bJ _ ?aq ?aK ?aY HC4.out A21.out).mono ?_);(case aq=>exact yce (Kd.R_reads' ag.out).2.2);(case aK=>exact (Kd.R_reads' ag.out).2.1);(case aY=>exact ycb HR4);rintro e w41 ⟨bU,bV,rfl,ho0,ho1,hb⟩;refine ⟨_,rfl, ?_⟩;have ak:=zm (Kd.N_lower (Kd.N_mono (ok' := fun k_=>some k_≠(bV : Value).ownBlock∧some k_≠(.slice aG ao.length az : Value).ownBlock∧some k_≠(.slice aH ap.length aA : Value).ownBlock∧some k_≠(.slice aM au.length aN : Value).ownBlock∧k_≠aj∧k_≠ah) (Kd.S_N (Kd.S_bound (Kd.S_apart' ho0 (Kd.R_typed ho1) (by decide)))) (fun k_ hk_=>⟨hk_.1.2,(Kd.fresh' (Kd.N_lt (yr ac)) k_ hk_.2.1),(Kd.fresh' (Kd.N_lt (yr ae)) k_ hk_.2.1),(Kd.fresh' (Kd.R_lt (yr ag)) k_ hk_.2.1),(Kd.freshB (yk aa) k_ hk_.2.1),(Kd.freshB (yk af) k_ hk_.2.1)⟩)) (zE yhb));have al:=zm (Kd.N_lower (Kd.N_mono (ok' := fun k_=>some k_≠(bU : Value).ownBlock∧some k_≠(.slice aG ao.length az : Value).ownBlock∧some k_≠(.slice aH ap.length aA : Value).ownBlock∧some k_≠(.slice aM au.length aN : Value).ownBlock∧k_≠aj∧k_≠ah) (Kd.R_N (Kd.R_bound ho1)) (fun k_ hk_=>⟨hk_.1,(Kd.fresh' (Kd.N_lt (yr ac)) k_ hk_.2.1),(Kd.fresh' (Kd.N_lt (yr ae)) k_ hk_.2.1),(Kd.fresh' (Kd.R_lt (yr ag)) k_ hk_.2.1),(Kd.freshB (yk aa) k_ hk_.2.1),(Kd.freshB (yk af) k_ hk_.2.1)⟩)) (zE yhb));replace ac:=zm (Kd.N_mono (Kd.N_told (Kd.N_told (Kd.N_old (yr ac) hb) (Kd.S_base ho0)) (Kd.R_base ho1)) (fun _ h_=>h_.1));replace ae:=zm (Kd.N_mono (Kd.N_told (Kd.N_told (Kd.N_old (yr ae) hb) (Kd.S_base ho0)) (Kd.R_base ho1)) (fun _ h_=>h_.1));replace ag:=yRb ag hb;replace aa:=ybb aa hb;replace af:=ybb af hb;replace HB:=ybs hb;(try clear hb);(try clear ho0);(try clear ho1))|((with_reducible refine gate_dst (N:=15) rfl ?_);(try (refine gate_guard (by rfl) ?_;dsimp only));refine ybx 15 #[.bool false, .slice none 0 0, .slice none 0 0] 31 ?_;intro ai hg w42 hbox hb;replace ac:=zm (Kd.N_below (Kd.N_elderB (yr ac) ai (Nat.le_of_eq hg.symm)) hb);replace ae:=zm (Kd.N_below (Kd.N_elderB (yr ae) ai (Nat.le_of_eq hg.symm)) hb);replace ag:=yRb ag hb;replace ak:=zm (Kd.N_below (Kd.N_elderB (yr ak) ai (Nat.le_of_eq hg.symm)) hb);replace al:=zm (Kd.N_below (Kd.N_elderB (yr al) ai (Nat.le_of_eq hg.symm)) hb);have am:=zm (hbox);have cb:=ygw hg;have ce:=ygw hg;replace HB:=ybs hb;have bf:=ynl aa hg;have bg:=yng aa hg;replace aa:=ybb aa hb;have bh:=ynl af hg;have bi:=yng af hg;replace af:=ybb af hb;clear hb hbox hg;have:=bg.out;have:=bf.out;have:=bi.out;have:=bh.out;obtain ⟨_,_,_,_,_,_⟩:=yc3 am;obtain ⟨aU,aV,cf⟩:=Kd.N_slice ak.out;subst cf;obtain ⟨aW,aX,cg⟩:=Kd.N_slice al.out;subst cg))
      obtain ⟨w48,hw_⟩ : ∃ x,x=(((w42.setCell ⟨ai,0,none⟩ (.bool a8)).setCell ⟨ai,1,none⟩ (.slice aU av.length aV)).setCell ⟨ai,2,none⟩ (.slice aW aw.length aX)):=⟨_,rfl⟩
      rw [← hw_]
      replace ac : Aside0 (Kd.N (Kd.slice 3 (Kd.int .i64)) 55 w48 w.heap.size (fun k_=>some k_≠(.slice aH ap.length aA : Value).ownBlock∧some k_≠(.slice aM au.length aN : Value).ownBlock∧some k_≠(.slice aU av.length aV : Value).ownBlock∧some k_≠(.slice aW aw.length aX : Value).ownBlock∧k_≠aj∧k_≠ah∧k_≠ai) (.slice aG ao.length az) ao):=⟨by rw [hw_];exact (yN0 ac)⟩
      replace ae : Aside0 (Kd.N (Kd.slice 55 (Kd.slice 3 (Kd.int .i64))) 25 w48 w.heap.size (fun k_=>some k_≠(.slice aG ao.length az : Value).ownBlock∧some k_≠(.slice aM au.length aN : Value).ownBlock∧some k_≠(.slice aU av.length aV : Value).ownBlock∧some k_≠(.slice aW aw.length aX : Value).ownBlock∧k_≠aj∧k_≠ah∧k_≠ai) (.slice aH ap.length aA) ap):=⟨by rw [hw_];exact (yN0 ae)⟩
      replace ag : Aside0 (Kd.R (Kd.int .u8) 5 w48 w.heap.size (fun _=>True) (.slice aM au.length aN) au):=⟨by rw [hw_];exact (yR1 ag am)⟩
      replace ak : Aside0 (Kd.N (Kd.slice 3 (Kd.int .i64)) 55 w48 w.heap.size (fun k_=>some k_≠(.slice aG ao.length az : Value).ownBlock∧some k_≠(.slice aH ap.length aA : Value).ownBlock∧some k_≠(.slice aM au.length aN : Value).ownBlock∧some k_≠(.slice aW aw.length aX : Value).ownBlock∧k_≠aj∧k_≠ah∧k_≠ai) (.slice aU av.length aV) av):=⟨by rw [hw_];exact (yN0 ak)⟩
      replace al : Aside0 (Kd.N (Kd.slice 55 (Kd.slice 3 (Kd.int .i64))) 25 w48 w.heap.size (fun k_=>some k_≠(.slice aG ao.length az : Value).ownBlock∧some k_≠(.slice aH ap.length aA : Value).ownBlock∧some k_≠(.slice aM au.length aN : Value).ownBlock∧some k_≠(.slice aU av.length aV : Value).ownBlock∧k_≠aj∧k_≠ah∧k_≠ai) (.slice aW aw.length aX) aw):=⟨by rw [hw_];exact (yN0 al)⟩
      replace aa : Aside0 (w48.heap[aj]? = some (.cells #[.slice aZ ax.length a7] 24 (0,0))):=⟨by rw [hw_];exact (yk aa)⟩
      replace af : Aside0 (w48.heap[ah]? = some (.cells #[.bool aE, .slice aG ao.length az, .slice aH ap.length aA] 31 (0,0))):=⟨by rw [hw_];exact (yk af)⟩
      replace am : Aside0 (w48.heap[ai]? = some (.cells #[.bool a8, .slice aU av.length aV, .slice aW aw.length aX] 31 (0,0))):=⟨by rw [hw_];exact (ykp am)⟩
      replace HB : Aside0 (Below w.heap.size w w48):=⟨by rw [hw_];exact (yhb)⟩
      clear hw_
      replace ac:=zm (Kd.N_drew ac.out)
      replace ae:=zm (Kd.N_drew ae.out)
      replace ag:=zm (zq ag.out)
      replace ak:=zm (Kd.N_drew ak.out)
      replace al:=zm (Kd.N_drew al.out)
      replace aa:=zm (zj aa.out)
      replace af:=zm (zj af.out)
      replace am:=zm (zj am.out)
      replace HB:=zm (zf HB.out)
      refine yst (fun w' => w'.cell? ⟨ah,0,none⟩=some (.bool aE)∧w'.cell? ⟨ah,1,none⟩=some (.slice aG ao.length az)∧w'.cell? ⟨ah,2,none⟩=some (.slice aH ap.length aA)∧w'.cell? ⟨ai,0,none⟩=some (.bool a8)∧w'.cell? ⟨ai,1,none⟩=some (.slice aU av.length aV)∧w'.cell? ⟨ai,2,none⟩=some (.slice aW aw.length aX)) [] 29 w23_ToneWrites.tab8 w23_ToneWrites.bits8 (fun hHeld HT_ HW_ => ?_)
      generalize w48.drew=w49 at ac ae ag ak al aa af am HB hHeld ⊢
      refine yp 0 60 HT_ ?_
      refine yp 1 61 HT_ ?_
      refine yl 2 62 HT_ HW_ hHeld ?_
      refine yw 3 63 HT_ (fun K hK => ?_)
      refine ygs Try.func17 #[.int .i64 a0, .int .i64 a1, .agg #[.bool aE, .slice aG ao.length az, .slice aH ap.length aA]] ?_
      with_reducible refine (cpack_Right.calls kj5 a0 a1 aE _ _ ao _ _ ap true _ ?aq ?aK ?aY ?bd A22.out).mono ?_
      (case aq=>exact yce (Kd.N_reads' ac.out).2.2)
      (case aK=>exact (Kd.N_reads' ac.out).2.1)
      (case aY=>exact yce (Kd.N_reads' ae.out).2.2)
      (case bd=>exact (Kd.N_reads' ae.out).2.1)
      rintro e w50 ⟨rfl,hb⟩
      refine ⟨_,rfl, ?_⟩
      replace ac:=yNb ac hb
      replace ae:=yNb ae hb
      replace ag:=yRb ag hb
      replace ak:=yNb ak hb
      replace al:=yNb al hb
      replace aa:=ybb aa hb
      replace af:=ybb af hb
      replace am:=ybb am hb
      replace HB:=ybs hb
      (try clear hb)
      refine hK.out _ _ yH (fun hHeld => ?_)
      clear hK K
      refine ym (some 63) ?_
      refine yp 4 64 HT_ ?_
      refine yp 5 65 HT_ ?_
      refine yp 6 66 HT_ ?_
      refine yp 7 67 HT_ ?_
      refine yp 8 68 HT_ ?_
      refine yp 9 69 HT_ ?_
      refine yp 10 70 HT_ ?_
      refine yp 11 71 HT_ ?_
      refine yp 12 72 HT_ ?_
      refine yp 13 73 HT_ ?_
      refine yp 14 74 HT_ ?_
      refine yp 15 75 HT_ ?_
      refine yp 16 76 HT_ ?_
      refine yp 17 77 HT_ ?_
      refine yp 18 78 HT_ ?_
      refine yl 19 79 HT_ HW_ hHeld ?_
      refine yl 21 81 HT_ HW_ hHeld ?_
      refine yw 20 80 HT_ (fun K hK => ?_)
      refine ygs Try.func19 #[.agg #[.bool aE, .slice aG ao.length az, .slice aH ap.length aA]] ?_
      with_reducible refine (w13_As.calls aE (fun k_=>(some k_≠(.slice aH ap.length aA : Value).ownBlock∧(some k_≠(.slice aM au.length aN : Value).ownBlock∧(some k_≠(.slice aU av.length aV : Value).ownBlock∧(some k_≠(.slice aW aw.length aX : Value).ownBlock∧(k_≠aj∧(k_≠ah∧k_≠ai))))))) _ _ ao (fun k_=>(some k_≠(.slice aG ao.length az : Value).ownBlock∧(some k_≠(.slice aM au.length aN : Value).ownBlock∧(some k_≠(.slice aU av.length aV : Value).ownBlock∧(some k_≠(.slice aW aw.length aX : Value).ownBlock∧(k_≠aj∧(k_≠ah∧k_≠ai))))))) _ _ ap bu bv bw _ ?aq ?aK A27.out).mono ?_
      (case aq=>exact Kd.N_V (ac.out))
      (case aK=>exact Kd.N_V (ae.out))
      rintro e w51 ⟨cx,cy,rfl,ho0,ho1,hb⟩
      refine ⟨_,rfl, ?_⟩
      replace ac:=yNb ac hb
      replace ae:=yNb ae hb
      have aC:=yho (fun k_=>some k_≠(.slice aM au.length aN : Value).ownBlock∧some k_≠(.slice aU av.length aV : Value).ownBlock∧some k_≠(.slice aW aw.length aX : Value).ownBlock∧k_≠aj∧k_≠ah∧k_≠ai) ho0 (fun k_ hk_=>⟨yoR ag hk_,yoN ak hk_,yoN al hk_,yoB aa hk_,yoB af hk_,yoB am hk_⟩)
      have aD:=yho (fun k_=>some k_≠(.slice aM au.length aN : Value).ownBlock∧some k_≠(.slice aU av.length aV : Value).ownBlock∧some k_≠(.slice aW aw.length aX : Value).ownBlock∧k_≠aj∧k_≠ah∧k_≠ai) ho1 (fun k_ hk_=>⟨yoR ag hk_,yoN ak hk_,yoN al hk_,yoB aa hk_,yoB af hk_,yoB am hk_⟩)
      replace ag:=yRb ag hb
      replace ak:=yNb ak hb
      replace al:=yNb al hb
      replace aa:=ybb aa hb
      replace af:=ybb af hb
      replace am:=ybb am hb
      replace HB:=ybs hb
      (try clear hb)
      (try clear ho0)
      (try clear ho1)
      refine hK.out _ _ yH (fun hHeld => ?_)
      clear hK K
      refine ym (some 80) ?_
      refine yw 22 82 HT_ (fun K hK => ?_)
      refine ygs Try.func19 #[.agg #[.bool a8, .slice aU av.length aV, .slice aW aw.length aX]] ?_
      with_reducible refine (w13_As.calls a8 (fun k_=>(some k_≠(.slice aG ao.length az : Value).ownBlock∧(some k_≠(.slice aH ap.length aA : Value).ownBlock∧(some k_≠(.slice aM au.length aN : Value).ownBlock∧(some k_≠(.slice aW aw.length aX : Value).ownBlock∧(k_≠aj∧(k_≠ah∧k_≠ai))))))) _ _ av (fun k_=>(some k_≠(.slice aG ao.length az : Value).ownBlock∧(some k_≠(.slice aH ap.length aA : Value).ownBlock∧(some k_≠(.slice aM au.length aN : Value).ownBlock∧(some k_≠(.slice aU av.length aV : Value).ownBlock∧(k_≠aj∧(k_≠ah∧k_≠ai))))))) _ _ aw bx bz bA _ ?aq ?aK A28.out).mono ?_
      (case aq=>exact Kd.N_V (ak.out))
      (case aK=>exact Kd.N_V (al.out))
      rintro e w52 ⟨cz,cA,rfl,ho0,ho1,hb⟩
      refine ⟨_,rfl, ?_⟩
      replace ak:=yNb ak hb
      replace al:=yNb al hb
      replace aC:=yVb aC hb
      replace aD:=yVb aD hb
      have aQ:=yho (fun k_=>some k_≠(.slice aG ao.length az : Value).ownBlock∧some k_≠(.slice aH ap.length aA : Value).ownBlock∧some k_≠(.slice aM au.length aN : Value).ownBlock∧k_≠aj∧k_≠ah∧k_≠ai) ho0 (fun k_ hk_=>⟨yoN ac hk_,yoN ae hk_,yoR ag hk_,yoB aa hk_,yoB af hk_,yoB am hk_⟩)
      have aT:=yho (fun k_=>some k_≠(.slice aG ao.length az : Value).ownBlock∧some k_≠(.slice aH ap.length aA : Value).ownBlock∧some k_≠(.slice aM au.length aN : Value).ownBlock∧k_≠aj∧k_≠ah∧k_≠ai) ho1 (fun k_ hk_=>⟨yoN ac hk_,yoN ae hk_,yoR ag hk_,yoB aa hk_,yoB af hk_,yoB am hk_⟩)
      replace ac:=yNb ac hb
      replace ae:=yNb ae hb
      replace ag:=yRb ag hb
      replace aa:=ybb aa hb
      replace af:=ybb af hb
      replace am:=ybb am hb
      replace HB:=ybs hb
      (try clear hb)
      (try clear ho0)
      (try clear ho1)
      obtain ⟨ch,ci,bW⟩:=Kd.V_slice aC.out
      (first|subst bW|(injection bW with f1_ f2_ f3_;have f4_:=f1_.symm;have f5_:=f3_.symm;clear f1_ f2_ f3_;subst f4_;subst f5_))
      obtain ⟨cj,ck,bX⟩:=Kd.V_slice aD.out
      (first|subst bX|(injection bX with f1_ f2_ f3_;have f4_:=f1_.symm;have f5_:=f3_.symm;clear f1_ f2_ f3_;subst f4_;subst f5_))
      obtain ⟨cl,cm,bY⟩:=Kd.V_slice aQ.out
      (first|subst bY|(injection bY with f1_ f2_ f3_;have f4_:=f1_.symm;have f5_:=f3_.symm;clear f1_ f2_ f3_;subst f4_;subst f5_))
      obtain ⟨cn,co,bZ⟩:=Kd.V_slice aT.out
      (first|subst bZ|(injection bZ with f1_ f2_ f3_;have f4_:=f1_.symm;have f5_:=f3_.symm;clear f1_ f2_ f3_;subst f4_;subst f5_))
      refine hK.out _ _ yH (fun hHeld => ?_)
      clear hK K
      refine ym (some 82) ?_
      refine yw 23 83 HT_ (fun K hK => ?_)
      refine ygs Try.func18 #[.agg #[.bool bu, .slice ch bv.length ci, .slice cj bw.length ck], .agg #[.bool bx, .slice cl bz.length cm, .slice cn bA.length co]] ?_
      with_reducible refine (r13_Same.calls kj5 bu _ _ bv _ _ bw bx _ _ bz _ _ bA true _ ?aq ?aK ?aY ?bd ?bD ?bE ?b4 ?b5 A29.out).mono ?_
      (case aq=>exact yce (Kd.V_reads' aC.out).2.2)
      (case aK=>exact (Kd.V_reads' aC.out).2.1)
      (case aY=>exact yce (Kd.V_reads' aD.out).2.2)
      (case bd=>exact (Kd.V_reads' aD.out).2.1)
      (case bD=>exact yce (Kd.V_reads' aQ.out).2.2)
      (case bE=>exact (Kd.V_reads' aQ.out).2.1)
      (case b4=>exact yce (Kd.V_reads' aT.out).2.2)
      (case b5=>exact (Kd.V_reads' aT.out).2.1)
      rintro e w57 ⟨rfl,hb⟩
      refine ⟨_,rfl, ?_⟩
      replace ac:=yNb ac hb
      replace ae:=yNb ae hb
      replace ag:=yRb ag hb
      replace ak:=yNb ak hb
      replace al:=yNb al hb
      replace aC:=yVb aC hb
      replace aD:=yVb aD hb
      replace aQ:=yVb aQ hb
      replace aT:=yVb aT hb
      replace aa:=ybb aa hb
      replace af:=ybb af hb
      replace am:=ybb am hb
      replace HB:=ybs hb
      (try clear hb)
      refine hK.out _ _ yH (fun hHeld => ?_)
      clear hK K
      refine ym (some 83) ?_
      refine yp 24 84 HT_ ?_
      refine yp 25 85 HT_ ?_
      refine yw 26 86 HT_ (fun K hK => ?_)
      refine ygs Try.func12 #[] ?_
      with_reducible refine (w23_knows.calls kj5  bp _ A31.out).mono ?_
      rintro e w58 ⟨rfl,hb⟩
      refine ⟨_,rfl, ?_⟩
      replace ac:=yNb ac hb
      replace ae:=yNb ae hb
      replace ag:=yRb ag hb
      replace ak:=yNb ak hb
      replace al:=yNb al hb
      replace aC:=yVb aC hb
      replace aD:=yVb aD hb
      replace aQ:=yVb aQ hb
      replace aT:=yVb aT hb
      replace aa:=ybb aa hb
      replace af:=ybb af hb
      replace am:=ybb am hb
      replace HB:=ybs hb
      (try clear hb)
      refine hK.out _ _ yH (fun hHeld => ?_)
      clear hK K
      refine ym (some 86) ?_
      refine yp 27 87 HT_ ?_
      refine yp 28 10 HT_ ?_
      refine done_ (done_of HT_.out (by kernel_rfl)) ?_
      try go_wp2
      go_ret
      exact ⟨ye,yhb⟩
     rw [if_neg c26] at H
     obtain ⟨bS,bT⟩:=yF c26
     exact absurd H (by simp)
    rw [if_neg c25] at H
    obtain ⟨bQ,bR⟩:=yF c25
    exact absurd H (by simp)
   rw [if_neg c24] at H
   obtain ⟨bO,bP⟩:=yF c24
   exact absurd H (by simp)
  rw [if_neg c19] at H
  obtain ⟨bM,bN⟩:=yF c19
  replace H:=ybi H;obtain ⟨bH,A59,H⟩:=H
  replace H:=yie H;obtain ⟨c60,H⟩:=H
  replace c60:=Bool.eq_false_iff.mpr c60
  subst c60
  replace H:=ybi H;obtain ⟨bq,A61,H⟩:=H
  obtain rfl:=Option.some.inj H
  obtain ⟨_,_⟩:=yc1 aa
  go_wp2_with (first|((with_reducible refine gate_callee (f:=13) rfl ?_);refine ygl 31 Try.func13 #[.int .i64 a0, .int .i64 a1, .agg #[.slice aZ ax.length a7], .bool a3] ?_;(with_reducible refine (ccodec_Encode.calls kj5 a0 a1 _ _ ax a3 aE ao ap bs _ ?aq bc.out A18.out).mono ?_);(case aq=>exact ycb bb);rintro e w63 ⟨bB,bC,rfl,ho0,ho1,hb⟩;refine ⟨_,rfl, ?_⟩;have ac:=zm (Kd.N_lower (Kd.N_mono (ok' := fun k_=>some k_≠(bC : Value).ownBlock∧k_≠aj) ho0 (fun k_ hk_=>⟨hk_.2,(Kd.freshB (yk aa) k_ hk_.1)⟩)) (zE yhb));have ae:=zm (Kd.N_lower (Kd.N_mono (ok' := fun k_=>some k_≠(bB : Value).ownBlock∧k_≠aj) ho1 (fun k_ hk_=>⟨hk_.2,(Kd.freshB (yk aa) k_ hk_.1)⟩)) (zE yhb));replace aa:=ybb aa hb;replace HB:=ybs hb;(try clear hb);(try clear ho0);(try clear ho1))|((with_reducible refine gate_dst (N:=11) rfl ?_);(try (refine gate_guard (by rfl) ?_;dsimp only));refine ybx 11 #[.bool false, .slice none 0 0, .slice none 0 0] 31 ?_;intro ah hg w64 hbox hb;replace ac:=zm (Kd.N_below (Kd.N_elderB (yr ac) ah (Nat.le_of_eq hg.symm)) hb);replace ae:=zm (Kd.N_below (Kd.N_elderB (yr ae) ah (Nat.le_of_eq hg.symm)) hb);have af:=zm (hbox);have bK:=ygw hg;have bL:=ygw hg;replace HB:=ybs hb;have aI:=ynl aa hg;have aJ:=yng aa hg;replace aa:=ybb aa hb;clear hb hbox hg;have:=aJ.out;have:=aI.out;obtain ⟨_,_,_,_,_,_⟩:=yc3 af;obtain ⟨cp,cq,cr⟩:=Kd.N_slice ac.out;subst cr;obtain ⟨ct,cu,cv⟩:=Kd.N_slice ae.out;subst cv;obtain ⟨_,_⟩:=yc1 aa)|((with_reducible refine gate_callee (f:=14) rfl ?_);refine ygl 39 Try.func14 #[.int .i64 a0, .int .i64 a1, .agg #[.slice aZ ax.length a7]] ?_;(with_reducible refine (r23_Right.calls kj5 a0 a1 _ _ ax false _ ?aq bc.out A59.out).mono ?_);(case aq=>exact Kd.C_below bb.out yhb);rintro e w70 ⟨rfl,hb⟩;refine ⟨_,rfl, ?_⟩;replace ac:=zm (Kd.N_below (yN0 ac) hb);replace ae:=zm (Kd.N_below (yN0 ae) hb);replace aa:=ybb aa hb;replace af:=zm (zF (g:=ah) (o:=.cells #[.bool aE, .slice cp ao.length cq, .slice ct ap.length cu] 31 (0,0)) (ykp af) hb);replace HB:=ybs hb;(try clear hb))|(go_at_call 12;(with_reducible refine (w23_knows.calls kj5  bq _ A61.out).mono ?_);rintro e w71 ⟨rfl,hb⟩;replace ac:=yNb ac hb;replace ae:=yNb ae hb;replace aa:=ybb aa hb;replace af:=ybb af hb;replace HB:=ybs hb;(try clear hb)))
  go_ret
  exact ⟨ye,yhb⟩
mutual
def r06_Row.l0 : Nat→Int→List Int→Int→Option (List Int)
 | 0,_,_,_=>none
 | k+1,x0,x3,x4=>if x4≤12 then (if x4=0 then (if x3.length < 17592186044416 then (r06_Row.l0 k x0 (x3 ++ [1]) (wrap64 (x4+1))) else (none)) else (if x3.length < 17592186044416 then (r06_Row.l0 k x0 (x3 ++ [0]) (wrap64 (x4+1))) else (none))) else (r06_Row.l1 k x0 x3 0)
def r06_Row.l1 : Nat→Int→List Int→Int→Option (List Int)
 | 0,_,_,_=>none
 | k+1,x0,x3,x5=>if x5 < x0 then (r06_Row.l2 k x0 x3 x5 ([] : List Int) 0) else (some x3)
def r06_Row.l2 : Nat→Int→List Int→Int→List Int→Int→Option (List Int)
 | 0,_,_,_,_,_=>none
 | k+1,x0,x3,x5,x6,x7=>if x7≤12 then (if 0≤x7 then (if x7 < (x3.length : Int) then (r06_Row.l3 k x0 x3 x5 x6 x7 (rd x3 x7) 1) else (none)) else (none)) else (r06_Row.l1 k x0 x6 (wrap64 (x5+1)))
def r06_Row.l3 : Nat→Int→List Int→Int→List Int→Int→Int→Int→Option (List Int)
 | 0,_,_,_,_,_,_,_=>none
 | k+1,x0,x3,x5,x6,x7,x8,x9=>if x9≤x7 then (if 0≤(wrap64 (x7 - x9)) then (if (wrap64 (x7 - x9)) < (x3.length : Int) then (r06_Row.l3 k x0 x3 x5 x6 x7 (IntKind.u64.wrap (x8+(IntKind.u64.wrap (2 * (rd x3 (wrap64 (x7 - x9))))))) (wrap64 (x9+1))) else (none)) else (none)) else (if x6.length < 17592186044416 then (r06_Row.l2 k x0 x3 x5 (x6 ++ [x8]) (wrap64 (x7+1))) else (none))
end
def r06_Row.f (k : Nat) (a0 : Int) : Option (List Int):=r06_Row.l0 k a0 ([] : List Int) 0
theorem r06_Row.mono_l : ∀ k,(∀ y0 y1 y2,LeO (r06_Row.l0 k y0 y1 y2) (r06_Row.l0 (k+1) y0 y1 y2))∧(∀ y0 y1 y2,LeO (r06_Row.l1 k y0 y1 y2) (r06_Row.l1 (k+1) y0 y1 y2))∧(∀ y0 y1 y2 y3 y4,LeO (r06_Row.l2 k y0 y1 y2 y3 y4) (r06_Row.l2 (k+1) y0 y1 y2 y3 y4))∧(∀ y0 y1 y2 y3 y4 y5 y6,LeO (r06_Row.l3 k y0 y1 y2 y3 y4 y5 y6) (r06_Row.l3 (k+1) y0 y1 y2 y3 y4 y5 y6))
 | 0=>⟨fun _ _ _ r h=>by simp [r06_Row.l0] at h,fun _ _ _ r h=>by simp [r06_Row.l1] at h,fun _ _ _ _ _ r h=>by simp [r06_Row.l2] at h,fun _ _ _ _ _ _ _ r h=>by simp [r06_Row.l3] at h⟩
 | k+1=>by
  obtain ⟨ih0,ih1,ih2,ih3⟩:=r06_Row.mono_l k
  refine ⟨?_, ?_, ?_, ?_⟩
  ·
   intro y0 y1 y2
   unfold r06_Row.l0
   repeat' with_reducible first|apply ih0|apply ih1|apply ih2|apply ih3|apply yLr|apply yLn|apply yLi|apply yLb|intro _
  ·
   intro y0 y1 y2
   unfold r06_Row.l1
   repeat' with_reducible first|apply ih0|apply ih1|apply ih2|apply ih3|apply yLr|apply yLn|apply yLi|apply yLb|intro _
  ·
   intro y0 y1 y2 y3 y4
   unfold r06_Row.l2
   repeat' with_reducible first|apply ih0|apply ih1|apply ih2|apply ih3|apply yLr|apply yLn|apply yLi|apply yLb|intro _
  intro y0 y1 y2 y3 y4 y5 y6
  unfold r06_Row.l3
  repeat' with_reducible first|apply ih0|apply ih1|apply ih2|apply ih3|apply yLr|apply yLn|apply yLi|apply yLb|intro _
theorem r06_Row.mono : ∀ a0 k,LeO (r06_Row.f k a0) (r06_Row.f (k+1) a0):=by
 intro a0 k
 obtain ⟨ih0,ih1,ih2,ih3⟩:=r06_Row.mono_l k
 unfold r06_Row.f
 repeat' with_reducible first|apply ih0|apply ih1|apply ih2|apply ih3|apply yLr|apply yLn|apply yLi|apply yLb|intro _
set_option maxHeartbeats 8000000 in
set_option maxRecDepth 100000 in
theorem r06_Row.calls (k : Nat) (a0 : Int) (r : List Int) (w : World) (h : r06_Row.f k a0=some r) :
  Calls Try.prog 128 #[.int .i64 a0] w fun e w' => ∃ v0_ : Value,e=.returned (v0_)∧Kd.R (Kd.int .u64) 59 w' w.heap.size (fun _=>True) v0_ r∧Below w.heap.size w w' := by
 have HB:=zm (Below.refl w.heap.size w);have H:=h
 unfold r06_Row.f at H
 clear h
 have H' := zm H
 clear H
 go_enter Try.func128,Try.ntmps128
 go_wp2
 go_loopg [3,4] k (fun kq v3 v4 w' => ∃ (ag : List Int) (af : Int),v4=.int .i64 af∧Aside0 (r06_Row.l0 kq a0 ag af=some r)∧Aside0 (kq≤k)∧Aside0 (Kd.R (Kd.int .u64) 59 w' w.heap.size (fun _=>True) v3 ag)∧Aside0 (Below w.heap.size w w'))
 case atStart=>exact ⟨(([] : List Int)),(0),yq,H',⟨Nat.le_refl _⟩,⟨yn⟩,⟨yhb⟩⟩
 case round =>
  clear H'
  obtain ⟨ag,af,rfl,HA,HK1,aa,HB⟩:=hrel
  obtain ⟨k1,rfl⟩:=ysu gk (fun h=>by subst h;exact absurd HA.out (by simp [r06_Row.l0]))
  have H:=HA.out;clear HA
  simp only [r06_Row.l0] at H
  by_cases c2 : af≤12
  ·
   rw [if_pos c2] at H
   have aD:=yD c2
   clear c2
   by_cases c3 : af=0
   ·
    rw [if_pos c3] at H
    obtain ⟨a7,a8⟩:=yE c3
    clear c3
    replace H:=yif H;obtain ⟨c4,H⟩:=H
    have LMc4:=zm c4;clear c4
    obtain ⟨aE,aq⟩ : ∃ y_ : List Int,y_=(ag ++ [1]):=⟨_,rfl⟩
    replace H : (r06_Row.l0 k1 a0 aE (wrap64 (af+1)))=some r:=yrw aq H
    have aG:=zm aq;clear aq
    have H' := zm H
    clear H
    go_wp2_with (first|((with_reducible refine gate_builtin (b:=.append) (xs := #[.tmp 16, .tmp 17]) rfl ?_);at_builtin;refine Kd.R_append (Kd.int .u64) (w0:=w) w.heap.size rfl (.tmp 16) (.tmp 17) 162 59 (.int .u64 0) 8 rfl Try.underlying162 info59 rfl (by decide) (by omega) u3 ag 1 [.int .u64 1] (fun _=>True) (fun _=>False) rfl rfl ?aP (fun _ hk=>hk.elim) ?aF ?aO ?aB ?aS ?aL ?_;(case aP=>exact rfl);(case aB=>exact yhb);(case aF=>exact (fun _ _=>trivial));(case aO=>exact (yr aa));(case aS=>exact (zE yhb));(case aL=>have:=LMc4.out;omega);intro bf w5 ho hb hg hat;rw [← aG.out] at ho;replace HB:=zm (hb);have aH:=zm (ho);clear aa;clear ho hb hg hat))
    go_roundg k1
    case measure=>exact yom1 HK1
    case rel=>exact ⟨(aE),(wrap64 (af+1)),yq,H',⟨yom1 HK1⟩,⟨yr aH⟩,⟨yhb⟩⟩
   rw [if_neg c3] at H
   obtain ⟨a7,a8⟩:=yF c3
   replace H:=yif H;obtain ⟨c6,H⟩:=H
   have LMc6:=zm c6;clear c6
   obtain ⟨aI,au⟩ : ∃ y_ : List Int,y_=(ag ++ [0]):=⟨_,rfl⟩
   replace H : (r06_Row.l0 k1 a0 aI (wrap64 (af+1)))=some r:=yrw au H
   have aJ:=zm au;clear au
   have H' := zm H
   clear H
   go_wp2_with (first|((with_reducible refine gate_builtin (b:=.append) (xs := #[.tmp 19, .tmp 20]) rfl ?_);at_builtin;refine Kd.R_append (Kd.int .u64) (w0:=w) w.heap.size rfl (.tmp 19) (.tmp 20) 162 59 (.int .u64 0) 8 rfl Try.underlying162 info59 rfl (by decide) (by omega) u3 ag 0 [.int .u64 0] (fun _=>True) (fun _=>False) rfl rfl ?aP (fun _ hk=>hk.elim) ?aF ?aO ?aB ?aS ?aL ?_;(case aP=>exact rfl);(case aB=>exact yhb);(case aF=>exact (fun _ _=>trivial));(case aO=>exact (yr aa));(case aS=>exact (zE yhb));(case aL=>have:=LMc6.out;omega);intro bg w7 ho hb hg hat;rw [← aJ.out] at ho;replace HB:=zm (hb);have aK:=zm (ho);clear aa;clear ho hb hg hat))
   go_roundg k1
   case measure=>exact yom1 HK1
   case rel=>exact ⟨(aI),(wrap64 (af+1)),yq,H',⟨yom1 HK1⟩,⟨yr aK⟩,⟨yhb⟩⟩
  rw [if_neg c2] at H
  have aD:=yG c2
  clear c2
  have H' := zm H
  clear H
  go_wp2
  go_loopg [3,5] k1 (fun kq v3 v5 w' => ∃ (ac : List Int) (ah : Int),v5=.int .i64 ah∧Aside0 (r06_Row.l1 kq a0 ac ah=some r)∧Aside0 (kq≤k1)∧Aside0 (Kd.R (Kd.int .u64) 59 w' w.heap.size (fun _=>True) v3 ac)∧Aside0 (Below w.heap.size w w'))
  case atStart=>exact ⟨(ag),(0),yq,H',⟨Nat.le_refl _⟩,⟨yr aa⟩,⟨yhb⟩⟩
  case round =>
   clear H'
   try clear aD
   try clear c3
   obtain ⟨ac,ah,rfl,HA,HK2,aa,HB⟩:=hrel
   obtain ⟨k2,rfl⟩:=ysu gk (fun h=>by subst h;exact absurd HA.out (by simp [r06_Row.l1]))
   have H:=HA.out;clear HA
   simp only [r06_Row.l1] at H
   by_cases c8 : ah < a0
   ·
    rw [if_pos c8] at H
    have aM:=yD c8
    clear c8
    have H' := zm H
    clear H
    go_wp2
    go_loopg [6,7] k2 (fun kq v6 v7 w' => ∃ (ai : List Int) (ae : Int),v7=.int .i64 ae∧Aside0 (r06_Row.l2 kq a0 ac ah ai ae=some r)∧Aside0 (kq≤k2)∧Aside0 (Kd.R (Kd.int .u64) 59 w' w.heap.size (fun k_=>some k_≠(v6 : Value).ownBlock) u3 ac)∧Aside0 (Kd.R (Kd.int .u64) 59 w' w.heap.size (fun k_=>some k_≠(u3 : Value).ownBlock) v6 ai)∧Aside0 (Below w.heap.size w w'))
    case atStart=>exact ⟨(([] : List Int)),(0),yq,H',⟨Nat.le_refl _⟩,⟨yR0 aa⟩,⟨yn⟩,⟨yhb⟩⟩
    case round =>
     clear H'
     try clear aM
     obtain ⟨ai,ae,rfl,HA,HK3,aa,ap,HB⟩:=hrel
     obtain ⟨k3,rfl⟩:=ysu gk (fun h=>by subst h;exact absurd HA.out (by simp [r06_Row.l2]))
     have H:=HA.out;clear HA
     simp only [r06_Row.l2] at H
     by_cases c9 : ae≤12
     ·
      rw [if_pos c9] at H
      have aN:=yD c9
      clear c9
      replace H:=yif H;obtain ⟨c10,H⟩:=H
      have aQ : decide (0≤ae)=true:=decide_eq_true c10
      clear c10
      replace H:=yif H;obtain ⟨c11,H⟩:=H
      have aT : decide (ae < (ac.length : Int))=true:=decide_eq_true c11
      clear c11
      have H' := zm H
      clear H
      obtain ⟨bh,az,a9⟩:=Kd.R_slice aa.out
      subst a9
      have aw : 0≤(ae : Int):=yt
      have ax : ae < (ac.length : Int):=yt
      obtain ⟨am,ba,ay⟩:=Kd.at_int (Kd.R_reads' aa.out).2.2 ae aw ax
      cases ba
      replace aw:=eq_true aw
      replace ax:=eq_true ax
      go_wp2
      go_loopg [8,9] k3 (fun kq v8 v9 w' => ∃ (aj : Int) (ak : Int),v8=.int .u64 aj∧v9=.int .i64 ak∧Aside0 (r06_Row.l3 kq a0 ac ah ai ae aj ak=some r)∧Aside0 (kq≤k3)∧Aside0 (Kd.R (Kd.int .u64) 59 w' w.heap.size (fun k_=>some k_≠(u6 : Value).ownBlock) (.slice (some am) ac.length az) ac)∧Aside0 (Kd.R (Kd.int .u64) 59 w' w.heap.size (fun k_=>some k_≠((.slice (some am) ac.length az) : Value).ownBlock) u6 ai)∧Aside0 (Below w.heap.size w w'))
      case atStart=>exact ⟨(rd ac ae),(1),yq,yq,H',⟨Nat.le_refl _⟩,⟨yr aa⟩,⟨yr ap⟩,⟨yhb⟩⟩
      case round =>
       clear H'
       try clear aN
       try clear aQ
       try clear aT
       try clear ay
       try clear aw
       try clear ax
       obtain ⟨aj,ak,rfl,rfl,HA,HK4,aa,ap,HB⟩:=hrel
       obtain ⟨k4,rfl⟩:=ysu gk (fun h=>by subst h;exact absurd HA.out (by simp [r06_Row.l3]))
       have H:=HA.out;clear HA
       simp only [r06_Row.l3] at H
       by_cases c13 : ak≤ae
       ·
        rw [if_pos c13] at H
        have aU:=yD c13
        clear c13
        obtain ⟨al,ao⟩ : ∃ j_ : Int,(wrap64 (ae - ak))=j_:=⟨_,rfl⟩
        (first|rw [ao] at H|simp only [ao] at H)
        have hji14w : (IntKind.i64.wrap (ae - ak))=al:=(i64_w _).trans ao
        replace H:=yif H;obtain ⟨c15,H⟩:=H
        have bc : decide (0≤(al))=true:=decide_eq_true c15
        clear c15
        replace H:=yif H;obtain ⟨c16,H⟩:=H
        have bd : decide ((al) < (ac.length : Int))=true:=decide_eq_true c16
        clear c16
        have H' := zm H
        clear H
        have aA : 0≤((al) : Int):=yt
        have aC : (al) < (ac.length : Int):=yt
        obtain ⟨aV,bb,aZ⟩:=Kd.at_int (Kd.R_reads' aa.out).2.2 (al) aA aC
        obtain rfl : am=aV:=(by injection bb)
        replace aA:=eq_true aA
        replace aC:=eq_true aC
        go_wp2
        go_roundg k4
        case measure=>exact yom4 HK1 HK2 HK3 HK4
        case rel=>exact ⟨(IntKind.u64.wrap (aj+(IntKind.u64.wrap (2 * (rd ac (al)))))),(wrap64 (ak+1)),(by first|rfl|(simp;done)|(simp only [← ao] <;> (first|rfl|simp))|(simp [*];done)),yq,H',⟨yom4 HK1 HK2 HK3 HK4⟩,⟨yr aa⟩,⟨yr ap⟩,⟨yhb⟩⟩
       rw [if_neg c13] at H
       have aU:=yG c13
       clear c13
       replace H:=yif H;obtain ⟨c17,H⟩:=H
       have LMc17:=zm c17;clear c17
       obtain ⟨aW,av⟩ : ∃ y_ : List Int,y_=(ai ++ [aj]):=⟨_,rfl⟩
       replace H : (r06_Row.l2 k4 a0 ac ah aW (wrap64 (ae+1)))=some r:=yrw av H
       have aX:=zm av;clear av
       have H' := zm H
       clear H
       go_wp2_with (first|((with_reducible refine gate_builtin (b:=.append) (xs := #[.tmp 49, .tmp 51]) rfl ?_);at_builtin;refine Kd.R_append (Kd.int .u64) (w0:=w) w.heap.size rfl (.tmp 49) (.tmp 51) 162 59 (.int .u64 0) 8 rfl Try.underlying162 info59 rfl (by decide) (by omega) u6 ai aj [.int .u64 aj] (fun k_=>some k_≠(.slice (some am) ac.length az : Value).ownBlock) (fun _=>False) rfl rfl ?aP (fun _ hk=>hk.elim) ?aF ?aO ?aB ?aS ?aL ?_;(case aP=>exact rfl);(case aB=>exact yhb);(case aF=>exact (fun k_ hk=>Kd.fresh' (Kd.R_lt (yr aa)) k_ hk));(case aO=>exact (yr ap));(case aS=>exact (zE yhb));(case aL=>have:=LMc17.out;omega);intro bi w18 ho hb hg hat;rw [← aX.out] at ho;replace aa:=zm (Kd.R_after (ok:=(fun _=>True)) (yR0 aa) hg hat);replace HB:=zm (hb);have aY:=zm (ho);clear ap;clear ho hb hg hat))
       go_roundg k4
       case measure=>exact yom4 HK1 HK2 HK3 HK4
       case rel=>exact ⟨(aW),(wrap64 (ae+1)),yq,H',⟨yom4 HK1 HK2 HK3 HK4⟩,⟨yR0 aa⟩,⟨yr aY⟩,⟨yhb⟩⟩
     rw [if_neg c9] at H
     have aN:=yG c9
     clear c9
     have H' := zm H
     clear H
     go_wp2
     go_roundg k3
     case measure=>exact yom3 HK1 HK2 HK3
     case rel=>exact ⟨(ai),(wrap64 (ah+1)),yq,H',⟨yom3 HK1 HK2 HK3⟩,⟨yR0 ap⟩,⟨yhb⟩⟩
   rw [if_neg c8] at H
   have aM:=yG c8
   clear c8
   obtain rfl:=Option.some.inj H
   go_wp2
   go_ret
   exact ⟨_,ye,yr aa,yhb⟩
def r12_Room.f (a0 : Int) (a1 : Int) : Option (Int):=(r12_Right.f a0 a1).bind fun aa=>(if aa=true then (if a1=1 then (some (wrap64 ((wrap64 (8 * a0)) - 86))) else (some (wrap64 (Int.tdiv (wrap64 ((wrap64 (8 * a0)) - 131)) 2)))) else (some 0))
set_option maxHeartbeats 8000000 in
set_option maxRecDepth 100000 in
theorem r12_Room.calls (a0 : Int) (a1 : Int) (r : Int) (w : World) (h : r12_Room.f a0 a1=some r) :
  Calls Try.prog 98 #[.int .i64 a0, .int .i64 a1] w fun e w' => e=.returned (.int .i64 r)∧Drawn0 w w' := by
 have H:=h
 unfold r12_Room.f at H
 clear h
 replace H:=ybi H;obtain ⟨aa,A3,H⟩:=H
 by_cases c4 : aa=true
 ·
  subst c4
  rw [if_pos rfl] at H
  by_cases c5 : a1=1
  ·
   rw [if_pos c5] at H
   obtain ⟨ac,ae⟩:=yE c5
   clear c5
   obtain rfl:=Option.some.inj H
   go_enter Try.func98,Try.ntmps98
   go_wp2_with (first|((with_reducible refine gate_callee (f:=40) rfl ?_);refine ygl 7 Try.func40 #[.int .i64 a0, .int .i64 a1] ?_;(with_reducible refine (r12_Right.calls a0 a1 true _ A3.out).mono ?_);rintro e w' ⟨rfl,⟨nd,rfl⟩⟩;refine ⟨_,rfl, ?_⟩))
   go_ret
   exact ⟨yq,yd⟩
  rw [if_neg c5] at H
  obtain ⟨ac,ae⟩:=yF c5
  obtain rfl:=Option.some.inj H
  go_enter Try.func98,Try.ntmps98
  go_wp2_with (first|((with_reducible refine gate_callee (f:=40) rfl ?_);refine ygl 7 Try.func40 #[.int .i64 a0, .int .i64 a1] ?_;(with_reducible refine (r12_Right.calls a0 a1 true _ A3.out).mono ?_);rintro e w' ⟨rfl,⟨nd,rfl⟩⟩;refine ⟨_,rfl, ?_⟩))
  go_ret
  exact ⟨yq,yd⟩
 replace c4:=Bool.eq_false_iff.mpr c4
 subst c4
 rw [ynf] at H
 obtain rfl:=Option.some.inj H
 go_enter Try.func98,Try.ntmps98
 go_wp2_with (first|((with_reducible refine gate_callee (f:=40) rfl ?_);refine ygl 7 Try.func40 #[.int .i64 a0, .int .i64 a1] ?_;(with_reducible refine (r12_Right.calls a0 a1 false _ A3.out).mono ?_);rintro e w' ⟨rfl,⟨nd,rfl⟩⟩;refine ⟨_,rfl, ?_⟩))
 go_ret
 exact ⟨yq,yd⟩
def r03_Log2.f : Nat→Int→Option (Int)
 | 0,_=>none
 | k+1,a0=>if a0=0 then (some (-1)) else ((r03_Log2.f k (IntKind.u64.wrap (Int.tdiv a0 2))).bind fun aa=>(some (wrap64 (1+aa))))
theorem r03_Log2.mono_l : ∀ k,(∀ y0,LeO (r03_Log2.f k y0) (r03_Log2.f (k+1) y0))
 | 0=>fun _ r h=>by simp [r03_Log2.f] at h
 | k+1=>by
  have ih0:=r03_Log2.mono_l k
  ·
   intro y0
   unfold r03_Log2.f
   repeat' with_reducible first|apply ih0|apply yLr|apply yLn|apply yLi|apply yLb|intro _
theorem r03_Log2.mono : ∀ a0 k,LeO (r03_Log2.f k a0) (r03_Log2.f (k+1) a0):=by
 intro a0 k
 have ih0:=r03_Log2.mono_l k
 exact ih0 a0
set_option maxHeartbeats 8000000 in
set_option maxRecDepth 100000 in
theorem r03_Log2.calls (k : Nat) : ∀ (a0 : Int) (r : Int) (w : World) (h : r03_Log2.f k a0=some r),
  Calls Try.prog 127 #[.int .u64 a0] w fun e w' => e=.returned (.int .i64 r)∧Drawn0 w w' := by
 induction k using Nat.strongRecOn with
 | _ k ih =>
 intro a0 r w h
 cases k with
 | zero=>exact absurd h (by simp [r03_Log2.f])
 | succ k =>
 simp only [r03_Log2.f] at h
 have H : (if a0=0 then (some (-1)) else ((r03_Log2.f k (IntKind.u64.wrap (Int.tdiv a0 2))).bind fun aa=>(some (wrap64 (1+aa)))))=some r:=h
 clear h
 by_cases c2 : a0=0
 ·
  rw [if_pos c2] at H
  obtain ⟨ac,ae⟩:=yE c2
  clear c2
  obtain rfl:=Option.some.inj H
  go_enter Try.func127,Try.ntmps127
  go_wp2
  go_ret
  exact ⟨yq,yd⟩
 rw [if_neg c2] at H
 obtain ⟨ac,ae⟩:=yF c2
 replace H:=ybi H;obtain ⟨aa,A3,H⟩:=H
 obtain rfl:=Option.some.inj H
 go_enter Try.func127,Try.ntmps127
 go_wp2_with (first|((with_reducible refine gate_callee (f:=127) rfl ?_);refine ygl 7 Try.func127 #[.int .u64 (IntKind.u64.wrap (Int.tdiv a0 2))] ?_;(with_reducible refine (ih k (by omega) (IntKind.u64.wrap (Int.tdiv a0 2)) aa _ A3.out).mono ?_);rintro e w' ⟨rfl,⟨nd,rfl⟩⟩;refine ⟨_,rfl, ?_⟩))
 go_ret
 exact ⟨yq,yd⟩
def r06_Count.f (k : Nat) (a0 : Int) (a1 : Int) : Option (Int):=(r06_Row.f k a0).bind fun aa=>(if 0≤a1 then (if a1 < (aa.length : Int) then (some (rd aa a1)) else (none)) else (none))
theorem r06_Count.mono : ∀ a0 a1 k,LeO (r06_Count.f k a0 a1) (r06_Count.f (k+1) a0 a1):=by
 intro a0 a1 k
 unfold r06_Count.f
 repeat' with_reducible first|apply r06_Row.mono|apply yLr|apply yLn|apply yLi|apply yLb|intro _
set_option maxHeartbeats 8000000 in
set_option maxRecDepth 100000 in
theorem r06_Count.calls (k : Nat) (a0 : Int) (a1 : Int) (r : Int) (w : World) (h : r06_Count.f k a0 a1=some r) :
  Calls Try.prog 126 #[.int .i64 a0, .int .i64 a1] w fun e w' => e=.returned (.int .u64 r)∧Below w.heap.size w w' := by
 have HB:=zm (Below.refl w.heap.size w);have H:=h
 unfold r06_Count.f at H
 clear h
 replace H:=ybi H;obtain ⟨aa,A3,H⟩:=H
 replace H:=yif H;obtain ⟨c4,H⟩:=H
 have aj : decide (0≤a1)=true:=decide_eq_true c4
 clear c4
 replace H:=yif H;obtain ⟨c5,H⟩:=H
 have ak : decide (a1 < (aa.length : Int))=true:=decide_eq_true c5
 clear c5
 obtain rfl:=Option.some.inj H
 go_enter Try.func126,Try.ntmps126
 go_wp2_with (first|((with_reducible refine gate_callee (f:=128) rfl ?_);refine ygl 6 Try.func128 #[.int .i64 a0] ?_;(with_reducible refine (r06_Row.calls k a0 aa _ A3.out).mono ?_);rintro e w6 ⟨al,rfl,ho0,hb⟩;refine ⟨_,rfl, ?_⟩;have ac:=zm (Kd.R_lower ho0 (zE yhb));replace HB:=ybs hb;(try clear hb);(try clear ho0);obtain ⟨Ao7,co7,eo7⟩:=Kd.R_slice ac.out;subst eo7;have ae : 0≤(a1 : Int):=yt;have af : a1 < (aa.length : Int):=yt;obtain ⟨ai,ah,ag⟩:=Kd.at_int (Kd.R_reads' ac.out).2.2 a1 ae af;cases ah;replace ae:=eq_true ae;replace af:=eq_true af))
 go_ret
 exact ⟨ye,yhb⟩
def r06_Cost.f (k : Nat) (a0 : Int) (a1 : Int) : Option (Int):=(r06_Count.f k a0 a1).bind fun aa=>(if (IntKind.u64.wrap (aa - 1)) < 65536 then ((r03_Log2.f k (IntKind.u64.wrap (aa - 1))).bind fun ac=>(some (wrap64 (1+ac)))) else ((r03_Log2.f k (IntKind.u64.wrap (Int.tdiv (IntKind.u64.wrap (aa - 1)) 65536))).bind fun ae=>(some (wrap64 (17+ae)))))
theorem r06_Cost.mono : ∀ a0 a1 k,LeO (r06_Cost.f k a0 a1) (r06_Cost.f (k+1) a0 a1):=by
 intro a0 a1 k
 unfold r06_Cost.f
 repeat' with_reducible first|apply r03_Log2.mono|apply r06_Count.mono|apply yLr|apply yLn|apply yLi|apply yLb|intro _
set_option maxHeartbeats 8000000 in
set_option maxRecDepth 100000 in
theorem r06_Cost.calls (k : Nat) (a0 : Int) (a1 : Int) (r : Int) (w : World) (h : r06_Cost.f k a0 a1=some r) :
  Calls Try.prog 125 #[.int .i64 a0, .int .i64 a1] w fun e w' => e=.returned (.int .i64 r)∧Below w.heap.size w w' := by
 have HB:=zm (Below.refl w.heap.size w);have H:=h
 unfold r06_Cost.f at H
 clear h
 replace H:=ybi H;obtain ⟨aa,A3,H⟩:=H
 by_cases c4 : (IntKind.u64.wrap (aa - 1)) < 65536
 ·
  rw [if_pos c4] at H
  have af:=yD c4
  clear c4
  replace H:=ybi H;obtain ⟨ac,A5,H⟩:=H
  obtain rfl:=Option.some.inj H
  go_enter Try.func125,Try.ntmps125
  go_wp2_with (first|((with_reducible refine gate_callee (f:=126) rfl ?_);refine ygl 8 Try.func126 #[.int .i64 a0, .int .i64 a1] ?_;(with_reducible refine (r06_Count.calls k a0 a1 aa _ A3.out).mono ?_);rintro e w6 ⟨rfl,hb⟩;refine ⟨_,rfl, ?_⟩;replace HB:=ybs hb;(try clear hb))|((with_reducible refine gate_callee (f:=127) rfl ?_);refine ygl 13 Try.func127 #[.int .u64 (IntKind.u64.wrap (aa - 1))] ?_;(with_reducible refine (r03_Log2.calls k (IntKind.u64.wrap (aa - 1)) ac _ A5.out).mono ?_);rintro e w' ⟨rfl,⟨nd,rfl⟩⟩;refine ⟨_,rfl, ?_⟩))
  go_ret
  exact ⟨ye,yhb⟩
 rw [if_neg c4] at H
 have af:=yG c4
 clear c4
 replace H:=ybi H;obtain ⟨ae,A7,H⟩:=H
 obtain rfl:=Option.some.inj H
 go_enter Try.func125,Try.ntmps125
 go_wp2_with (first|((with_reducible refine gate_callee (f:=126) rfl ?_);refine ygl 8 Try.func126 #[.int .i64 a0, .int .i64 a1] ?_;(with_reducible refine (r06_Count.calls k a0 a1 aa _ A3.out).mono ?_);rintro e w8 ⟨rfl,hb⟩;refine ⟨_,rfl, ?_⟩;replace HB:=ybs hb;(try clear hb))|((with_reducible refine gate_callee (f:=127) rfl ?_);refine ygl 17 Try.func127 #[.int .u64 (IntKind.u64.wrap (Int.tdiv (IntKind.u64.wrap (aa - 1)) 65536))] ?_;(with_reducible refine (r03_Log2.calls k (IntKind.u64.wrap (Int.tdiv (IntKind.u64.wrap (aa - 1)) 65536)) ae _ A7.out).mono ?_);rintro e w' ⟨rfl,⟨nd,rfl⟩⟩;refine ⟨_,rfl, ?_⟩))
 go_ret
 exact ⟨ye,yhb⟩
def r10_Width.j0 : Nat→Int→Bool→Option (Int)
 | 0,_,_=>none
 | k+1,x3,x4=>if x4=true then (some 1) else (if x3=2 then (some 2) else (if x3=3 then (some 4) else (if x3=4 then (some 8) else (some 0))))
def r10_Width.f (k : Nat) (a0 : Int) : Option (Int):=if a0=0 then (r10_Width.j0 k a0 (a0 == 0)) else (r10_Width.j0 k a0 (a0 == 1))
theorem r10_Width.mono_l : ∀ k,(∀ y0 y1,LeO (r10_Width.j0 k y0 y1) (r10_Width.j0 (k+1) y0 y1))
 | 0=>fun _ _ r h=>by simp [r10_Width.j0] at h
 | k+1=>by
  have ih0:=r10_Width.mono_l k
  ·
   intro y0 y1
   unfold r10_Width.j0
   repeat' with_reducible first|apply ih0|apply yLr|apply yLn|apply yLi|apply yLb|intro _
theorem r10_Width.mono : ∀ a0 k,LeO (r10_Width.f k a0) (r10_Width.f (k+1) a0):=by
 intro a0 k
 have ih0:=r10_Width.mono_l k
 unfold r10_Width.f
 repeat' with_reducible first|apply ih0|apply yLr|apply yLn|apply yLi|apply yLb|intro _
set_option maxHeartbeats 8000000 in
set_option maxRecDepth 100000 in
theorem r10_Width.calls (k : Nat) (a0 : Int) (r : Int) (w : World) (h : r10_Width.f k a0=some r) :
  Calls Try.prog 65 #[.int .i64 a0] w fun e w' => e=.returned (.int .i64 r)∧Drawn0 w w' := by
 have H:=h
 unfold r10_Width.f at H
 clear h;have HC2:=zm H;clear H
 go_enter Try.func65,Try.ntmps65
 go_upto_if 4 with (fail)
 go_cut [4] (fun v4 wc => ∃ (kq : Nat) (ac : Bool),v4=.bool ac∧Aside0 (r10_Width.j0 kq a0 ac=some r)∧Aside0 (kq≤k)∧Drawn0 w wc)
 case first =>
  have H:=HC2.out;clear HC2
  by_cases c3 : a0=0
  ·
   rw [if_pos c3] at H
   obtain ⟨aa,ae⟩:=yE c3
   clear c3
   (first|rw [aa]|(simp only [i64_w,i32_w];rw [aa])|skip)
   have H' := zm H
   clear H
   go_wp2
   go_meet
   case rel=>exact ⟨_,((a0 == 0)),yq,H',⟨yo⟩,yd⟩
  rw [if_neg c3] at H
  obtain ⟨aa,ae⟩:=yF c3
  (first|rw [aa]|(simp only [i64_w,i32_w];rw [aa])|skip)
  have H' := zm H
  clear H
  go_wp2
  go_meet
  case rel=>exact ⟨_,((a0 == 1)),yq,H',⟨yo⟩,yd⟩
 case rest =>
  clear HC2
  obtain ⟨kq,ac,rfl,HA,HJ1,⟨mc1,rfl⟩⟩:=hcut
  obtain ⟨kj1,rfl⟩:=ysu kq (fun h=>by subst h;exact absurd HA.out (by simp [r10_Width.j0]))
  have H:=HA.out;clear HA
  simp only [r10_Width.j0] at H
  by_cases c4 : ac=true
  ·
   subst c4
   rw [if_pos rfl] at H
   obtain rfl:=Option.some.inj H
   go_wp2
   go_ret
   exact ⟨yq,yd⟩
  replace c4:=Bool.eq_false_iff.mpr c4
  subst c4
  rw [ynf] at H
  by_cases c5 : a0=2
  ·
   rw [if_pos c5] at H
   obtain ⟨af,ag⟩:=yE c5
   clear c5
   obtain rfl:=Option.some.inj H
   go_wp2
   go_ret
   exact ⟨yq,yd⟩
  rw [if_neg c5] at H
  obtain ⟨af,ag⟩:=yF c5
  by_cases c6 : a0=3
  ·
   rw [if_pos c6] at H
   obtain ⟨ah,ai⟩:=yE c6
   clear c6
   obtain rfl:=Option.some.inj H
   go_wp2
   go_ret
   exact ⟨yq,yd⟩
  rw [if_neg c6] at H
  obtain ⟨ah,ai⟩:=yF c6
  by_cases c7 : a0=4
  ·
   rw [if_pos c7] at H
   obtain ⟨aj,ak⟩:=yE c7
   clear c7
   obtain rfl:=Option.some.inj H
   go_wp2
   go_ret
   exact ⟨yq,yd⟩
  rw [if_neg c7] at H
  obtain ⟨aj,ak⟩:=yF c7
  obtain rfl:=Option.some.inj H
  go_wp2
  go_ret
  exact ⟨yq,yd⟩
def r12_More.f (l0 : List Int) (a1 : Int) : Option (List Int):=(some (([] : List Int) : List Int)).bind fun ae=>(if ae.length+l0.length < 17592186044416 then ((some (ae ++ l0 : List Int)).bind fun aa=>(if 0≤a1 then (if a1 < (aa.length : Int) then (some (aa.set (a1 : Int).toNat (wrap64 ((rd aa a1)+1)))) else (none)) else (none))) else (none))
set_option maxHeartbeats 8000000 in
set_option maxRecDepth 100000 in
theorem r12_More.calls (A0 : Option Addr) (c0 : Nat) (l0 : List Int) (a1 : Int) (r : List Int) (w : World) (hr0 : Kd.C (Kd.int .i64) w A0 l0.length l0) (hc0 : l0.length≤c0) (h : r12_More.f l0 a1=some r) :
  Calls Try.prog 119 #[.slice A0 l0.length c0, .int .i64 a1] w fun e w' => ∃ v0_ : Value,e=.returned (v0_)∧Kd.R (Kd.int .i64) 3 w' w.heap.size (fun _=>True) v0_ r∧Below w.heap.size w w' := by
 have HR0:=zm hr0;have HC0:=zm hc0;clear hr0 hc0;have HB:=zm (Below.refl w.heap.size w);have H:=h
 unfold r12_More.f at H
 clear h
 obtain ⟨ae,af⟩ : ∃ y_ : List Int,y_=(([] : List Int)):=⟨_,rfl⟩
 replace H : (if ae.length+l0.length < 17592186044416 then ((some (ae ++ l0 : List Int)).bind fun aa=>(if 0≤a1 then (if a1 < (aa.length : Int) then (some (aa.set (a1 : Int).toNat (wrap64 ((rd aa a1)+1)))) else (none)) else (none))) else (none))=some r:=yrw af H
 have aj:=zm af;clear af
 replace H:=yif H;obtain ⟨c3,H⟩:=H
 have LMc3:=zm c3;clear c3
 obtain ⟨aa,ag⟩ : ∃ y_ : List Int,y_=(ae ++ l0):=⟨_,rfl⟩
 replace H : (if 0≤a1 then (if a1 < (aa.length : Int) then (some (aa.set (a1 : Int).toNat (wrap64 ((rd aa a1)+1)))) else (none)) else (none))=some r:=yrw ag H
 have ap:=zm ag;clear ag
 replace H:=yif H;obtain ⟨c4,H⟩:=H
 have aE : decide (0≤a1)=true:=decide_eq_true c4
 clear c4
 replace H:=yif H;obtain ⟨c5,H⟩:=H
 have aG : decide (a1 < (aa.length : Int))=true:=decide_eq_true c5
 clear c5
 obtain ⟨aq,ah⟩ : ∃ y_ : List Int,y_=(aa.set (a1 : Int).toNat (wrap64 ((rd aa a1)+1))):=⟨_,rfl⟩
 replace H : (some aq)=some r:=yrw ah H
 have au:=zm ah;clear ah
 obtain rfl:=Option.some.inj H
 go_enter Try.func119,Try.ntmps119
 go_wp2_with (first|((with_reducible refine gate_dst (N:=6) rfl ?_);refine Kd.R_lit (Kd.int .i64) _ 3 ?hg (N:=6) ?hd (xs:=([] : List Int)) (inner := []) (ok:=fun _=>True) (okp:=fun _=>True) ?hr ?hp (fun _ hk=>hk) trivial (Below.refl _ _) (Nat.le_refl _) (by simp) ?_;(case hd=>rfl);(case hg=>rfl);(case hr=>first|(go_simp;done)|(go_simp;rfl));(case hp=>exact (Reps.none _ _));intro av w7 ho8 hb hg_ hnew_;clear hg_ hnew_;(first|rw [← aj.out] at ho8|(simp only [Int.reduceToNat] at ho8;rw [← aj.out] at ho8));have ak:=zm (Kd.R_lower ho8 (zE yhb));replace HB:=ybs hb;clear hb ho8)|((with_reducible refine gate_builtin (b:=.append) (xs := #[.tmp 6, .tmp 7]) rfl ?_);at_builtin;refine Kd.R_append_rows (Kd.int .i64) (w0:=w) w.heap.size rfl (.tmp 6) (.tmp 7) 55 3 (.int .i64 0) 8 rfl Try.underlying55 info3 rfl (by decide) (by omega) av ae l0 _ _ _ (fun _=>True) (fun _=>False) rfl rfl ?aO ?aR (fun _ _ h=>h) (fun _ h=>h.elim) ?aF ?aB ?aS ?aL ?_;(case aR=>exact ycb HR0);(case aB=>exact yhb);(case aF=>exact (fun _ _=>trivial));(case aO=>exact (yr ak));(case aS=>exact (zE yhb));(case aL=>have:=LMc3.out;omega);intro aH w9 ho hb hg hat;rw [← ap.out] at ho;replace HB:=zm (hb);have ac:=zm (ho);clear ak;clear ho hb hg hat;obtain ⟨aI,aw,ax⟩:=Kd.R_slice ac.out;subst ax;have al : 0≤(a1 : Int):=yt;have am : a1 < (aa.length : Int):=yt;obtain ⟨az,ay,ai⟩:=Kd.at_int (Kd.R_reads' ac.out).2.2 a1 al am;cases ay;replace al:=eq_true al;replace am:=eq_true am;have p6 : 0≤(a1 : Int):=yt;have q6 : (a1 : Int) < ((aa.length : Int) : Int):=yt;obtain ⟨go6,co6,eo6,gb6,gl6,cl6,HG6⟩:=Kd.R_form ac.out (by omega);(first|cases eo6|(injection eo6 with ea_ en_ ec_;(first|subst ea_|(injection ea_ with ea_;subst ea_));subst ec_;clear en_));have GB6:=zm gb6;have GG6:=zm HG6;clear gb6 gl6 HG6;(first|simp only [add_plain] at ai|skip);obtain ⟨aA,aC⟩:=Kd.R_celln 0 ac.out (a1 : Int) p6 q6;replace p6:=eq_true p6;replace q6:=eq_true q6;obtain ⟨aD,hz11_⟩:=Kd.R_celln 0 ac.out (a1 : Int) (yt) (yt);have ao:=Kd.R_putg ac.out (a1 : Int) (wrap64 ((rd aa a1)+1)))|((with_reducible refine gate_store (t:=3) (p:=16) rfl ?_);refine store_event (t:=3) (p:=16) (v := ?vo_w12) (w1:=(w9.setCell ⟨go6,(a1 : Int).toNat,none⟩ (.int .i64 (wrap64 ((rd aa a1)+1))))) ?hg ?ho ?hn ?hr ?_;(case ho=>rfl);(case hg=>rfl);(case hn=>rfl);(case hr=>first|(go_simp;done)|(go_simp;rfl));intro w12 hw;have hg : w9.grownBy w12 (some go6):=(by rw [hw];exact ao.2);have hp_ : Kd.R (Kd.int .i64) 3 w12 w.heap.size (fun _=>True) (.slice (some ⟨go6,0,none⟩) aa.length aw) aq:=(by rw [hw,au.out];exact ao.1);clear ao;replace ac:=zm (hp_);replace HB:=zm ((by rw [hw];exact zk (HB.out) GB6.out : Below w.heap.size w w12));clear hg hw hp_))
 go_ret
 exact ⟨_,ye,yr ac,yhb⟩
def r12_Spent.l0 : Nat→List Int→Int→Int→Option (Int)
 | 0,_,_,_=>none
 | k+1,x0,x3,x4=>if x4 < 5 then ((r10_Width.f k x4).bind fun ae=>(if 0≤x4 then (if x4 < (x0.length : Int) then ((r06_Cost.f k ae (rd x0 x4)).bind fun af=>(r12_Spent.l0 k x0 (wrap64 (x3+af)) (wrap64 (x4+1)))) else (none)) else (none))) else (some x3)
def r12_Spent.f (k : Nat) (l0 : List Int) : Option (Int):=r12_Spent.l0 k l0 0 0
theorem r12_Spent.mono_l : ∀ k,(∀ y0 y1 y2,LeO (r12_Spent.l0 k y0 y1 y2) (r12_Spent.l0 (k+1) y0 y1 y2))
 | 0=>fun _ _ _ r h=>by simp [r12_Spent.l0] at h
 | k+1=>by
  have ih0:=r12_Spent.mono_l k
  ·
   intro y0 y1 y2
   unfold r12_Spent.l0
   repeat' with_reducible first|apply ih0|apply r06_Cost.mono|apply r10_Width.mono|apply yLr|apply yLn|apply yLi|apply yLb|intro _
theorem r12_Spent.mono : ∀ a0 k,LeO (r12_Spent.f k a0) (r12_Spent.f (k+1) a0):=by
 intro a0 k
 have ih0:=r12_Spent.mono_l k
 unfold r12_Spent.f
 repeat' with_reducible first|apply ih0|apply r06_Cost.mono|apply r10_Width.mono|apply yLr|apply yLn|apply yLi|apply yLb|intro _
def r12_Spent.T5 : Bool × List (List Nat × List Nat):=(true, [([], []),([], []),([1], [1]),([], []),([], []),([3,4], [3,4]),([5], [5]),([2,6,2], [2,6]),([0,7], [0,7]),([8,7,0,1,2,3,4,5,6,7,8], [0,8])])
def r12_Spent.B5 : List Nat := [0,0,2,0,0,24,56,126,255,511]
theorem r12_Spent.tab5 : rtab .any (opsOf Try.f123 5)=r12_Spent.T5:=by kernel_rfl
theorem r12_Spent.bits5 : waitsOk r12_Spent.T5.2 r12_Spent.B5=true:=by kernel_rfl
set_option maxHeartbeats 8000000 in
set_option maxRecDepth 100000 in
theorem r12_Spent.calls (k : Nat) (A0 : Option Addr) (c0 : Nat) (l0 : List Int) (r : Int) (w : World) (hr0 : Kd.C (Kd.int .i64) w A0 l0.length l0) (hc0 : l0.length≤c0) (h : r12_Spent.f k l0=some r) :
  Calls Try.prog 123 #[.slice A0 l0.length c0] w fun e w' => e=.returned (.int .i64 r)∧Below w.heap.size w w' := by
 have HR0:=zm hr0;have HC0:=zm hc0;clear hr0 hc0;have HB:=zm (Below.refl w.heap.size w);have H:=h
 unfold r12_Spent.f at H
 clear h
 have H' := zm H
 clear H
 go_enter Try.func123,Try.ntmps123
 go_wp2
 go_loopg [3,4] k (fun kq v3 v4 w' => ∃ (ag : Int) (aa : Int),v3=.int .i64 ag∧v4=.int .i64 aa∧Aside0 (r12_Spent.l0 kq l0 ag aa=some r)∧Aside0 (kq≤k)∧Aside0 (Below w.heap.size w w'))
 case atStart=>exact ⟨(0),(0),yq,yq,H',⟨Nat.le_refl _⟩,⟨yhb⟩⟩
 case round =>
  clear H'
  obtain ⟨ag,aa,rfl,rfl,HA,HK1,HB⟩:=hrel
  obtain ⟨k1,rfl⟩:=ysu gk (fun h=>by subst h;exact absurd HA.out (by simp [r12_Spent.l0]))
  have H:=HA.out;clear HA
  simp only [r12_Spent.l0] at H
  by_cases c2 : aa < 5
  ·
   rw [if_pos c2] at H
   have ak:=yD c2
   clear c2
   replace H:=ybi H;obtain ⟨ae,A3,H⟩:=H
   replace H:=yif H;obtain ⟨c4,H⟩:=H
   have am : decide (0≤aa)=true:=decide_eq_true c4
   clear c4
   replace H:=yif H;obtain ⟨c5,H⟩:=H
   have ao : decide (aa < (l0.length : Int))=true:=decide_eq_true c5
   clear c5
   replace H:=ybi H;obtain ⟨af,A6,H⟩:=H
   have H' := zm H
   clear H
   try go_wp2
   replace HB:=zm (zf HB.out)
   have ah : 0≤(aa : Int):=yt
   have ai : aa < (l0.length : Int):=yt
   obtain ⟨aj,al,ac⟩:=Kd.at_int HR0.out aa ah ai
   have hw440_0:=ac
   cases al
   replace ac:=yhx HB ac
   replace ah:=eq_true ah
   replace ai:=eq_true ai
   refine start_ (n:=10) (S:=fun w' => w'.cell? (aj.add (aa).toNat)=some (.int .i64 (rd l0 aa))) (ds := []) #[false,false,false,false,false,false,false,false,false,false] (by kernel_rfl) rfl rfl ((yhx HB hw440_0 :)) (fun hHeld => ?_);refine with_tabW r12_Spent.tab5 r12_Spent.bits5 (fun HT_ HW_ => ?_)
   generalize wr.drew=w7 at HB ac hHeld ⊢
   refine yp 0 9 HT_ ?_
   refine yp 1 10 HT_ ?_
   refine yp 3 12 HT_ ?_
   refine yp 4 13 HT_ ?_
   refine yp 5 14 HT_ ?_
   refine yl 6 15 HT_ HW_ hHeld ?_
   refine yw 2 11 HT_ (fun K hK => ?_)
   refine ygs Try.func65 #[.int .i64 aa] ?_
   with_reducible refine (r10_Width.calls k1 aa ae _ A3.out).mono ?_
   rintro e w' ⟨rfl,⟨nd,rfl⟩⟩
   refine ⟨_,rfl, ?_⟩
   refine hK.out _ _ ((yhx HB hw440_0 :)) (fun hHeld => ?_)
   clear hK K
   refine ym (some 11) ?_
   refine yw 7 16 HT_ (fun K hK => ?_)
   refine ygs Try.func125 #[.int .i64 ae, .int .i64 (rd l0 aa)] ?_
   with_reducible refine (r06_Cost.calls k1 ae (rd l0 aa) af _ A6.out).mono ?_
   rintro e w8 ⟨rfl,hb⟩
   refine ⟨_,rfl, ?_⟩
   replace HB:=ybs hb
   (try clear hb)
   refine hK.out _ _ ((yhx HB hw440_0 :)) (fun hHeld => ?_)
   clear hK K
   refine ym (some 16) ?_
   refine yp 8 17 HT_ ?_
   refine yp 9 3 HT_ ?_
   refine done_ (done_of HT_.out (by kernel_rfl)) ?_
   try go_wp2
   go_roundg k1
   case measure=>exact yom1 HK1
   case rel=>exact ⟨(wrap64 (ag+af)),(wrap64 (aa+1)),yq,yq,H',⟨yom1 HK1⟩,⟨yhb⟩⟩
  rw [if_neg c2] at H
  have ak:=yG c2
  clear c2
  obtain rfl:=Option.some.inj H
  go_wp2
  go_ret
  exact ⟨ye,yhb⟩
def r12_May.j0 : Nat→List Int→Int→Int→Bool→Option (Bool)
 | 0,_,_,_,_=>none
 | k+1,x1,x2,x3,x32=>if x32=true then (some false) else ((r12_More.f x1 x2).bind fun am=>((r12_Spent.f k am).bind fun aw=>(some (decide (aw≤x3)))))
def r12_May.f (k : Nat) (l0 : List Int) (l1 : List Int) (a2 : Int) (a3 : Int) : Option (Bool):=if 0≤a2 then (if a2 < (l0.length : Int) then (if (rd l0 a2) < 1 then (r12_May.j0 k l1 a2 a3 true) else (if a2 < (l1.length : Int) then (if (rd l1 a2) ≥ 12 then (r12_May.j0 k l1 a2 a3 true) else ((r10_Width.f k a2).bind fun ao=>(if ao=1 then (r12_May.j0 k l1 a2 a3 (decide ((rd l1 a2) > 0))) else (r12_May.j0 k l1 a2 a3 false)))) else (none))) else (none)) else (none)
theorem r12_May.mono_l : ∀ k,(∀ y0 y1 y2 y3,LeO (r12_May.j0 k y0 y1 y2 y3) (r12_May.j0 (k+1) y0 y1 y2 y3))
 | 0=>fun _ _ _ _ r h=>by simp [r12_May.j0] at h
 | k+1=>by
  have ih0:=r12_May.mono_l k
  ·
   intro y0 y1 y2 y3
   unfold r12_May.j0
   repeat' with_reducible first|apply ih0|apply r10_Width.mono|apply r12_Spent.mono|apply yLr|apply yLn|apply yLi|apply yLb|intro _
theorem r12_May.mono : ∀ a0 a1 a2 a3 k,LeO (r12_May.f k a0 a1 a2 a3) (r12_May.f (k+1) a0 a1 a2 a3):=by
 intro a0 a1 a2 a3 k
 have ih0:=r12_May.mono_l k
 unfold r12_May.f
 repeat' with_reducible first|apply ih0|apply r10_Width.mono|apply r12_Spent.mono|apply yLr|apply yLn|apply yLi|apply yLb|intro _
set_option maxHeartbeats 8000000 in
set_option maxRecDepth 100000 in
theorem r12_May.calls (k : Nat) (A0 : Option Addr) (c0 : Nat) (l0 : List Int) (A1 : Option Addr) (c1 : Nat) (l1 : List Int) (a2 : Int) (a3 : Int) (r : Bool) (w : World) (hr0 : Kd.C (Kd.int .i64) w A0 l0.length l0) (hc0 : l0.length≤c0) (hr1 : Kd.C (Kd.int .i64) w A1 l1.length l1) (hc1 : l1.length≤c1) (h : r12_May.f k l0 l1 a2 a3=some r) :
  Calls Try.prog 118 #[.slice A0 l0.length c0, .slice A1 l1.length c1, .int .i64 a2, .int .i64 a3] w fun e w' => e=.returned (.bool r)∧Below w.heap.size w w' := by
 have HR0:=zm hr0;have HC0:=zm hc0;clear hr0 hc0;have HR1:=zm hr1;have HC1:=zm hc1;clear hr1 hc1;have HB:=zm (Below.refl w.heap.size w);have H:=h
 unfold r12_May.f at H
 clear h;have HC5:=zm H;clear H
 go_enter Try.func118,Try.ntmps118
 go_upto_region 1 with (fail)
 go_cut [32] (fun v32 wc => ∃ (kq : Nat) (ak : Bool),v32=.bool ak∧Aside0 (r12_May.j0 kq l1 a2 a3 ak=some r)∧Aside0 (kq≤k)∧Aside0 (Below w.heap.size w wc))
 case first =>
  have H:=HC5.out;clear HC5
  replace H:=yif H;obtain ⟨c6,H⟩:=H
  have az : decide (0≤a2)=true:=decide_eq_true c6
  clear c6
  (first|rw [az]|(simp only [i64_w,i32_w];rw [az])|skip)
  replace H:=yif H;obtain ⟨c7,H⟩:=H
  have aN : decide (a2 < (l0.length : Int))=true:=decide_eq_true c7
  clear c7
  by_cases c8 : (rd l0 a2) < 1
  ·
   rw [if_pos c8] at H
   have aH:=yD c8
   clear c8
   have H' := zm H
   clear H
   have ae : 0≤(a2 : Int):=yt
   have af : a2 < (l0.length : Int):=yt
   obtain ⟨ap,aj,aa⟩:=Kd.at_int HR0.out a2 ae af
   cases aj
   replace aa:=yhx HB aa
   replace ae:=eq_true ae
   replace af:=eq_true af
   go_wp2
   go_meet
   case rel=>exact ⟨_,(true),yq,H',⟨yo⟩,⟨yhb⟩⟩
  rw [if_neg c8] at H
  have aH:=yG c8
  clear c8
  replace H:=yif H;obtain ⟨c9,H⟩:=H
  have aQ : decide (a2 < (l1.length : Int))=true:=decide_eq_true c9
  clear c9
  by_cases c10 : (rd l1 a2) ≥ 12
  ·
   rw [if_pos c10] at H
   have aA:=yDl c10
   clear c10
   have H' := zm H
   clear H
   have ae : 0≤(a2 : Int):=yt
   have af : a2 < (l0.length : Int):=yt
   obtain ⟨ap,aj,aa⟩:=Kd.at_int HR0.out a2 ae af
   cases aj
   replace aa:=yhx HB aa
   replace ae:=eq_true ae
   replace af:=eq_true af
   have ag : 0≤(a2 : Int):=yt
   have ah : a2 < (l1.length : Int):=yt
   obtain ⟨aq,au,ac⟩:=Kd.at_int HR1.out a2 ag ah
   cases au
   replace ac:=yhx HB ac
   replace ag:=eq_true ag
   replace ah:=eq_true ah
   go_wp2
   go_meet
   case rel=>exact ⟨_,(true),yq,H',⟨yo⟩,⟨yhb⟩⟩
  rw [if_neg c10] at H
  have aA:=yGl c10
  clear c10
  replace H:=ybi H;obtain ⟨ao,A11,H⟩:=H
  by_cases c12 : ao=1
  ·
   rw [if_pos c12] at H
   obtain ⟨aC,aD⟩:=yE c12
   clear c12
   have H' := zm H
   clear H
   have ae : 0≤(a2 : Int):=yt
   have af : a2 < (l0.length : Int):=yt
   obtain ⟨ap,aj,aa⟩:=Kd.at_int HR0.out a2 ae af
   cases aj
   replace aa:=yhx HB aa
   replace ae:=eq_true ae
   replace af:=eq_true af
   have ag : 0≤(a2 : Int):=yt
   have ah : a2 < (l1.length : Int):=yt
   obtain ⟨aq,au,ac⟩:=Kd.at_int HR1.out a2 ag ah
   cases au
   replace ac:=yhx HB ac
   replace ag:=eq_true ag
   replace ah:=eq_true ah
   go_wp2_with (first|(go_at_call 65;(with_reducible refine (r10_Width.calls k a2 ao _ A11.out).mono ?_);rintro e w' ⟨rfl,⟨nd,rfl⟩⟩;have ax : 0≤(a2 : Int):=yt;have ay : a2 < (l1.length : Int):=yt;obtain ⟨aE,aI,al⟩:=Kd.at_int HR1.out a2 ax ay;obtain rfl : aq=aE:=(by injection aI);replace al:=yhx HB al;replace ax:=eq_true ax;replace ay:=eq_true ay))
   go_meet
   case rel=>exact ⟨_,(decide ((rd l1 a2) > 0)),yq,H',⟨yo⟩,⟨yhb⟩⟩
  rw [if_neg c12] at H
  obtain ⟨aC,aD⟩:=yF c12
  have H' := zm H
  clear H
  have ae : 0≤(a2 : Int):=yt
  have af : a2 < (l0.length : Int):=yt
  obtain ⟨ap,aj,aa⟩:=Kd.at_int HR0.out a2 ae af
  cases aj
  replace aa:=yhx HB aa
  replace ae:=eq_true ae
  replace af:=eq_true af
  have ag : 0≤(a2 : Int):=yt
  have ah : a2 < (l1.length : Int):=yt
  obtain ⟨aq,au,ac⟩:=Kd.at_int HR1.out a2 ag ah
  cases au
  replace ac:=yhx HB ac
  replace ag:=eq_true ag
  replace ah:=eq_true ah
  go_wp2_with (first|(go_at_call 65;(with_reducible refine (r10_Width.calls k a2 ao _ A11.out).mono ?_);rintro e w' ⟨rfl,⟨nd,rfl⟩⟩))
  go_meet
  case rel=>exact ⟨_,(false),yq,H',⟨yo⟩,⟨yhb⟩⟩
 case rest =>
  clear HC5
  try clear c1
  obtain ⟨kq,ak,rfl,HA,HJ4,HB⟩:=hcut
  obtain ⟨kj4,rfl⟩:=ysu kq (fun h=>by subst h;exact absurd HA.out (by simp [r12_May.j0]))
  have H:=HA.out;clear HA
  simp only [r12_May.j0] at H
  by_cases c13 : ak=true
  ·
   subst c13
   rw [if_pos rfl] at H
   obtain rfl:=Option.some.inj H
   go_wp2
   go_ret
   exact ⟨ye,yhb⟩
  replace c13:=Bool.eq_false_iff.mpr c13
  subst c13
  rw [ynf] at H
  replace H:=ybi H;obtain ⟨am,A14,H⟩:=H
  replace H:=ybi H;obtain ⟨aw,A15,H⟩:=H
  obtain rfl:=Option.some.inj H
  go_wp2_with (first|((with_reducible refine gate_callee (f:=119) rfl ?_);refine ygl 35 Try.func119 #[.slice A1 l1.length c1, .int .i64 a2] ?_;(with_reducible refine (r12_More.calls _ _ l1 a2 am _ ?av HC1.out A14.out).mono ?_);(case av=>exact ycb HR1);rintro e w16 ⟨aT,rfl,ho0,hb⟩;refine ⟨_,rfl, ?_⟩;have ai:=zm (Kd.R_lower ho0 (zE yhb));replace HB:=ybs hb;(try clear hb);(try clear ho0);obtain ⟨aJ,aK,aM⟩:=Kd.R_slice ai.out;subst aM)|((with_reducible refine gate_callee (f:=123) rfl ?_);refine ygl 36 Try.func123 #[.slice aJ am.length aK] ?_;(with_reducible refine (r12_Spent.calls kj4 _ _ am aw _ ?av ?aG A15.out).mono ?_);(case av=>exact yce (Kd.R_reads' ai.out).2.2);(case aG=>exact (Kd.R_reads' ai.out).2.1);rintro e w18 ⟨rfl,hb⟩;refine ⟨_,rfl, ?_⟩;replace ai:=yRb ai hb;replace HB:=ybs hb;(try clear hb)))
  go_ret
  exact ⟨ye,yhb⟩
mutual
def r12_Channel.l0 : Nat→List Int→Int→List Int→Option (List Int)
 | 0,_,_,_=>none
 | k+1,x0,x1,x5=>r12_Channel.l1 k x0 x1 x5 (-1) 0 0
def r12_Channel.l1 : Nat→List Int→Int→List Int→Int→Int→Int→Option (List Int)
 | 0,_,_,_,_,_,_=>none
 | k+1,x0,x1,x5,x6,x7,x8=>if x8 < 5 then (if 0≤x8 then (if x8 < (x0.length : Int) then (if x8 < (x5.length : Int) then ((r10_Width.f k x8).bind fun aj=>(if aj=0 then (none) else ((r12_May.f k x0 x5 x8 x1).bind fun aH=>(if aH=true then (if x6 < 0 then (r12_Channel.l1 k x0 x1 x5 x8 (wrap64 ((wrap64 (8 * (rd x0 x8))) - (wrap64 (Int.tdiv (wrap64 (16 * (rd x5 x8))) aj)))) (wrap64 (x8+1))) else (if (wrap64 ((wrap64 (8 * (rd x0 x8))) - (wrap64 (Int.tdiv (wrap64 (16 * (rd x5 x8))) aj)))) > x7 then (r12_Channel.l1 k x0 x1 x5 x8 (wrap64 ((wrap64 (8 * (rd x0 x8))) - (wrap64 (Int.tdiv (wrap64 (16 * (rd x5 x8))) aj)))) (wrap64 (x8+1))) else (r12_Channel.l1 k x0 x1 x5 x6 x7 (wrap64 (x8+1))))) else (r12_Channel.l1 k x0 x1 x5 x6 x7 (wrap64 (x8+1))))))) else (none)) else (none)) else (none)) else (if x6 < 0 then (some x5) else ((r12_More.f x5 x6).bind fun ay=>(r12_Channel.l0 k x0 x1 ay)))
end
def r12_Channel.f (k : Nat) (l0 : List Int) (a1 : Int) : Option (List Int):=r12_Channel.l0 k l0 a1 (([0,0,0,0,0] : List Int))
theorem r12_Channel.mono_l : ∀ k,(∀ y0 y1 y2,LeO (r12_Channel.l0 k y0 y1 y2) (r12_Channel.l0 (k+1) y0 y1 y2))∧(∀ y0 y1 y2 y3 y4 y5,LeO (r12_Channel.l1 k y0 y1 y2 y3 y4 y5) (r12_Channel.l1 (k+1) y0 y1 y2 y3 y4 y5))
 | 0=>⟨fun _ _ _ r h=>by simp [r12_Channel.l0] at h,fun _ _ _ _ _ _ r h=>by simp [r12_Channel.l1] at h⟩
 | k+1=>by
  obtain ⟨ih0,ih1⟩:=r12_Channel.mono_l k
  refine ⟨?_, ?_⟩
  ·
   intro y0 y1 y2
   unfold r12_Channel.l0
   repeat' with_reducible first|apply ih0|apply ih1|apply r10_Width.mono|apply r12_May.mono|apply yLr|apply yLn|apply yLi|apply yLb|intro _
  intro y0 y1 y2 y3 y4 y5
  unfold r12_Channel.l1
  repeat' with_reducible first|apply ih0|apply ih1|apply r10_Width.mono|apply r12_May.mono|apply yLr|apply yLn|apply yLi|apply yLb|intro _
theorem r12_Channel.mono : ∀ a0 a1 k,LeO (r12_Channel.f k a0 a1) (r12_Channel.f (k+1) a0 a1):=by
 intro a0 a1 k
 obtain ⟨ih0,ih1⟩:=r12_Channel.mono_l k
 unfold r12_Channel.f
 repeat' with_reducible first|apply ih0|apply ih1|apply r10_Width.mono|apply r12_May.mono|apply yLr|apply yLn|apply yLi|apply yLb|intro _
set_option maxHeartbeats 8000000 in
set_option maxRecDepth 100000 in
theorem r12_Channel.calls (k : Nat) (A0 : Option Addr) (c0 : Nat) (l0 : List Int) (a1 : Int) (r : List Int) (w : World) (hr0 : Kd.C (Kd.int .i64) w A0 l0.length l0) (hc0 : l0.length≤c0) (h : r12_Channel.f k l0 a1=some r) :
  Calls Try.prog 97 #[.slice A0 l0.length c0, .int .i64 a1] w fun e w' => ∃ v0_ : Value,e=.returned (v0_)∧Kd.R (Kd.int .i64) 3 w' w.heap.size (fun _=>True) v0_ r∧Below w.heap.size w w' := by
 have HR0:=zm hr0;have HC0:=zm hc0;clear hr0 hc0;have HB:=zm (Below.refl w.heap.size w);have H:=h
 unfold r12_Channel.f at H
 clear h
 obtain ⟨aI,aA⟩ : ∃ y_ : List Int,y_=(([0,0,0,0,0] : List Int)):=⟨_,rfl⟩
 replace H : (r12_Channel.l0 k l0 a1 aI)=some r:=yrw aA H
 have aq:=zm aA;clear aA
 have H' := zm H
 clear H
 go_enter Try.func97,Try.ntmps97
 go_wp2_with (first|((with_reducible refine gate_dst (N:=10) rfl ?_);refine Kd.R_lit (Kd.int .i64) _ 3 ?hg (N:=10) ?hd (xs:=([0,0,0,0,0] : List Int)) (inner := [.int .i64 0, .int .i64 0, .int .i64 0, .int .i64 0, .int .i64 0]) (ok:=fun _=>True) (okp:=fun _=>True) ?hr ?hp (fun _ hk=>hk) trivial (Below.refl _ _) (Nat.le_refl _) (by simp) ?_;(case hd=>rfl);(case hg=>rfl);(case hr=>first|(go_simp;done)|(go_simp;rfl));(case hp=>exact (Reps.one (show Kd.M (Kd.int .i64) _ _ _ 0 [.int .i64 0] from rfl) (Reps.one (show Kd.M (Kd.int .i64) _ _ _ 0 [.int .i64 0] from rfl) (Reps.one (show Kd.M (Kd.int .i64) _ _ _ 0 [.int .i64 0] from rfl) (Reps.one (show Kd.M (Kd.int .i64) _ _ _ 0 [.int .i64 0] from rfl) (Reps.one (show Kd.M (Kd.int .i64) _ _ _ 0 [.int .i64 0] from rfl) (Reps.none _ _)))))));intro aJ w3 ho4 hb hg_ hnew_;clear hg_ hnew_;(first|rw [← aq.out] at ho4|(simp only [Int.reduceToNat] at ho4;rw [← aq.out] at ho4));have aC:=zm (Kd.R_lower ho4 (zE yhb));replace HB:=ybs hb;clear hb ho4))
 repeat (go_quiet (first|((with_reducible refine gate_dst (N:=10) rfl ?_);refine Kd.R_lit (Kd.int .i64) _ 3 ?hg (N:=10) ?hd (xs:=([0,0,0,0,0] : List Int)) (inner := [.int .i64 0, .int .i64 0, .int .i64 0, .int .i64 0, .int .i64 0]) (ok:=fun _=>True) (okp:=fun _=>True) ?hr ?hp (fun _ hk=>hk) trivial (Below.refl _ _) (Nat.le_refl _) (by simp) ?_;(case hd=>rfl);(case hg=>rfl);(case hr=>first|(go_simp;done)|(go_simp;rfl));(case hp=>exact (Reps.one (show Kd.M (Kd.int .i64) _ _ _ 0 [.int .i64 0] from rfl) (Reps.one (show Kd.M (Kd.int .i64) _ _ _ 0 [.int .i64 0] from rfl) (Reps.one (show Kd.M (Kd.int .i64) _ _ _ 0 [.int .i64 0] from rfl) (Reps.one (show Kd.M (Kd.int .i64) _ _ _ 0 [.int .i64 0] from rfl) (Reps.one (show Kd.M (Kd.int .i64) _ _ _ 0 [.int .i64 0] from rfl) (Reps.none _ _)))))));intro aJ w3 ho4 hb hg_ hnew_;clear hg_ hnew_;(first|rw [← aq.out] at ho4|(simp only [Int.reduceToNat] at ho4;rw [← aq.out] at ho4));have aC:=zm (Kd.R_lower ho4 (zE yhb));replace HB:=ybs hb;clear hb ho4));try go_wp2_with (first|((with_reducible refine gate_dst (N:=10) rfl ?_);refine Kd.R_lit (Kd.int .i64) _ 3 ?hg (N:=10) ?hd (xs:=([0,0,0,0,0] : List Int)) (inner := [.int .i64 0, .int .i64 0, .int .i64 0, .int .i64 0, .int .i64 0]) (ok:=fun _=>True) (okp:=fun _=>True) ?hr ?hp (fun _ hk=>hk) trivial (Below.refl _ _) (Nat.le_refl _) (by simp) ?_;(case hd=>rfl);(case hg=>rfl);(case hr=>first|(go_simp;done)|(go_simp;rfl));(case hp=>exact (Reps.one (show Kd.M (Kd.int .i64) _ _ _ 0 [.int .i64 0] from rfl) (Reps.one (show Kd.M (Kd.int .i64) _ _ _ 0 [.int .i64 0] from rfl) (Reps.one (show Kd.M (Kd.int .i64) _ _ _ 0 [.int .i64 0] from rfl) (Reps.one (show Kd.M (Kd.int .i64) _ _ _ 0 [.int .i64 0] from rfl) (Reps.one (show Kd.M (Kd.int .i64) _ _ _ 0 [.int .i64 0] from rfl) (Reps.none _ _)))))));intro aJ w3 ho4 hb hg_ hnew_;clear hg_ hnew_;(first|rw [← aq.out] at ho4|(simp only [Int.reduceToNat] at ho4;rw [← aq.out] at ho4));have aC:=zm (Kd.R_lower ho4 (zE yhb));replace HB:=ybs hb;clear hb ho4)))
 go_loopg [5] k (fun kq v5 w' => ∃ (ai : List Int),Aside0 (r12_Channel.l0 kq l0 a1 ai=some r)∧Aside0 (kq≤k)∧Aside0 (Kd.R (Kd.int .i64) 3 w' w.heap.size (fun _=>True) v5 ai)∧Aside0 (Below w.heap.size w w'))
 case atStart=>exact ⟨(aI),H',⟨Nat.le_refl _⟩,⟨yr aC⟩,⟨yhb⟩⟩
 case round =>
  clear H'
  obtain ⟨ai,HA,HK1,aa,HB⟩:=hrel
  obtain ⟨k1,rfl⟩:=ysu gk (fun h=>by subst h;exact absurd HA.out (by simp [r12_Channel.l0]))
  have H:=HA.out;clear HA
  simp only [r12_Channel.l0] at H
  have H' := zm H
  clear H
  go_wp2
  repeat (go_quiet (fail);try go_wp2)
  go_loopg [6,7,8] k1 (fun kq v6 v7 v8 w' => ∃ (ap : Int) (az : Int) (ac : Int),v6=.int .i64 ap∧v7=.int .i64 az∧v8=.int .i64 ac∧Aside0 (r12_Channel.l1 kq l0 a1 ai ap az ac=some r)∧Aside0 (kq≤k1)∧Aside0 (Kd.R (Kd.int .i64) 3 w' w.heap.size (fun _=>True) u5 ai)∧Aside0 (Below w.heap.size w w'))
  case atStart=>exact ⟨((-1)),(0),(0),yq,yq,yq,H',⟨Nat.le_refl _⟩,⟨yr aa⟩,⟨yhb⟩⟩
  case round =>
   clear H'
   obtain ⟨ap,az,ac,rfl,rfl,rfl,HA,HK2,aa,HB⟩:=hrel
   obtain ⟨k2,rfl⟩:=ysu gk (fun h=>by subst h;exact absurd HA.out (by simp [r12_Channel.l1]))
   have H:=HA.out;clear HA
   simp only [r12_Channel.l1] at H
   by_cases c5 : ac < 5
   ·
    rw [if_pos c5] at H
    have aT:=yD c5
    clear c5
    replace H:=yif H;obtain ⟨c6,H⟩:=H
    have a8 : decide (0≤ac)=true:=decide_eq_true c6
    clear c6
    replace H:=yif H;obtain ⟨c7,H⟩:=H
    have a9 : decide (ac < (l0.length : Int))=true:=decide_eq_true c7
    clear c7
    replace H:=yif H;obtain ⟨c8,H⟩:=H
    have ba : decide (ac < (ai.length : Int))=true:=decide_eq_true c8
    clear c8
    replace H:=ybi H;obtain ⟨aj,A9,H⟩:=H
    replace H:=yie H;obtain ⟨c10,H⟩:=H
    obtain ⟨aZ,a7⟩:=yF c10
    replace H:=ybi H;obtain ⟨aH,A11,H⟩:=H
    by_cases c12 : aH=true
    ·
     subst c12
     rw [if_pos rfl] at H
     by_cases c13 : ap < 0
     ·
      rw [if_pos c13] at H
      have aK:=yD c13
      clear c13
      have H' := zm H
      clear H
      have ak : 0≤(ac : Int):=yt
      have al : ac < (l0.length : Int):=yt
      obtain ⟨aD,aw,ah⟩:=Kd.at_int HR0.out ac ak al
      cases aw
      replace ah:=yhx HB ah
      replace ak:=eq_true ak
      replace al:=eq_true al
      obtain ⟨bb,bc,aU⟩:=Kd.R_slice aa.out
      subst aU
      have am : 0≤(ac : Int):=yt
      have ao : ac < (ai.length : Int):=yt
      obtain ⟨aE,ax,au⟩:=Kd.at_int (Kd.R_reads' aa.out).2.2 ac am ao
      cases ax
      replace am:=eq_true am
      replace ao:=eq_true ao
      go_wp2_with (first|(go_at_call 65;(with_reducible refine (r10_Width.calls k2 ac aj _ A9.out).mono ?_);rintro e w' ⟨rfl,⟨nd,rfl⟩⟩;(try exact yww))|(go_at_call 118;(with_reducible refine (r12_May.calls k2 _ _ l0 _ _ ai ac a1 true _ ?ae HC0.out ?af ?ag A11.out).mono ?_);(case ae=>exact ycb HR0);(case af=>exact yce (Kd.R_reads' aa.out).2.2);(case ag=>exact (Kd.R_reads' aa.out).2.1);rintro e w15 ⟨rfl,hb⟩;replace aa:=yRb aa hb;replace HB:=ybs hb;(try clear hb)))
      repeat (go_quiet (first|(go_at_call 65;(with_reducible refine (r10_Width.calls k2 ac aj _ A9.out).mono ?_);rintro e w' ⟨rfl,⟨nd,rfl⟩⟩;(try exact yww))|(go_at_call 118;(with_reducible refine (r12_May.calls k2 _ _ l0 _ _ ai ac a1 true _ ?ae HC0.out ?af ?ag A11.out).mono ?_);(case ae=>exact ycb HR0);(case af=>exact yce (Kd.R_reads' aa.out).2.2);(case ag=>exact (Kd.R_reads' aa.out).2.1);rintro e w15 ⟨rfl,hb⟩;replace aa:=yRb aa hb;replace HB:=ybs hb;(try clear hb)));try go_wp2_with (first|(go_at_call 65;(with_reducible refine (r10_Width.calls k2 ac aj _ A9.out).mono ?_);rintro e w' ⟨rfl,⟨nd,rfl⟩⟩;(try exact yww))|(go_at_call 118;(with_reducible refine (r12_May.calls k2 _ _ l0 _ _ ai ac a1 true _ ?ae HC0.out ?af ?ag A11.out).mono ?_);(case ae=>exact ycb HR0);(case af=>exact yce (Kd.R_reads' aa.out).2.2);(case ag=>exact (Kd.R_reads' aa.out).2.1);rintro e w15 ⟨rfl,hb⟩;replace aa:=yRb aa hb;replace HB:=ybs hb;(try clear hb))))
      go_roundg k2
      case measure=>exact yom2 HK1 HK2
      case rel=>exact ⟨(ac),(wrap64 ((wrap64 (8 * (rd l0 ac))) - (wrap64 (Int.tdiv (wrap64 (16 * (rd ai ac))) aj)))),(wrap64 (ac+1)),yq,yq,yq,H',⟨yom2 HK1 HK2⟩,⟨yr aa⟩,⟨yhb⟩⟩
     rw [if_neg c13] at H
     have aK:=yG c13
     clear c13
     by_cases c16 : (wrap64 ((wrap64 (8 * (rd l0 ac))) - (wrap64 (Int.tdiv (wrap64 (16 * (rd ai ac))) aj)))) > az
     ·
      rw [if_pos c16] at H
      have aM:=yDs c16
      clear c16
      have H' := zm H
      clear H
      have ak : 0≤(ac : Int):=yt
      have al : ac < (l0.length : Int):=yt
      obtain ⟨aD,aw,ah⟩:=Kd.at_int HR0.out ac ak al
      cases aw
      replace ah:=yhx HB ah
      replace ak:=eq_true ak
      replace al:=eq_true al
      obtain ⟨bd,bf,aV⟩:=Kd.R_slice aa.out
      subst aV
      have am : 0≤(ac : Int):=yt
      have ao : ac < (ai.length : Int):=yt
      obtain ⟨aE,ax,au⟩:=Kd.at_int (Kd.R_reads' aa.out).2.2 ac am ao
      cases ax
      replace am:=eq_true am
      replace ao:=eq_true ao
      go_wp2_with (first|(go_at_call 65;(with_reducible refine (r10_Width.calls k2 ac aj _ A9.out).mono ?_);rintro e w' ⟨rfl,⟨nd,rfl⟩⟩;(try exact yww))|(go_at_call 118;(with_reducible refine (r12_May.calls k2 _ _ l0 _ _ ai ac a1 true _ ?ae HC0.out ?af ?ag A11.out).mono ?_);(case ae=>exact ycb HR0);(case af=>exact yce (Kd.R_reads' aa.out).2.2);(case ag=>exact (Kd.R_reads' aa.out).2.1);rintro e w18 ⟨rfl,hb⟩;replace aa:=yRb aa hb;replace HB:=ybs hb;(try clear hb)))
      repeat (go_quiet (first|(go_at_call 65;(with_reducible refine (r10_Width.calls k2 ac aj _ A9.out).mono ?_);rintro e w' ⟨rfl,⟨nd,rfl⟩⟩;(try exact yww))|(go_at_call 118;(with_reducible refine (r12_May.calls k2 _ _ l0 _ _ ai ac a1 true _ ?ae HC0.out ?af ?ag A11.out).mono ?_);(case ae=>exact ycb HR0);(case af=>exact yce (Kd.R_reads' aa.out).2.2);(case ag=>exact (Kd.R_reads' aa.out).2.1);rintro e w18 ⟨rfl,hb⟩;replace aa:=yRb aa hb;replace HB:=ybs hb;(try clear hb)));try go_wp2_with (first|(go_at_call 65;(with_reducible refine (r10_Width.calls k2 ac aj _ A9.out).mono ?_);rintro e w' ⟨rfl,⟨nd,rfl⟩⟩;(try exact yww))|(go_at_call 118;(with_reducible refine (r12_May.calls k2 _ _ l0 _ _ ai ac a1 true _ ?ae HC0.out ?af ?ag A11.out).mono ?_);(case ae=>exact ycb HR0);(case af=>exact yce (Kd.R_reads' aa.out).2.2);(case ag=>exact (Kd.R_reads' aa.out).2.1);rintro e w18 ⟨rfl,hb⟩;replace aa:=yRb aa hb;replace HB:=ybs hb;(try clear hb))))
      go_roundg k2
      case measure=>exact yom2 HK1 HK2
      case rel=>exact ⟨(ac),(wrap64 ((wrap64 (8 * (rd l0 ac))) - (wrap64 (Int.tdiv (wrap64 (16 * (rd ai ac))) aj)))),(wrap64 (ac+1)),yq,yq,yq,H',⟨yom2 HK1 HK2⟩,⟨yr aa⟩,⟨yhb⟩⟩
     rw [if_neg c16] at H
     have aM:=yGs c16
     clear c16
     have H' := zm H
     clear H
     have ak : 0≤(ac : Int):=yt
     have al : ac < (l0.length : Int):=yt
     obtain ⟨aD,aw,ah⟩:=Kd.at_int HR0.out ac ak al
     cases aw
     replace ah:=yhx HB ah
     replace ak:=eq_true ak
     replace al:=eq_true al
     obtain ⟨bg,bh,aW⟩:=Kd.R_slice aa.out
     subst aW
     have am : 0≤(ac : Int):=yt
     have ao : ac < (ai.length : Int):=yt
     obtain ⟨aE,ax,au⟩:=Kd.at_int (Kd.R_reads' aa.out).2.2 ac am ao
     cases ax
     replace am:=eq_true am
     replace ao:=eq_true ao
     go_wp2_with (first|(go_at_call 65;(with_reducible refine (r10_Width.calls k2 ac aj _ A9.out).mono ?_);rintro e w' ⟨rfl,⟨nd,rfl⟩⟩;(try exact yww))|(go_at_call 118;(with_reducible refine (r12_May.calls k2 _ _ l0 _ _ ai ac a1 true _ ?ae HC0.out ?af ?ag A11.out).mono ?_);(case ae=>exact ycb HR0);(case af=>exact yce (Kd.R_reads' aa.out).2.2);(case ag=>exact (Kd.R_reads' aa.out).2.1);rintro e w20 ⟨rfl,hb⟩;replace aa:=yRb aa hb;replace HB:=ybs hb;(try clear hb)))
     repeat (go_quiet (first|(go_at_call 65;(with_reducible refine (r10_Width.calls k2 ac aj _ A9.out).mono ?_);rintro e w' ⟨rfl,⟨nd,rfl⟩⟩;(try exact yww))|(go_at_call 118;(with_reducible refine (r12_May.calls k2 _ _ l0 _ _ ai ac a1 true _ ?ae HC0.out ?af ?ag A11.out).mono ?_);(case ae=>exact ycb HR0);(case af=>exact yce (Kd.R_reads' aa.out).2.2);(case ag=>exact (Kd.R_reads' aa.out).2.1);rintro e w20 ⟨rfl,hb⟩;replace aa:=yRb aa hb;replace HB:=ybs hb;(try clear hb)));try go_wp2_with (first|(go_at_call 65;(with_reducible refine (r10_Width.calls k2 ac aj _ A9.out).mono ?_);rintro e w' ⟨rfl,⟨nd,rfl⟩⟩;(try exact yww))|(go_at_call 118;(with_reducible refine (r12_May.calls k2 _ _ l0 _ _ ai ac a1 true _ ?ae HC0.out ?af ?ag A11.out).mono ?_);(case ae=>exact ycb HR0);(case af=>exact yce (Kd.R_reads' aa.out).2.2);(case ag=>exact (Kd.R_reads' aa.out).2.1);rintro e w20 ⟨rfl,hb⟩;replace aa:=yRb aa hb;replace HB:=ybs hb;(try clear hb))))
     go_roundg k2
     case measure=>exact yom2 HK1 HK2
     case rel=>exact ⟨(ap),(az),(wrap64 (ac+1)),yq,yq,yq,H',⟨yom2 HK1 HK2⟩,⟨yr aa⟩,⟨yhb⟩⟩
    replace c12:=Bool.eq_false_iff.mpr c12
    subst c12
    rw [ynf] at H
    have H' := zm H
    clear H
    have ak : 0≤(ac : Int):=yt
    have al : ac < (l0.length : Int):=yt
    obtain ⟨aD,aw,ah⟩:=Kd.at_int HR0.out ac ak al
    cases aw
    replace ah:=yhx HB ah
    replace ak:=eq_true ak
    replace al:=eq_true al
    obtain ⟨bi,bj,aX⟩:=Kd.R_slice aa.out
    subst aX
    have am : 0≤(ac : Int):=yt
    have ao : ac < (ai.length : Int):=yt
    obtain ⟨aE,ax,au⟩:=Kd.at_int (Kd.R_reads' aa.out).2.2 ac am ao
    cases ax
    replace am:=eq_true am
    replace ao:=eq_true ao
    go_wp2_with (first|(go_at_call 65;(with_reducible refine (r10_Width.calls k2 ac aj _ A9.out).mono ?_);rintro e w' ⟨rfl,⟨nd,rfl⟩⟩;(try exact yww))|(go_at_call 118;(with_reducible refine (r12_May.calls k2 _ _ l0 _ _ ai ac a1 false _ ?ae HC0.out ?af ?ag A11.out).mono ?_);(case ae=>exact ycb HR0);(case af=>exact yce (Kd.R_reads' aa.out).2.2);(case ag=>exact (Kd.R_reads' aa.out).2.1);rintro e w22 ⟨rfl,hb⟩;replace aa:=yRb aa hb;replace HB:=ybs hb;(try clear hb)))
    repeat (go_quiet (first|(go_at_call 65;(with_reducible refine (r10_Width.calls k2 ac aj _ A9.out).mono ?_);rintro e w' ⟨rfl,⟨nd,rfl⟩⟩;(try exact yww))|(go_at_call 118;(with_reducible refine (r12_May.calls k2 _ _ l0 _ _ ai ac a1 false _ ?ae HC0.out ?af ?ag A11.out).mono ?_);(case ae=>exact ycb HR0);(case af=>exact yce (Kd.R_reads' aa.out).2.2);(case ag=>exact (Kd.R_reads' aa.out).2.1);rintro e w22 ⟨rfl,hb⟩;replace aa:=yRb aa hb;replace HB:=ybs hb;(try clear hb)));try go_wp2_with (first|(go_at_call 65;(with_reducible refine (r10_Width.calls k2 ac aj _ A9.out).mono ?_);rintro e w' ⟨rfl,⟨nd,rfl⟩⟩;(try exact yww))|(go_at_call 118;(with_reducible refine (r12_May.calls k2 _ _ l0 _ _ ai ac a1 false _ ?ae HC0.out ?af ?ag A11.out).mono ?_);(case ae=>exact ycb HR0);(case af=>exact yce (Kd.R_reads' aa.out).2.2);(case ag=>exact (Kd.R_reads' aa.out).2.1);rintro e w22 ⟨rfl,hb⟩;replace aa:=yRb aa hb;replace HB:=ybs hb;(try clear hb))))
    go_roundg k2
    case measure=>exact yom2 HK1 HK2
    case rel=>exact ⟨(ap),(az),(wrap64 (ac+1)),yq,yq,yq,H',⟨yom2 HK1 HK2⟩,⟨yr aa⟩,⟨yhb⟩⟩
   rw [if_neg c5] at H
   have aT:=yG c5
   clear c5
   by_cases c23 : ap < 0
   ·
    rw [if_pos c23] at H
    have aN:=yD c23
    clear c23
    obtain rfl:=Option.some.inj H
    go_wp2
    repeat (go_quiet (fail);try go_wp2)
    go_ret
    exact ⟨_,ye,yr aa,yhb⟩
   rw [if_neg c23] at H
   have aN:=yG c23
   clear c23
   replace H:=ybi H;obtain ⟨ay,A24,H⟩:=H
   have H' := zm H
   clear H
   obtain ⟨bk,bl,aY⟩:=Kd.R_slice aa.out
   subst aY
   go_wp2_with (first|(go_at_call 119;(with_reducible refine (r12_More.calls _ _ ai ap ay _ ?ae ?av A24.out).mono ?_);(case ae=>exact yce (Kd.R_reads' aa.out).2.2);(case av=>exact (Kd.R_reads' aa.out).2.1);rintro e w26 ⟨aQ,rfl,ho0,hb⟩;have aG:=zm (Kd.R_lower (Kd.R_new' ho0 (Kd.R_lt (yr aa))) (zE yhb));replace aa:=zm (Kd.R_elder' (yr aa) (Kd.R_base ho0) hb);replace HB:=ybs hb;(try clear hb);(try clear ho0)))
   repeat (go_quiet (first|(go_at_call 119;(with_reducible refine (r12_More.calls _ _ ai ap ay _ ?ae ?av A24.out).mono ?_);(case ae=>exact yce (Kd.R_reads' aa.out).2.2);(case av=>exact (Kd.R_reads' aa.out).2.1);rintro e w26 ⟨aQ,rfl,ho0,hb⟩;have aG:=zm (Kd.R_lower (Kd.R_new' ho0 (Kd.R_lt (yr aa))) (zE yhb));replace aa:=zm (Kd.R_elder' (yr aa) (Kd.R_base ho0) hb);replace HB:=ybs hb;(try clear hb);(try clear ho0)));try go_wp2_with (first|(go_at_call 119;(with_reducible refine (r12_More.calls _ _ ai ap ay _ ?ae ?av A24.out).mono ?_);(case ae=>exact yce (Kd.R_reads' aa.out).2.2);(case av=>exact (Kd.R_reads' aa.out).2.1);rintro e w26 ⟨aQ,rfl,ho0,hb⟩;have aG:=zm (Kd.R_lower (Kd.R_new' ho0 (Kd.R_lt (yr aa))) (zE yhb));replace aa:=zm (Kd.R_elder' (yr aa) (Kd.R_base ho0) hb);replace HB:=ybs hb;(try clear hb);(try clear ho0))))
   go_roundg k2
   case measure=>exact yom2 HK1 HK2
   case rel=>exact ⟨(ay),H',⟨yom2 HK1 HK2⟩,⟨yR0 aG⟩,⟨yhb⟩⟩
def r12_Pulses.l0 : Nat→Int→Int→List (List Int)→List (List Int)→Int→Option ((List (List Int)))
 | 0,_,_,_,_,_=>none
 | k+1,x0,x1,x2,x7,x8=>if x8 < (x2.length : Int) then (if 0≤x8 then ((r12_Room.f x0 x1).bind fun ak=>((r12_Channel.f k (rd_L2 x2 x8) ak).bind fun af=>(if x7.length < 5864062014805 then (r12_Pulses.l0 k x0 x1 x2 (x7 ++ [af]) (wrap64 (x8+1))) else (none)))) else (none)) else (some x7)
def r12_Pulses.f (k : Nat) (a0 : Int) (a1 : Int) (l2 : List (List Int)) : Option ((List (List Int))):=r12_Pulses.l0 k a0 a1 l2 ([] : List (List Int)) 0
theorem r12_Pulses.mono_l : ∀ k,(∀ y0 y1 y2 y3 y4,LeO (r12_Pulses.l0 k y0 y1 y2 y3 y4) (r12_Pulses.l0 (k+1) y0 y1 y2 y3 y4))
 | 0=>fun _ _ _ _ _ r h=>by simp [r12_Pulses.l0] at h
 | k+1=>by
  have ih0:=r12_Pulses.mono_l k
  ·
   intro y0 y1 y2 y3 y4
   unfold r12_Pulses.l0
   repeat' with_reducible first|apply ih0|apply r12_Channel.mono|apply yLr|apply yLn|apply yLi|apply yLb|intro _
theorem r12_Pulses.mono : ∀ a0 a1 a2 k,LeO (r12_Pulses.f k a0 a1 a2) (r12_Pulses.f (k+1) a0 a1 a2):=by
 intro a0 a1 a2 k
 have ih0:=r12_Pulses.mono_l k
 unfold r12_Pulses.f
 repeat' with_reducible first|apply ih0|apply r12_Channel.mono|apply yLr|apply yLn|apply yLi|apply yLb|intro _
def r12_Pulses.T5 : Bool × List (List Nat × List Nat):=(true, [([], []),([], []),([], []),([1,2], [1,2]),([3], [3]),([], []),([], []),([5,6], [5,6]),([4,7,7], [4,7]),([8], [8]),([0,9,8], [0,9]),([10,10,0,1,2,3,4,5,6,7,8,9,10], [0,10])])
def r12_Pulses.B5 : List Nat := [0,0,0,6,14,0,0,96,254,510,1023,2047]
theorem r12_Pulses.tab5 : rtab .any (opsOf Try.f62 5)=r12_Pulses.T5:=by kernel_rfl
theorem r12_Pulses.bits5 : waitsOk r12_Pulses.T5.2 r12_Pulses.B5=true:=by kernel_rfl
set_option maxHeartbeats 8000000 in
set_option maxRecDepth 100000 in
theorem r12_Pulses.calls (k : Nat) (a0 : Int) (a1 : Int) (A2 : Option Addr) (c2 : Nat) (l2 : List (List Int)) (r : List (List Int)) (w : World) (hr2 : Kd.C (Kd.slice 3 (Kd.int .i64)) w A2 l2.length l2) (hc2 : l2.length≤c2) (h : r12_Pulses.f k a0 a1 l2=some r) :
  Calls Try.prog 62 #[.int .i64 a0, .int .i64 a1, .slice A2 l2.length c2] w fun e w' => ∃ v0_ : Value,e=.returned (v0_)∧Kd.S (Kd.slice 3 (Kd.int .i64)) 55 w' w.heap.size (fun _=>True) v0_ r∧Below w.heap.size w w' := by
 have HR2:=zm hr2;have HC2:=zm hc2;clear hr2 hc2;have HB:=zm (Below.refl w.heap.size w);have H:=h
 unfold r12_Pulses.f at H
 clear h
 have H' := zm H
 clear H
 go_enter Try.func62,Try.ntmps62
 go_wp2
 go_loopg [7,8] k (fun kq v7 v8 w' => ∃ (al : List (List Int)) (aa : Int),v8=.int .i64 aa∧Aside0 (r12_Pulses.l0 kq a0 a1 l2 al aa=some r)∧Aside0 (kq≤k)∧Aside0 (Kd.S (Kd.slice 3 (Kd.int .i64)) 55 w' w.heap.size (fun _=>True) v7 al)∧Aside0 (Below w.heap.size w w'))
 case atStart=>exact ⟨(([] : List (List Int))),(0),yq,H',⟨Nat.le_refl _⟩,⟨yn⟩,⟨yhb⟩⟩
 case round =>
  clear H'
  try clear c2
  obtain ⟨al,aa,rfl,HA,HK1,ae,HB⟩:=hrel
  obtain ⟨k1,rfl⟩:=ysu gk (fun h=>by subst h;exact absurd HA.out (by simp [r12_Pulses.l0]))
  have H:=HA.out;clear HA
  simp only [r12_Pulses.l0] at H
  by_cases c4 : aa < (l2.length : Int)
  ·
   rw [if_pos c4] at H
   have aH:=yD c4
   clear c4
   replace H:=yif H;obtain ⟨c5,H⟩:=H
   have aJ : decide (0≤aa)=true:=decide_eq_true c5
   clear c5
   replace H:=ybi H;obtain ⟨ak,A6,H⟩:=H
   replace H:=ybi H;obtain ⟨af,A7,H⟩:=H
   replace H:=yif H;obtain ⟨c8,H⟩:=H
   have LMc8:=zm c8;clear c8
   obtain ⟨aw,am⟩ : ∃ y_ : List (List Int),y_=(al ++ [af]):=⟨_,rfl⟩
   replace H : (r12_Pulses.l0 k1 a0 a1 l2 aw (wrap64 (aa+1)))=some r:=yrw am H
   have ax:=zm am;clear am
   have H' := zm H
   clear H
   try go_wp2
   replace ae:=zm (Kd.S_drew ae.out)
   replace HB:=zm (zf HB.out)
   have au : 0≤(aa : Int):=yt
   have av : aa < (l2.length : Int):=yt
   obtain ⟨ay,ao,ap,aI,ac,ag,ah⟩:=at_L2 HR2.out aa au av
   have hw461_0:=ac
   cases aI
   replace ac:=yhx HB ac
   have ai:=zm ah;have aq:=zm ag;clear ah ag
   replace au:=eq_true au
   replace av:=eq_true av
   refine start_ (n:=12) (S:=fun w' => w'.cell? (ay.add (aa).toNat)=some (.slice ao (rd_L2 l2 aa).length ap)) (ds := []) #[false,false,false,false,false,false,false,false,false,false,false,false] (by kernel_rfl) rfl rfl ((yhx HB hw461_0 :)) (fun hHeld => ?_);refine with_tabW r12_Pulses.tab5 r12_Pulses.bits5 (fun HT_ HW_ => ?_)
   generalize wr.drew=w9 at ae HB ai ac hHeld ⊢
   refine yp 0 15 HT_ ?_
   refine yp 1 16 HT_ ?_
   refine yp 2 17 HT_ ?_
   refine yp 3 18 HT_ ?_
   refine yp 5 20 HT_ ?_
   refine yp 6 21 HT_ ?_
   refine yl 4 19 HT_ HW_ hHeld ?_
   refine yw 7 22 HT_ (fun K hK => ?_)
   refine ygs Try.func98 #[.int .i64 a0, .int .i64 a1] ?_
   with_reducible refine (r12_Room.calls a0 a1 ak _ A6.out).mono ?_
   rintro e w' ⟨rfl,⟨nd,rfl⟩⟩
   refine ⟨_,rfl, ?_⟩
   refine hK.out _ _ ((yhx HB hw461_0 :)) (fun hHeld => ?_)
   clear hK K
   refine ym (some 22) ?_
   refine yw 8 23 HT_ (fun K hK => ?_)
   refine ygs Try.func97 #[.slice ao (rd_L2 l2 aa).length ap, .int .i64 ak] ?_
   with_reducible refine (r12_Channel.calls k1 _ _ (rd_L2 l2 aa) ak af _ ?az ?aA A7.out).mono ?_
   (case az=>exact ycb ai)
   (case aA=>exact aq.out)
   rintro e w10 ⟨aK,rfl,ho0,hb⟩
   refine ⟨_,rfl, ?_⟩
   replace ae:=zm (Kd.S_elder' (yr ae) (Kd.R_base ho0) hb)
   have aj:=zm (Kd.R_lower ho0 (zE yhb))
   replace HB:=ybs hb
   (try clear hb)
   (try clear ho0)
   obtain ⟨aC,aD,aE⟩:=Kd.R_slice aj.out
   (first|subst aE|(injection aE with f1_ f2_ f3_;have f4_:=f1_.symm;have f5_:=f3_.symm;clear f1_ f2_ f3_;subst f4_;subst f5_))
   refine hK.out _ _ ((yhx HB hw461_0 :)) (fun hHeld => ?_)
   clear hK K
   refine ym (some 23) ?_
   refine yw 9 24 HT_ (fun K hK => ?_)
   refine value_ (w1 := ?_) (v := ?_) (by rfl) rfl ?_ ?_
   rotate_left 2
   ·
    go_simp
    constructor
    ·
     rfl
    rfl
   refine hK.out _ _ ((World.cell?_alloc_lt _ _ _ (zb _ _ ((yhx HB hw461_0 :)))).trans ((yhx HB hw461_0 :))) (fun hHeld => ?_)
   clear hK K
   refine ym (some 24) ?_
   refine yw 10 25 HT_ (fun K hK => ?_)
   refine Kd.S_append_step (Kd.slice 3 (Kd.int .i64)) (w0:=w) w.heap.size (by rfl) (.tmp 15) (.tmp 24) 25 55 (.slice none 0 0) 24 rfl Try.underlying25 info55 rfl (by decide) (by omega) u7 al af [.slice aC af.length aD] (fun _=>True) (fun k_=>some k_=(.slice aC af.length aD : Value).ownBlock) rfl rfl ?aP (fun k_ hk_=>((zG (ok' := fun k_=>((fun _=>True)) k_∧some k_≠(u7 : Value).ownBlock) (Kd.R_apart' (aj.out) (Kd.S_typed ae.out) (by decide)) (fun k_ hk=>⟨trivial,hk.2⟩))).1 k_ hk_.symm) ?aF ?aO ?aB ?aS ?aL ?_
   (case aP=>exact Kd.M_row (zG (Kd.R_tight rfl (zG (ok' := fun k_=>((fun _=>True)) k_∧some k_≠(u7 : Value).ownBlock) (Kd.R_apart' (aj.out) (Kd.S_typed ae.out) (by decide)) (fun k_ hk=>⟨trivial,hk.2⟩))) (fun _ h_=>h_)))
   (case aB=>exact yhb)
   (case aF=>exact (fun _ _=>trivial))
   (case aO=>exact (yS0 ae))
   (case aS=>exact (zE yhb))
   (case aL=>have:=LMc8.out;omega)
   intro aM w11 ho hb hg hat
   rw [← ax.out] at ho
   replace HB:=zm (hb)
   have aG:=zm (ho);clear ae aj ho hb hg hat
   refine hK.out _ _ ((yhx HB hw461_0 :)) (fun hHeld => ?_)
   clear hK K
   refine ym (some 25) ?_
   refine yp 11 7 HT_ ?_
   refine done_ (done_of HT_.out (by kernel_rfl)) ?_
   try go_wp2
   go_roundg k1
   case measure=>exact yom1 HK1
   case rel=>exact ⟨(aw),(wrap64 (aa+1)),yq,H',⟨yom1 HK1⟩,⟨yr aG⟩,⟨yhb⟩⟩
  rw [if_neg c4] at H
  have aH:=yG c4
  clear c4
  obtain rfl:=Option.some.inj H
  go_wp2
  go_ret
  exact ⟨_,ye,yr ae,yhb⟩
end Go.Proofs.Ytifkhfnmbiefaaa.Prt
