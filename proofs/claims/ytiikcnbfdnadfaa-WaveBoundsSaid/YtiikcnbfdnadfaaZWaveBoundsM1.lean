-- Functions of the program and of the document as plain Lean, each with the proof that the code comes to it. Written by a program of this session (wip/tools/myprint.py, pack.py) over the kit's printer; Lean checks it.
import Derived.Test.YtiikcnbfdnadfaaZWaveBoundsPrt0
import Derived.Laws.EntriesVeiled
namespace Go.Proofs.Ytiikcnbfdnadfaa.Prt
open Go.RowKit Go.Proofs.YtiikcnbfdnadfaaW.PrintWords Go.Proofs.YtiikcnbfdnadfaaW.PrintLast Go.Proofs.YtiikcnbfdnadfaaW.PrintMore
attribute [local go_sem] max2_int min2_int max_two min_two max_three min_three max_four min_four   -- for this text's walks alone
set_option linter.unusedVariables false
set_option linter.unusedSimpArgs false

/-! ### psalterylaw08_great: function 9 -/
def psalterylaw08_great.f (l0 : List Int) : Option (Bool):=some (decide ((l0.length : Int) > 200))
set_option maxHeartbeats 8000000 in
set_option maxRecDepth 100000 in
theorem psalterylaw08_great.calls (A0 : Option Addr) (c0 : Nat) (l0 : List Int) (r : Bool) (w : World) (hr0 : Kd.C (Kd.int .i64) w A0 l0.length l0) (hc0 : l0.length≤c0) (h : psalterylaw08_great.f l0=some r) :
  Calls Try.prog 9 #[.slice A0 l0.length c0] w fun e w' => e=.returned (.bool r)∧Drawn0 w w' := by
 have HR0:=zm hr0;have HC0:=zm hc0;clear hr0 hc0
 have H : (some (decide ((l0.length : Int) > 200)))=some r:=h
 clear h
 obtain rfl:=Option.some.inj H
 go_enter Try.func9,Try.ntmps9
 go_wp2
 go_ret
 exact ⟨by first|rfl|(simp;done)|(simp [*];done),by repeat (first|exact Drawn0.refl _|apply Drawn0.step)⟩

end Go.Proofs.Ytiikcnbfdnadfaa.Prt

namespace Go.Proofs.Ytiikcnbfdnadfaa.Prt
open Go.RowKit Go.Proofs.YtiikcnbfdnadfaaW.PrintWords Go.Proofs.YtiikcnbfdnadfaaW.PrintLast Go.Proofs.YtiikcnbfdnadfaaW.PrintMore
attribute [local go_sem] max2_int min2_int max_two min_two max_three min_three max_four min_four   -- for this text's walks alone
set_option linter.unusedVariables false
set_option linter.unusedSimpArgs false

/-! ### psalteryref07_Same: function 14 -/
def psalteryref07_Same.l0 : Nat→List Int→List Int→Int→Option (Bool)
 | 0,_,_,_=>none
 | k+1,x0,x1,x5=>if x5 < (x0.length : Int) then (if 0≤x5 then (if x5 < (x1.length : Int) then (if (rd x0 x5)=(rd x1 x5) then (psalteryref07_Same.l0 k x0 x1 (wrap64 (x5+1))) else (some false)) else (none)) else (none)) else (some true)
def psalteryref07_Same.f (k : Nat) (l0 : List Int) (l1 : List Int) : Option (Bool):=if (l0.length : Int)=(l1.length : Int) then (psalteryref07_Same.l0 k l0 l1 0) else (some false)
theorem psalteryref07_Same.mono_l : ∀ k,(∀ y0 y1 y2,LeO (psalteryref07_Same.l0 k y0 y1 y2) (psalteryref07_Same.l0 (k+1) y0 y1 y2))
 | 0=>fun _ _ _ r h=>by simp [psalteryref07_Same.l0] at h
 | k+1=>by
  have ih0:=psalteryref07_Same.mono_l k
  ·
   intro y0 y1 y2
   unfold psalteryref07_Same.l0
   repeat' first
   | (with_reducible exact ih0 _ _ _)
   | (with_reducible exact LeO.refl _)
   | (with_reducible exact LeO.none _)
   | (with_reducible refine LeO.ite ?_ ?_)
   | (with_reducible refine LeO.bind ?_ (fun _ => ?_))
   | exact ih0 _ _ _
   | exact LeO.none _
   | refine LeO.ite ?_ ?_
   | refine LeO.bind ?_ (fun _ => ?_)
theorem psalteryref07_Same.mono : ∀ a0 a1 k,LeO (psalteryref07_Same.f k a0 a1) (psalteryref07_Same.f (k+1) a0 a1):=by
 intro a0 a1 k
 have ih0:=psalteryref07_Same.mono_l k
 unfold psalteryref07_Same.f
 repeat' first
   | (with_reducible exact ih0 _ _ _)
   | (with_reducible exact LeO.refl _)
   | (with_reducible exact LeO.none _)
   | (with_reducible refine LeO.ite ?_ ?_)
   | (with_reducible refine LeO.bind ?_ (fun _ => ?_))
   | exact ih0 _ _ _
   | exact LeO.none _
   | refine LeO.ite ?_ ?_
   | refine LeO.bind ?_ (fun _ => ?_)
set_option maxHeartbeats 8000000 in
set_option maxRecDepth 100000 in
theorem psalteryref07_Same.calls (k : Nat) (A0 : Option Addr) (c0 : Nat) (l0 : List Int) (A1 : Option Addr) (c1 : Nat) (l1 : List Int) (r : Bool) (w : World) (hr0 : Kd.C (Kd.int .i64) w A0 l0.length l0) (hc0 : l0.length≤c0) (hr1 : Kd.C (Kd.int .i64) w A1 l1.length l1) (hc1 : l1.length≤c1) (h : psalteryref07_Same.f k l0 l1=some r) :
  Calls Try.prog 14 #[.slice A0 l0.length c0, .slice A1 l1.length c1] w fun e w' => e=.returned (.bool r)∧Drawn0 w w' := by
 have HR0:=zm hr0;have HC0:=zm hc0;clear hr0 hc0;have HR1:=zm hr1;have HC1:=zm hc1;clear hr1 hc1
 have H : (if (l0.length : Int)=(l1.length : Int) then (psalteryref07_Same.l0 k l0 l1 0) else (some false))=some r:=h
 clear h
 by_cases c3 : (l0.length : Int)=(l1.length : Int)
 ·
  rw [if_pos c3] at H
  have c3b0 : ((l0.length : Int) == (l1.length : Int))=true:=beq_iff_eq.mpr c3
  have c3b1 : ((l0.length : Int) != (l1.length : Int))=false:=bne_eq_false_iff_eq.mpr c3
  have c3b2 : (l0.length == l1.length)=true:=by first|simpa using c3|(simp at c3 ⊢; omega)
  clear c3
  have H' := zm H
  clear H
  go_enter Try.func14,Try.ntmps14
  go_wp2
  repeat (go_quiet (fail);try go_wp2)
  go_loopg [5] k (fun kq v5 w' => ∃ (x5_1 : Int),v5=.int .i64 x5_1∧Aside0 (psalteryref07_Same.l0 kq l0 l1 x5_1=some r)∧Aside0 (kq≤k)∧Drawn0 w w')
  case atStart=>exact ⟨(0),(by first|rfl|(simp;done)|(simp [*];done)),H',⟨Nat.le_refl _⟩,by repeat (first|exact Drawn0.refl _|apply Drawn0.step)⟩
  case round =>
   clear H'
   try clear c1
   try clear p2
   try clear c3
   try clear c3b0
   try clear c3b1
   try clear c3b2
   obtain ⟨x5_1,rfl,HA,HK1,⟨m1,rfl⟩⟩:=hrel
   cases gk with
   | zero=>exact absurd HA.out (by simp [psalteryref07_Same.l0])
   | succ k1 =>
    have H:=HA.out;clear HA
    simp only [psalteryref07_Same.l0] at H
    by_cases c4 : x5_1 < (l0.length : Int)
    ·
     rw [if_pos c4] at H
     have c4b0 : decide (x5_1 < (l0.length : Int))=true:=decide_eq_true c4
     clear c4
     by_cases c5 : 0≤x5_1
     ·
      rw [if_pos c5] at H
      have c5b0 : decide (0≤x5_1)=true:=decide_eq_true c5
      clear c5
      by_cases c6 : x5_1 < (l1.length : Int)
      ·
       rw [if_pos c6] at H
       have c6b0 : decide (x5_1 < (l1.length : Int))=true:=decide_eq_true c6
       clear c6
       by_cases c7 : (rd l0 x5_1)=(rd l1 x5_1)
       ·
        rw [if_pos c7] at H
        have c7b0 : ((rd l0 x5_1) == (rd l1 x5_1))=true:=beq_iff_eq.mpr c7
        have c7b1 : ((rd l0 x5_1) != (rd l1 x5_1))=false:=bne_eq_false_iff_eq.mpr c7
        clear c7
        have H' := zm H
        clear H
        have p138 : 0≤(x5_1 : Int):=of_decide_eq_true (by first|(with_reducible assumption)|assumption)
        have q138 : x5_1 < (l0.length : Int):=of_decide_eq_true (by first|(with_reducible assumption)|assumption)
        obtain ⟨ad138,e138,hx138_0⟩:=Kd.at_int HR0.out x5_1 p138 q138
        cases e138
        replace p138:=eq_true p138
        replace q138:=eq_true q138
        have p139 : 0≤(x5_1 : Int):=of_decide_eq_true (by first|(with_reducible assumption)|assumption)
        have q139 : x5_1 < (l1.length : Int):=of_decide_eq_true (by first|(with_reducible assumption)|assumption)
        obtain ⟨ad139,e139,hx139_0⟩:=Kd.at_int HR1.out x5_1 p139 q139
        cases e139
        replace p139:=eq_true p139
        replace q139:=eq_true q139
        go_wp2
        repeat (go_quiet (fail);try go_wp2)
        go_roundg k1
        case measure=>have:=HK1.out;omega
        case rel=>exact ⟨(wrap64 (x5_1+1)),(by first|rfl|(simp;done)|(simp [*];done)),H',⟨by have:=HK1.out;omega⟩,by repeat (first|exact Drawn0.refl _|apply Drawn0.step)⟩
       ·
        rw [if_neg c7] at H
        have c7b0 : ((rd l0 x5_1) == (rd l1 x5_1))=false:=beq_eq_false_iff_ne.mpr c7
        have c7b1 : ((rd l0 x5_1) != (rd l1 x5_1))=true:=bne_iff_ne.mpr c7
        obtain rfl:=Option.some.inj H
        have p138 : 0≤(x5_1 : Int):=of_decide_eq_true (by first|(with_reducible assumption)|assumption)
        have q138 : x5_1 < (l0.length : Int):=of_decide_eq_true (by first|(with_reducible assumption)|assumption)
        obtain ⟨ad138,e138,hx138_0⟩:=Kd.at_int HR0.out x5_1 p138 q138
        cases e138
        replace p138:=eq_true p138
        replace q138:=eq_true q138
        have p139 : 0≤(x5_1 : Int):=of_decide_eq_true (by first|(with_reducible assumption)|assumption)
        have q139 : x5_1 < (l1.length : Int):=of_decide_eq_true (by first|(with_reducible assumption)|assumption)
        obtain ⟨ad139,e139,hx139_0⟩:=Kd.at_int HR1.out x5_1 p139 q139
        cases e139
        replace p139:=eq_true p139
        replace q139:=eq_true q139
        go_wp2
        repeat (go_quiet (fail);try go_wp2)
        go_ret
        exact ⟨by first|rfl|(simp;done)|(simp [*];done),by repeat (first|exact Drawn0.refl _|apply Drawn0.step)⟩
      ·
       rw [if_neg c6] at H
       exact absurd H (by simp)
     ·
      rw [if_neg c5] at H
      exact absurd H (by simp)
    ·
     rw [if_neg c4] at H
     have c4b0 : decide (x5_1 < (l0.length : Int))=false:=decide_eq_false c4
     clear c4
     obtain rfl:=Option.some.inj H
     go_wp2
     repeat (go_quiet (fail);try go_wp2)
     go_ret
     exact ⟨by first|rfl|(simp;done)|(simp [*];done),by repeat (first|exact Drawn0.refl _|apply Drawn0.step)⟩
 ·
  rw [if_neg c3] at H
  have c3b0 : ((l0.length : Int) == (l1.length : Int))=false:=beq_eq_false_iff_ne.mpr c3
  have c3b1 : ((l0.length : Int) != (l1.length : Int))=true:=bne_iff_ne.mpr c3
  have c3b2 : (l0.length == l1.length)=false:=by first|simpa using c3|(simp at c3 ⊢; omega)
  obtain rfl:=Option.some.inj H
  go_enter Try.func14,Try.ntmps14
  go_wp2
  repeat (go_quiet (fail);try go_wp2)
  go_ret
  exact ⟨by first|rfl|(simp;done)|(simp [*];done),by repeat (first|exact Drawn0.refl _|apply Drawn0.step)⟩

end Go.Proofs.Ytiikcnbfdnadfaa.Prt

namespace Go.Proofs.Ytiikcnbfdnadfaa.Prt
open Go.RowKit Go.Proofs.YtiikcnbfdnadfaaW.PrintWords Go.Proofs.YtiikcnbfdnadfaaW.PrintLast Go.Proofs.YtiikcnbfdnadfaaW.PrintMore
attribute [local go_sem] max2_int min2_int max_two min_two max_three min_three max_four min_four   -- for this text's walks alone
set_option linter.unusedVariables false
set_option linter.unusedSimpArgs false

/-! ### num_Shift: function 22 -/
def num_Shift.f (a0 : Int) (a1 : Int) : Option (Int × Int):=if a1 < 0 then (some (0,1)) else (if a1 > 62 then (some (0,1)) else (if 0≤(IntKind.u64.wrap (a1)) then (some (shr .i64 a0 (IntKind.u64.wrap (a1)),0)) else (none)))
set_option maxHeartbeats 8000000 in
set_option maxRecDepth 100000 in
theorem num_Shift.calls (a0 : Int) (a1 : Int) (r1 : Int) (r2 : Int) (w : World) (h : num_Shift.f a0 a1=some (r1,r2)) :
  Calls Try.prog 22 #[.int .i64 a0, .int .i64 a1] w fun e w' => e=.returned (.tuple #[.int .i64 r1, .int .i64 r2])∧Drawn0 w w' := by
 have H : (if a1 < 0 then (some (0,1)) else (if a1 > 62 then (some (0,1)) else (if 0≤(IntKind.u64.wrap (a1)) then (some (shr .i64 a0 (IntKind.u64.wrap (a1)),0)) else (none))))=some (r1,r2):=h
 clear h
 by_cases c3 : a1 < 0
 ·
  rw [if_pos c3] at H
  have c3b0 : decide (a1 < 0)=true:=decide_eq_true c3
  clear c3
  simp only [Option.some.injEq,Prod.mk.injEq] at H
  obtain ⟨rfl,rfl⟩:=H
  go_enter Try.func22,Try.ntmps22
  go_wp2
  go_ret2
  exact ⟨by first|rfl|(simp;done)|(simp [*];done),by repeat (first|exact Drawn0.refl _|apply Drawn0.step)⟩
 ·
  rw [if_neg c3] at H
  have c3b0 : decide (a1 < 0)=false:=decide_eq_false c3
  clear c3
  by_cases c4 : a1 > 62
  ·
   rw [if_pos c4] at H
   have c4b0 : decide (62 < a1)=true:=decide_eq_true c4
   clear c4
   simp only [Option.some.injEq,Prod.mk.injEq] at H
   obtain ⟨rfl,rfl⟩:=H
   go_enter Try.func22,Try.ntmps22
   go_wp2
   go_ret2
   exact ⟨by first|rfl|(simp;done)|(simp [*];done),by repeat (first|exact Drawn0.refl _|apply Drawn0.step)⟩
  ·
   rw [if_neg c4] at H
   have c4b0 : decide (62 < a1)=false:=decide_eq_false c4
   clear c4
   obtain ⟨ji5,hji5⟩ : ∃ j_ : Int,(IntKind.u64.wrap (a1))=j_:=⟨_,rfl⟩
   replace H : (if 0≤(ji5) then (some (shr .i64 a0 (ji5),0)) else (none))=some (r1,r2):=by first|(rw [hji5] at H;exact H)|(simp only [hji5] at H ⊢; exact H)
   by_cases c6 : 0≤(ji5)
   ·
    rw [if_pos c6] at H
    have c6b0:=eq_true c6
    have c6b1 : decide (0≤(ji5))=true:=decide_eq_true c6
    clear c6
    obtain ⟨ji7,hji7⟩ : ∃ j_ : Int,(shr .i64 a0 (ji5))=j_:=⟨_,rfl⟩
    replace H : (some (ji7,0))=some (r1,r2):=by first|(rw [hji7] at H;exact H)|(simp only [hji7] at H ⊢; exact H)
    have hji7_ : (a0 / 2 ^ min (ji5).toNat 64)=ji7:=hji7
    have hji7z : (ji5)≤64→(a0 / 2 ^ (ji5).toNat)=ji7:=shr_small hji7
    simp only [Option.some.injEq,Prod.mk.injEq] at H
    obtain ⟨rfl,rfl⟩:=H
    go_enter Try.func22,Try.ntmps22
    go_wp2
    go_ret2
    exact ⟨by first|rfl|(simp;done)|(simp only [← hji5, ← hji7] <;> (first|rfl|simp))|(simp [*];done),by repeat (first|exact Drawn0.refl _|apply Drawn0.step)⟩
   ·
    rw [if_neg c6] at H
    exact absurd H (by simp)

end Go.Proofs.Ytiikcnbfdnadfaa.Prt

namespace Go.Proofs.Ytiikcnbfdnadfaa.Prt
open Go.RowKit Go.Proofs.YtiikcnbfdnadfaaW.PrintWords Go.Proofs.YtiikcnbfdnadfaaW.PrintLast Go.Proofs.YtiikcnbfdnadfaaW.PrintMore
attribute [local go_sem] max2_int min2_int max_two min_two max_three min_three max_four min_four   -- for this text's walks alone
set_option linter.unusedVariables false
set_option linter.unusedSimpArgs false

/-! ### wave_half: function 19 -/
def wave_half.f (a0 : Int) : Option (Int):=(num_Shift.f a0 1).bind fun bt104=>(some bt104.1)
set_option maxHeartbeats 8000000 in
set_option maxRecDepth 100000 in
theorem wave_half.calls (a0 : Int) (r : Int) (w : World) (h : wave_half.f a0=some r) :
  Calls Try.prog 19 #[.int .i64 a0] w fun e w' => e=.returned (.int .i64 r)∧Drawn0 w w' := by
 have H : ((num_Shift.f a0 1).bind fun bt104=>(some bt104.1))=some r:=h
 clear h
 replace H:=Option.bind_eq_some_iff.mp H
 obtain ⟨⟨t104,t105⟩,A20,H⟩:=H
 replace H : (some t104)=some r:=H
 have A2:=zm A20;clear A20
 obtain rfl:=Option.some.inj H
 go_enter Try.func19,Try.ntmps19
 go_wp2_with (first|((with_reducible refine gate_callee (f:=22) rfl ?_);refine goesL_ (some 7) rfl rfl Try.func22 (by kernel_rfl) rfl #[.int .i64 a0, .int .i64 1] rfl (by (try simp only [List.map_toArray,List.map_cons,List.map_nil]);first|done|rfl|(simp only [List.length_drop,List.length_take];rfl)) ?_;(with_reducible refine (num_Shift.calls a0 1 t104 t105 _ A2.out).mono ?_);rintro e w' ⟨rfl,⟨nd,rfl⟩⟩;refine ⟨_,rfl, ?_⟩))
 go_ret
 exact ⟨by first|rfl|(simp;done)|(simp [*];done),by repeat (first|exact Drawn0.refl _|apply Drawn0.step)⟩

end Go.Proofs.Ytiikcnbfdnadfaa.Prt

namespace Go.Proofs.Ytiikcnbfdnadfaa.Prt
open Go.RowKit Go.Proofs.YtiikcnbfdnadfaaW.PrintWords Go.Proofs.YtiikcnbfdnadfaaW.PrintLast Go.Proofs.YtiikcnbfdnadfaaW.PrintMore
attribute [local go_sem] max2_int min2_int max_two min_two max_three min_three max_four min_four   -- for this text's walks alone
set_option linter.unusedVariables false
set_option linter.unusedSimpArgs false

/-! ### wave_Level: function 18 -/
mutual
def wave_Level.l0 : Nat→List Int→List Int→List Int→Int→Option (List Int)
 | 0,_,_,_,_=>none
 | k+1,x0,x4,x5,x6=>if x6 < (x0.length : Int) then (if 0≤(wrap64 (x6+1)) then (if (wrap64 (x6+1)) < (x0.length : Int) then (if 0≤x6 then ((wave_half.f (wrap64 ((rd x0 (wrap64 (x6+1))) - (rd x0 x6)))).bind fun t112=>((some (([wrap64 ((rd x0 x6)+t112)] : List Int) : List Int)).bind fun y113=>(if x4.length+y113.length < 17592186044416 then ((some (([wrap64 ((rd x0 (wrap64 (x6+1))) - (rd x0 x6))] : List Int) : List Int)).bind fun y119=>(if x5.length+y119.length < 17592186044416 then (wave_Level.l0 k x0 (x4 ++ y113) (x5 ++ y119) (wrap64 (x6+2))) else (none))) else (none)))) else (none)) else (none)) else (none)) else ((if x4.length=1 then (some x4) else (wave_Level.f k x4 0)).bind fun t999=>(if t999.length+x5.length < 17592186044416 then (some (t999 ++ x5)) else (none)))
def wave_Level.f : Nat→List Int→Int→Option (List Int)
 | 0,_,_=>none
 | k+1,l0,a1=>if (l0.length : Int)=1 then (none) else (wave_Level.l0 k l0 ([] : List Int) ([] : List Int) 0)
end
theorem wave_Level.mono_l : ∀ k,(∀ y0 y1,LeO (wave_Level.f k y0 y1) (wave_Level.f (k+1) y0 y1))∧(∀ y0 y1 y2 y3,LeO (wave_Level.l0 k y0 y1 y2 y3) (wave_Level.l0 (k+1) y0 y1 y2 y3))
 | 0=>⟨fun _ _ r h=>by simp [wave_Level.f] at h,fun _ _ _ _ r h=>by simp [wave_Level.l0] at h⟩
 | k+1=>by
  obtain ⟨ih0,ih1⟩:=wave_Level.mono_l k
  refine ⟨?_, ?_⟩
  ·
   intro y0 y1
   unfold wave_Level.f
   repeat' first
   | (with_reducible exact ih0 _ _)
   | (with_reducible exact ih1 _ _ _ _)
   | (with_reducible exact LeO.refl _)
   | (with_reducible exact LeO.none _)
   | (with_reducible refine LeO.ite ?_ ?_)
   | (with_reducible refine LeO.bind ?_ (fun _ => ?_))
   | exact ih0 _ _
   | exact ih1 _ _ _ _
   | exact LeO.none _
   | refine LeO.ite ?_ ?_
   | refine LeO.bind ?_ (fun _ => ?_)
  ·
   intro y0 y1 y2 y3
   unfold wave_Level.l0
   repeat' first
   | (with_reducible exact ih0 _ _)
   | (with_reducible exact ih1 _ _ _ _)
   | (with_reducible exact LeO.refl _)
   | (with_reducible exact LeO.none _)
   | (with_reducible refine LeO.ite ?_ ?_)
   | (with_reducible refine LeO.bind ?_ (fun _ => ?_))
   | exact ih0 _ _
   | exact ih1 _ _ _ _
   | exact LeO.none _
   | refine LeO.ite ?_ ?_
   | refine LeO.bind ?_ (fun _ => ?_)
theorem wave_Level.mono : ∀ a0 a1 k,LeO (wave_Level.f k a0 a1) (wave_Level.f (k+1) a0 a1):=by
 intro a0 a1 k
 obtain ⟨ih0,ih1⟩:=wave_Level.mono_l k
 exact ih0 a0 a1
def wave_Level.T7 : Bool × List (List Nat × List Nat):=(true, [([], []),([], []),([1], [1]),([0,2], [0,2]),([3], [3]),([], []),([], []),([5,6], [5,6]),([7], [7]),([4,8], [4,8]),([9,0,1,2,3,4,5,6,7,8,9], [9])])
def wave_Level.B7 : List Nat := [0,0,2,7,15,0,0,96,224,511,1023]
theorem wave_Level.tab7 : rtab .any (opsOf Try.f18 7)=wave_Level.T7:=by kernel_rfl
theorem wave_Level.bits7 : waitsOk wave_Level.T7.2 wave_Level.B7=true:=by kernel_rfl
def wave_Level.T8 : Bool × List (List Nat × List Nat):=(true, [([], []),([], []),([], []),([1,2], [1,2]),([3], [3]),([], []),([5], [5]),([4,6], [4,6]),([7], [7]),([0,8,6], [0,8]),([], []),([], []),([11], [11]),([10,12,9], [10,12]),([9,13,0,1,2,3,4,5,6,7,8,9], [0,9]),([13,14,0,1,2,3,4,5,6,7,8,9,10,11,12,13,14], [10,13])])
def wave_Level.B8 : List Nat := [0,0,0,6,14,0,32,126,254,511,0,0,2048,8191,16383,32767]
theorem wave_Level.tab8 : rtab .any (opsOf Try.f18 8)=wave_Level.T8:=by kernel_rfl
theorem wave_Level.bits8 : waitsOk wave_Level.T8.2 wave_Level.B8=true:=by kernel_rfl
set_option maxHeartbeats 8000000 in
set_option maxRecDepth 100000 in
theorem wave_Level.one (A0 : Option Addr) (n c0 : Nat) (p : Value) (w : World) (hn : n=1) :
  Calls Try.prog 18 #[.slice A0 n c0,p] w fun e w' => e=.returned (.slice A0 n c0)∧Drawn0 w w' := by
 subst hn
 go_enter Try.func18,Try.ntmps18
 go_wp2
 go_ret
 exact ⟨by first|rfl|(simp;done)|(simp [*];done),by repeat (first|exact Drawn0.refl _|apply Drawn0.step)⟩
set_option maxHeartbeats 8000000 in
set_option maxRecDepth 100000 in
theorem wave_Level.calls (B : Nat) (k : Nat) : ∀ (A0 : Option Addr) (c0 : Nat) (l0 : List Int) (a1 : Int) (r : List Int) (w : World) (hr0 : Kd.C (Kd.int .i64) w A0 l0.length l0) (hc0 : l0.length≤c0) (hcl : w.cell? ⟨B,0,none⟩=some (.func (.func 18) #[] #[.pointer (some ⟨B,0,none⟩)])) (h : wave_Level.f k l0 a1=some r),
  Calls Try.prog 18 #[.slice A0 l0.length c0, .pointer (some ⟨B,0,none⟩)] w fun e w' => ∃ v0_ : Value,e=.returned (v0_)∧Kd.R (Kd.int .i64) 2 w' w.heap.size (fun _=>True) v0_ r∧Below w.heap.size w w' := by
 induction k using Nat.strongRecOn with
 | _ k ih =>
 intro A0 c0 l0 a1 r w hr0 hc0 hcl h
 cases k with
 | zero=>exact absurd h (by simp [wave_Level.f])
 | succ k =>
 simp only [wave_Level.f] at h
 have HR0:=zm hr0;have HC0:=zm hc0;have HCL:=zm hcl;clear hr0 hc0 hcl;have HB:=zm (Below.refl w.heap.size w)
 have H : (if (l0.length : Int)=1 then (none) else (wave_Level.l0 k l0 ([] : List Int) ([] : List Int) 0))=some r:=h
 clear h
 by_cases c3 : (l0.length : Int)=1
 ·
  rw [if_pos c3] at H
  have c3b0 : ((l0.length : Int) == 1)=true:=beq_iff_eq.mpr c3
  have c3b1 : ((l0.length : Int) != 1)=false:=bne_eq_false_iff_eq.mpr c3
  exact absurd H (by simp)
 ·
  rw [if_neg c3] at H
  have c3b0 : ((l0.length : Int) == 1)=false:=beq_eq_false_iff_ne.mpr c3
  have c3b1 : ((l0.length : Int) != 1)=true:=bne_iff_ne.mpr c3
  have H' := zm H
  clear H
  go_enter Try.func18,Try.ntmps18
  go_wp2
  go_loopg [4,5,6] k (fun kq v4 v5 v6 w' => ∃ (x4_1 : List Int) (x5_1 : List Int) (x6_1 : Int),v6=.int .i64 x6_1∧Aside0 (wave_Level.l0 kq l0 x4_1 x5_1 x6_1=some r)∧Aside0 (kq≤k)∧Aside0 (Kd.R (Kd.int .i64) 2 w' w.heap.size (fun k_=>some k_≠(v5 : Value).ownBlock) v4 x4_1)∧Aside0 (Kd.R (Kd.int .i64) 2 w' w.heap.size (fun k_=>some k_≠(v4 : Value).ownBlock) v5 x5_1)∧Aside0 (Below w.heap.size w w'))
  case atStart=>exact ⟨(([] : List Int)),(([] : List Int)),(0),(by first|rfl|(simp;done)|(simp [*];done)),H',⟨Nat.le_refl _⟩,⟨by first|exact Kd.R_nil _ _ _ _ _|exact Kd.N_nil _ _ _ _ _|exact Kd.V_nil _ _ _ _ _|exact Kd.Q_nil _ _ _ _ _|exact Kd.S_nil _ _ _ _ _⟩,⟨by first|exact Kd.R_nil _ _ _ _ _|exact Kd.N_nil _ _ _ _ _|exact Kd.V_nil _ _ _ _ _|exact Kd.Q_nil _ _ _ _ _|exact Kd.S_nil _ _ _ _ _⟩,⟨by repeat (first|(with_reducible first|exact HB.out|apply ze|apply zd|apply zf)|exact HB.out)⟩⟩
  case round =>
   clear H'
   try clear c1
   try clear p2
   try clear c3
   try clear c3b0
   try clear c3b1
   obtain ⟨x4_1,x5_1,x6_1,rfl,HA,HK1,HO_4,HO_5,HB⟩:=hrel
   cases gk with
   | zero=>exact absurd HA.out (by simp [wave_Level.l0])
   | succ k1 =>
    have H:=HA.out;clear HA
    simp only [wave_Level.l0] at H
    by_cases c6 : x6_1 < (l0.length : Int)
    ·
     rw [if_pos c6] at H
     have c6b0 : decide (x6_1 < (l0.length : Int))=true:=decide_eq_true c6
     clear c6
     obtain ⟨ji7,hji7⟩ : ∃ j_ : Int,(wrap64 (x6_1+1))=j_:=⟨_,rfl⟩
     replace H : (if 0≤(ji7) then (if (ji7) < (l0.length : Int) then (if 0≤x6_1 then ((wave_half.f (wrap64 ((rd l0 (ji7)) - (rd l0 x6_1)))).bind fun t112=>((some (([wrap64 ((rd l0 x6_1)+t112)] : List Int) : List Int)).bind fun y113=>(if x4_1.length+y113.length < 17592186044416 then ((some (([wrap64 ((rd l0 (ji7)) - (rd l0 x6_1))] : List Int) : List Int)).bind fun y119=>(if x5_1.length+y119.length < 17592186044416 then (wave_Level.l0 k1 l0 (x4_1 ++ y113) (x5_1 ++ y119) (wrap64 (x6_1+2))) else (none))) else (none)))) else (none)) else (none)) else (none))=some r:=by first|(rw [hji7] at H;exact H)|(simp only [hji7] at H ⊢; exact H)
     have hji7w : (IntKind.i64.wrap (x6_1+1))=ji7:=(i64_w _).trans hji7
     by_cases c8 : 0≤(ji7)
     ·
      rw [if_pos c8] at H
      have c8b0 : decide (0≤(ji7))=true:=decide_eq_true c8
      clear c8
      by_cases c9 : (ji7) < (l0.length : Int)
      ·
       rw [if_pos c9] at H
       have c9b0 : decide ((ji7) < (l0.length : Int))=true:=decide_eq_true c9
       clear c9
       by_cases c10 : 0≤x6_1
       ·
        rw [if_pos c10] at H
        have c10b0 : decide (0≤x6_1)=true:=decide_eq_true c10
        clear c10
        replace H:=Option.bind_eq_some_iff.mp H
        obtain ⟨t112,A110,H⟩:=H
        replace H : ((some (([wrap64 ((rd l0 x6_1)+t112)] : List Int) : List Int)).bind fun y113=>(if x4_1.length+y113.length < 17592186044416 then ((some (([wrap64 ((rd l0 (ji7)) - (rd l0 x6_1))] : List Int) : List Int)).bind fun y119=>(if x5_1.length+y119.length < 17592186044416 then (wave_Level.l0 k1 l0 (x4_1 ++ y113) (x5_1 ++ y119) (wrap64 (x6_1+2))) else (none))) else (none)))=some r:=H
        have A11:=zm A110;clear A110
        obtain ⟨y113,hy113⟩ : ∃ y_ : List Int,y_=(([wrap64 ((rd l0 x6_1)+t112)] : List Int)):=⟨_,rfl⟩
        replace H : (if x4_1.length+y113.length < 17592186044416 then ((some (([wrap64 ((rd l0 (ji7)) - (rd l0 x6_1))] : List Int) : List Int)).bind fun y119=>(if x5_1.length+y119.length < 17592186044416 then (wave_Level.l0 k1 l0 (x4_1 ++ y113) (x5_1 ++ y119) (wrap64 (x6_1+2))) else (none))) else (none))=some r:=by first|(rw [hy113];with_reducible exact H)|(have H2_:=(Option.bind_some _ _).symm.trans H;rw [hy113];with_reducible exact H2_)|(have H2_:=(Option.bind_some _ _).symm.trans H;with_reducible exact H2_)|with_reducible exact H|(rw [hy113];exact H)|exact H
        have Ny113:=zm hy113;clear hy113
        by_cases c12 : x4_1.length+y113.length < 17592186044416
        ·
         rw [if_pos c12] at H
         have LMc12:=zm c12;clear c12
         obtain ⟨y116,hy116⟩ : ∃ y_ : List Int,y_=(x4_1 ++ y113):=⟨_,rfl⟩
         replace H : ((some (([wrap64 ((rd l0 (ji7)) - (rd l0 x6_1))] : List Int) : List Int)).bind fun y119=>(if x5_1.length+y119.length < 17592186044416 then (wave_Level.l0 k1 l0 y116 (x5_1 ++ y119) (wrap64 (x6_1+2))) else (none)))=some r:=by first|(rw [hy116];with_reducible exact H)|(have H2_:=(Option.bind_some _ _).symm.trans H;rw [hy116];with_reducible exact H2_)|(have H2_:=(Option.bind_some _ _).symm.trans H;with_reducible exact H2_)|with_reducible exact H|(rw [hy116];exact H)|exact H
         have Ny116:=zm hy116;clear hy116
         obtain ⟨y119,hy119⟩ : ∃ y_ : List Int,y_=(([wrap64 ((rd l0 (ji7)) - (rd l0 x6_1))] : List Int)):=⟨_,rfl⟩
         replace H : (if x5_1.length+y119.length < 17592186044416 then (wave_Level.l0 k1 l0 y116 (x5_1 ++ y119) (wrap64 (x6_1+2))) else (none))=some r:=by first|(rw [hy119];with_reducible exact H)|(have H2_:=(Option.bind_some _ _).symm.trans H;rw [hy119];with_reducible exact H2_)|(have H2_:=(Option.bind_some _ _).symm.trans H;with_reducible exact H2_)|with_reducible exact H|(rw [hy119];exact H)|exact H
         have Ny119:=zm hy119;clear hy119
         by_cases c13 : x5_1.length+y119.length < 17592186044416
         ·
          rw [if_pos c13] at H
          have LMc13:=zm c13;clear c13
          obtain ⟨y122,hy122⟩ : ∃ y_ : List Int,y_=(x5_1 ++ y119):=⟨_,rfl⟩
          replace H : (wave_Level.l0 k1 l0 y116 y122 (wrap64 (x6_1+2)))=some r:=by first|(rw [hy122];with_reducible exact H)|(have H2_:=(Option.bind_some _ _).symm.trans H;rw [hy122];with_reducible exact H2_)|(have H2_:=(Option.bind_some _ _).symm.trans H;with_reducible exact H2_)|with_reducible exact H|(rw [hy122];exact H)|exact H
          have Ny122:=zm hy122;clear hy122
          have H' := zm H
          clear H
          try go_wp2
          have n0_:=zm (zq HO_4.out);have n1_:=zm (zq HO_5.out);have n2_:=zm (zf HB.out);clear HO_4;clear HO_5;clear HB;have HO_4:=n0_;have HO_5:=n1_;have HB:=n2_;clear n0_ n1_ n2_
          have p109 : 0≤((ji7) : Int):=of_decide_eq_true (by first|(with_reducible assumption)|assumption)
          have q109 : (ji7) < (l0.length : Int):=of_decide_eq_true (by first|(with_reducible assumption)|assumption)
          obtain ⟨ad109,e109,hx109_0⟩:=Kd.at_int HR0.out (ji7) p109 q109
          have hw109_0:=hx109_0
          cases e109
          replace hx109_0:=(HB.out.cell (zb w _ hx109_0)).trans hx109_0
          replace p109:=eq_true p109
          replace q109:=eq_true q109
          have p110 : 0≤(x6_1 : Int):=of_decide_eq_true (by first|(with_reducible assumption)|assumption)
          have q110 : x6_1 < (l0.length : Int):=of_decide_eq_true (by first|(with_reducible assumption)|assumption)
          obtain ⟨ad110,e110,hx110_0⟩:=Kd.at_int HR0.out x6_1 p110 q110
          have hw110_0:=hx110_0
          obtain rfl : ad109=ad110:=(by injection e110)
          replace hx110_0:=(HB.out.cell (zb w _ hx110_0)).trans hx110_0
          replace p110:=eq_true p110
          replace q110:=eq_true q110
          refine start_ (n:=11) (S:=fun w' => w'.cell? (ad109.add ((ji7)).toNat)=some (.int .i64 (rd l0 (ji7)))∧w'.cell? (ad109.add (x6_1).toNat)=some (.int .i64 (rd l0 x6_1))) (ds := []) #[false,false,false,false,false,false,false,false,false,false,false] (by kernel_rfl) rfl rfl ⟨((HB.out.cell (zb w _ hw109_0)).trans hw109_0),((HB.out.cell (zb w _ hw110_0)).trans hw110_0)⟩ (fun hHeld => ?_);refine with_tabW wave_Level.tab7 wave_Level.bits7 (fun HT_ HW_ => ?_)
          generalize wr.drew=w14 at HO_4 HO_5 HB hx109_0 hx110_0 hHeld ⊢
          refine pure_ (i:=0) (N:=some 18) (v := ?_) (a' := ?_) #[true,false,false,false,false,false,false,false,false,false,false] rfl rfl (any_of HT_.out (by kernel_rfl)) (fun _ _ _ h=>h) (Or.inl ⟨by rfl, ?_⟩) ?_ ?_
          rotate_left
          ·
           intro w'
           go_simp
           with_reducible rfl
          rotate_left
          ·
           simp only [Act.put,List.setIfInBounds_toArray,List.set_cons_zero,List.set_cons_succ,i64_w,i32_w]
           rfl
          refine pure_ (i:=1) (N:=some 19) (v := ?_) (a' := ?_) #[true,true,false,false,false,false,false,false,false,false,false] rfl rfl (any_of HT_.out (by kernel_rfl)) (fun _ _ _ h=>h) (Or.inl ⟨by rfl, ?_⟩) ?_ ?_
          rotate_left
          ·
           intro w'
           go_simp
           with_reducible rfl
          rotate_left
          ·
           simp only [Act.put,List.setIfInBounds_toArray,List.set_cons_zero,List.set_cons_succ,i64_w,i32_w]
           rfl
          refine pure_ (i:=2) (N:=some 20) (v := ?_) (a' := ?_) #[true,true,true,false,false,false,false,false,false,false,false] rfl rfl (any_of HT_.out (by kernel_rfl)) (fun _ _ _ h=>h) (Or.inl ⟨by rfl, ?_⟩) ?_ ?_
          rotate_left
          ·
           intro w'
           go_simp
           with_reducible rfl
          rotate_left
          ·
           simp only [Act.put,List.setIfInBounds_toArray,List.set_cons_zero,List.set_cons_succ,i64_w,i32_w]
           rfl
          refine pure_ (i:=3) (N:=some 21) (v := ?_) (a' := ?_) #[true,true,true,true,false,false,false,false,false,false,false] rfl rfl (any_of HT_.out (by kernel_rfl)) (fun _ _ _ h=>h) (Or.inl ⟨by rfl, ?_⟩) ?_ ?_
          rotate_left
          ·
           intro w'
           go_simp
           with_reducible rfl
          rotate_left
          ·
           simp only [Act.put,List.setIfInBounds_toArray,List.set_cons_zero,List.set_cons_succ,i64_w,i32_w]
           rfl
          refine pure_ (i:=5) (N:=some 23) (v := ?_) (a' := ?_) #[true,true,true,true,false,true,false,false,false,false,false] rfl rfl (any_of HT_.out (by kernel_rfl)) (fun _ _ _ h=>h) (Or.inl ⟨by rfl, ?_⟩) ?_ ?_
          rotate_left
          ·
           intro w'
           go_simp
           with_reducible rfl
          rotate_left
          ·
           simp only [Act.put,List.setIfInBounds_toArray,List.set_cons_zero,List.set_cons_succ,i64_w,i32_w]
           rfl
          refine pure_ (i:=6) (N:=some 24) (v := ?_) (a' := ?_) #[true,true,true,true,false,true,true,false,false,false,false] rfl rfl (any_of HT_.out (by kernel_rfl)) (fun _ _ _ h=>h) (Or.inl ⟨by rfl, ?_⟩) ?_ ?_
          rotate_left
          ·
           intro w'
           go_simp
           with_reducible rfl
          rotate_left
          ·
           simp only [Act.put,List.setIfInBounds_toArray,List.set_cons_zero,List.set_cons_succ,i64_w,i32_w]
           rfl
          refine pure_ (i:=7) (N:=some 25) (v := ?_) (a' := ?_) #[true,true,true,true,false,true,true,true,false,false,false] rfl rfl (any_of HT_.out (by kernel_rfl)) (fun _ _ _ h=>h) (Or.inl ⟨by rfl, ?_⟩) ?_ ?_
          rotate_left
          ·
           intro w'
           go_simp
           with_reducible rfl
          rotate_left
          ·
           simp only [Act.put,List.setIfInBounds_toArray,List.set_cons_zero,List.set_cons_succ,i64_w,i32_w]
           rfl
          refine take_ (i:=4) (N:=some 22) (v := ?_) (a' := ?_) #[true,true,true,true,true,true,true,true,false,false,false] rfl rfl (take_ofW HT_.out HW_.out (by kernel_rfl)) (fun _ _ _ h=>h) (Or.inl ⟨by rfl, ?_⟩) hHeld ?_ ?_
          rotate_left
          ·
           rintro w' ⟨s0,s1⟩
           go_simp
           with_reducible rfl
          rotate_left
          ·
           simp only [Act.put,List.setIfInBounds_toArray,List.set_cons_zero,List.set_cons_succ,i64_w,i32_w]
           rfl
          refine take_ (i:=8) (N:=some 26) (v := ?_) (a' := ?_) #[true,true,true,true,true,true,true,true,true,false,false] rfl rfl (take_ofW HT_.out HW_.out (by kernel_rfl)) (fun _ _ _ h=>h) (Or.inl ⟨by rfl, ?_⟩) hHeld ?_ ?_
          rotate_left
          ·
           rintro w' ⟨s0,s1⟩
           go_simp
           with_reducible rfl
          rotate_left
          ·
           simp only [Act.put,List.setIfInBounds_toArray,List.set_cons_zero,List.set_cons_succ,i64_w,i32_w]
           rfl
          refine pure_ (i:=9) (N:=some 27) (v := ?_) (a' := ?_) #[true,true,true,true,true,true,true,true,true,true,false] rfl rfl (any_of HT_.out (by kernel_rfl)) (fun _ _ _ h=>h) (Or.inl ⟨by rfl, ?_⟩) ?_ ?_
          rotate_left
          ·
           intro w'
           go_simp
           with_reducible rfl
          rotate_left
          ·
           simp only [Act.put,List.setIfInBounds_toArray,List.set_cons_zero,List.set_cons_succ,i64_w,i32_w]
           rfl
          refine pure_ (i:=10) (N:=some 7) (v := ?_) (a' := ?_) #[true,true,true,true,true,true,true,true,true,true,true] rfl rfl (any_of HT_.out (by kernel_rfl)) (fun _ _ _ h=>h) (Or.inl ⟨by rfl, ?_⟩) ?_ ?_
          rotate_left
          ·
           intro w'
           go_simp
           with_reducible rfl
          rotate_left
          ·
           simp only [Act.put,List.setIfInBounds_toArray,List.set_cons_zero,List.set_cons_succ,i64_w,i32_w]
           rfl
          refine done_ (done_of HT_.out (by kernel_rfl)) ?_
          obtain ⟨Ao15,co15,eo15⟩:=Kd.R_slice HO_4.out
          subst eo15
          obtain ⟨Ao16,co16,eo16⟩:=Kd.R_slice HO_5.out
          subst eo16
          try go_wp2
          have n0_:=zm (zq HO_4.out);have n1_:=zm (zq HO_5.out);have n2_:=zm (zf HB.out);clear HO_4;clear HO_5;clear HB;have HO_4:=n0_;have HO_5:=n1_;have HB:=n2_;clear n0_ n1_ n2_
          have p111 : 0≤(x6_1 : Int):=of_decide_eq_true (by first|(with_reducible assumption)|assumption)
          have q111 : x6_1 < (l0.length : Int):=of_decide_eq_true (by first|(with_reducible assumption)|assumption)
          obtain ⟨ad111,e111,hx111_0⟩:=Kd.at_int HR0.out x6_1 p111 q111
          have hw111_0:=hx111_0
          obtain rfl : ad109=ad111:=(by injection e111)
          replace hx111_0:=(HB.out.cell (zb w _ hx111_0)).trans hx111_0
          replace p111:=eq_true p111
          replace q111:=eq_true q111
          refine start_ (n:=16) (S:=fun w' => w'.cell? (ad109.add (x6_1).toNat)=some (.int .i64 (rd l0 x6_1))) (ds := []) #[false,false,false,false,false,false,false,false,false,false,false,false,false,false,false,false] (by kernel_rfl) rfl rfl (((HB.out.cell (zb w _ hw111_0)).trans hw111_0)) (fun hHeld => ?_);refine with_tabW wave_Level.tab8 wave_Level.bits8 (fun HT_ HW_ => ?_)
          generalize w14.drew=w17 at HO_4 HO_5 HB hx111_0 hHeld ⊢
          refine pure_ (i:=0) (N:=some 28) (v := ?_) (a' := ?_) #[true,false,false,false,false,false,false,false,false,false,false,false,false,false,false,false] rfl rfl (any_of HT_.out (by kernel_rfl)) (fun _ _ _ h=>h) (Or.inl ⟨by rfl, ?_⟩) ?_ ?_
          rotate_left
          ·
           intro w'
           go_simp
           with_reducible rfl
          rotate_left
          ·
           simp only [Act.put,List.setIfInBounds_toArray,List.set_cons_zero,List.set_cons_succ,i64_w,i32_w]
           rfl
          refine pure_ (i:=1) (N:=some 29) (v := ?_) (a' := ?_) #[true,true,false,false,false,false,false,false,false,false,false,false,false,false,false,false] rfl rfl (any_of HT_.out (by kernel_rfl)) (fun _ _ _ h=>h) (Or.inl ⟨by rfl, ?_⟩) ?_ ?_
          rotate_left
          ·
           intro w'
           go_simp
           with_reducible rfl
          rotate_left
          ·
           simp only [Act.put,List.setIfInBounds_toArray,List.set_cons_zero,List.set_cons_succ,i64_w,i32_w]
           rfl
          refine pure_ (i:=2) (N:=some 30) (v := ?_) (a' := ?_) #[true,true,true,false,false,false,false,false,false,false,false,false,false,false,false,false] rfl rfl (any_of HT_.out (by kernel_rfl)) (fun _ _ _ h=>h) (Or.inl ⟨by rfl, ?_⟩) ?_ ?_
          rotate_left
          ·
           intro w'
           go_simp
           with_reducible rfl
          rotate_left
          ·
           simp only [Act.put,List.setIfInBounds_toArray,List.set_cons_zero,List.set_cons_succ,i64_w,i32_w]
           rfl
          refine pure_ (i:=3) (N:=some 31) (v := ?_) (a' := ?_) #[true,true,true,true,false,false,false,false,false,false,false,false,false,false,false,false] rfl rfl (any_of HT_.out (by kernel_rfl)) (fun _ _ _ h=>h) (Or.inl ⟨by rfl, ?_⟩) ?_ ?_
          rotate_left
          ·
           intro w'
           go_simp
           with_reducible rfl
          rotate_left
          ·
           simp only [Act.put,List.setIfInBounds_toArray,List.set_cons_zero,List.set_cons_succ,i64_w,i32_w]
           rfl
          refine pure_ (i:=5) (N:=some 33) (v := ?_) (a' := ?_) #[true,true,true,true,false,true,false,false,false,false,false,false,false,false,false,false] rfl rfl (any_of HT_.out (by kernel_rfl)) (fun _ _ _ h=>h) (Or.inl ⟨by rfl, ?_⟩) ?_ ?_
          rotate_left
          ·
           intro w'
           go_simp
           with_reducible rfl
          rotate_left
          ·
           simp only [Act.put,List.setIfInBounds_toArray,List.set_cons_zero,List.set_cons_succ,i64_w,i32_w]
           rfl
          refine pure_ (i:=10) (N:=some 38) (v := ?_) (a' := ?_) #[true,true,true,true,false,true,false,false,false,false,true,false,false,false,false,false] rfl rfl (any_of HT_.out (by kernel_rfl)) (fun _ _ _ h=>h) (Or.inl ⟨by rfl, ?_⟩) ?_ ?_
          rotate_left
          ·
           intro w'
           go_simp
           with_reducible rfl
          rotate_left
          ·
           simp only [Act.put,List.setIfInBounds_toArray,List.set_cons_zero,List.set_cons_succ,i64_w,i32_w]
           rfl
          refine pure_ (i:=11) (N:=some 39) (v := ?_) (a' := ?_) #[true,true,true,true,false,true,false,false,false,false,true,true,false,false,false,false] rfl rfl (any_of HT_.out (by kernel_rfl)) (fun _ _ _ h=>h) (Or.inl ⟨by rfl, ?_⟩) ?_ ?_
          rotate_left
          ·
           intro w'
           go_simp
           with_reducible rfl
          rotate_left
          ·
           simp only [Act.put,List.setIfInBounds_toArray,List.set_cons_zero,List.set_cons_succ,i64_w,i32_w]
           rfl
          refine take_ (i:=4) (N:=some 32) (v := ?_) (a' := ?_) #[true,true,true,true,true,true,false,false,false,false,true,true,false,false,false,false] rfl rfl (take_ofW HT_.out HW_.out (by kernel_rfl)) (fun _ _ _ h=>h) (Or.inl ⟨by rfl, ?_⟩) hHeld ?_ ?_
          rotate_left
          ·
           intro w' s0
           go_simp
           with_reducible rfl
          rotate_left
          ·
           simp only [Act.put,List.setIfInBounds_toArray,List.set_cons_zero,List.set_cons_succ,i64_w,i32_w]
           rfl
          refine join_ (σ:=Value × Value × Value) 3 #[true,true,true,true,true,true,true,true,true,true,true,true,true,false,false,false] (fun s_ => [(34, .int .i64 t112),(36,s_.1),(37,s_.2.1),(40,s_.2.2),(35, .int .i64 (wrap64 ((rd l0 x6_1)+t112)))]) (fun s_ w' => (w'.cell? (ad109.add (x6_1).toNat)=some (.int .i64 (rd l0 x6_1)))∧(Kd.R (Kd.int .i64) 2 w' w.heap.size (fun k_=>some k_≠(s_.2.1 : Value).ownBlock∧some k_≠(s_.2.2 : Value).ownBlock∧some k_≠(.slice Ao16 x5_1.length co16 : Value).ownBlock) s_.1 y113)∧(Kd.R (Kd.int .i64) 2 w' w.heap.size (fun k_=>some k_≠(s_.1 : Value).ownBlock∧some k_≠(s_.2.2 : Value).ownBlock∧some k_≠(.slice Ao16 x5_1.length co16 : Value).ownBlock) s_.2.1 y116)∧(Kd.R (Kd.int .i64) 2 w' w.heap.size (fun k_=>some k_≠(s_.1 : Value).ownBlock∧some k_≠(s_.2.1 : Value).ownBlock∧some k_≠(.slice Ao16 x5_1.length co16 : Value).ownBlock) s_.2.2 y119)∧(Kd.R (Kd.int .i64) 2 w' w.heap.size (fun k_=>some k_≠(s_.1 : Value).ownBlock∧some k_≠(s_.2.1 : Value).ownBlock∧some k_≠(s_.2.2 : Value).ownBlock) (.slice Ao16 x5_1.length co16) x5_1)∧(Below w.heap.size w w')) ?_ ?_
          rotate_left
          ·
           intro hCont
           refine two_ (i:=6) (j:=12) (Ni:=some 34) (Nj:=some 40) #[true,true,true,true,true,true,true,false,false,false,true,true,false,false,false,false] #[true,true,true,true,true,true,false,false,false,false,true,true,true,false,false,false] rfl rfl rfl rfl (two_of HT_.out (by kernel_rfl)) (by decide) (by decide) (fun K hK => ?_) (fun K hK => ?_)
           ·
            skip
            refine goes_ Try.func19 (by kernel_rfl) rfl #[.int .i64 (wrap64 ((rd l0 (ji7)) - (rd l0 x6_1)))] (by rfl) rfl rfl (by (try simp only [List.map_toArray,List.map_cons,List.map_nil]);first|done|(simp only [hji7];rfl)|rfl|(simp only [List.length_drop,List.length_take];rfl)) ?_
            with_reducible refine (wave_half.calls (wrap64 ((rd l0 (ji7)) - (rd l0 x6_1))) t112 _ A11.out).mono ?_
            rintro e w' ⟨rfl,⟨nd,rfl⟩⟩
            refine ⟨_,rfl, ?_⟩
            refine hK.out _ _ (((HB.out.cell (zb w _ hw111_0)).trans hw111_0)) (fun hHeld => ?_)
            clear hK K
            refine norm_ (a' := ?_) ?_ ?_
            rotate_left
            ·
             show Act.put _ (some 34) _=_
             simp only [Act.put,List.setIfInBounds_toArray,List.set_cons_zero,List.set_cons_succ,i64_w,i32_w]
             rfl
            refine pure_ (i:=7) (N:=some 35) (v := ?_) (a' := ?_) #[true,true,true,true,true,true,true,true,false,false,true,true,false,false,false,false] rfl rfl (any_of HT_.out (by kernel_rfl)) (fun _ _ _ h=>h) (Or.inl ⟨by rfl, ?_⟩) ?_ ?_
            rotate_left
            ·
             intro w'
             go_simp
             with_reducible rfl
            rotate_left
            ·
             simp only [Act.put,List.setIfInBounds_toArray,List.set_cons_zero,List.set_cons_succ,i64_w,i32_w]
             rfl
            refine two_ (i:=8) (j:=12) (Ni:=some 36) (Nj:=some 40) #[true,true,true,true,true,true,true,true,true,false,true,true,false,false,false,false] #[true,true,true,true,true,true,true,true,false,false,true,true,true,false,false,false] rfl rfl rfl rfl (two_of HT_.out (by kernel_rfl)) (by decide) (by decide) (fun K hK => ?_) (fun K hK => ?_)
            ·
             skip
             refine Kd.R_lit_step (Kd.int .i64) _ 2 ?hg (N:=36) ?hd (xs:=([wrap64 ((rd l0 x6_1)+t112)] : List Int)) (inner := [.int .i64 (wrap64 ((rd l0 x6_1)+t112))]) (ok:=fun _=>True) (okp:=fun _=>True) ?hr ?hp (fun _ hk=>hk) trivial (Below.refl _ _) (Nat.le_refl _) (by simp) ?_;(case hd=>rfl);(case hg=>rfl);(case hr=>first|(go_simp;done)|(go_simp;rfl));(case hp=>exact (Reps.one (show Kd.M (Kd.int .i64) _ _ _ (wrap64 ((rd l0 x6_1)+t112)) [.int .i64 (wrap64 ((rd l0 x6_1)+t112))] from rfl) (Reps.none _ _)))
             intro v114 w18 ho19 hb hg_ hnew_
             clear hg_ hnew_
             (first|rw [← Ny113.out] at ho19|(simp only [Int.reduceToNat] at ho19;rw [← Ny113.out] at ho19))
             have n0_:=zm (Kd.R_elder' (by (with_reducible repeat (first|apply zo|apply zp|apply zq));exact HO_4.out) (Kd.R_base ho19) hb)
             have n1_:=zm (Kd.R_elder' (by (with_reducible repeat (first|apply zo|apply zp|apply zq));exact HO_5.out) (Kd.R_base ho19) hb)
             have n2_:=zm (Kd.R_lower (Kd.R_new' (Kd.R_new' ho19 (Kd.R_lt (by (with_reducible repeat (first|apply zo|apply zp|apply zq));exact HO_4.out))) (Kd.R_lt (by (with_reducible repeat (first|apply zo|apply zp|apply zq));exact HO_5.out))) (zE (by repeat (first|(with_reducible first|exact HB.out|apply ze|apply zd|apply zf)|exact HB.out))))
             have n3_:=zm (zJ (by repeat (first|(with_reducible first|exact HB.out|apply ze|apply zd|apply zf)|exact HB.out)) hb)
             clear HO_4;clear HO_5;clear HB;have HO_4:=n0_;have HO_5:=n1_;have HO115:=n2_;have HB:=n3_;clear n0_ n1_ n2_ n3_;clear hb ho19
             obtain ⟨Ao21,co21,eo21⟩:=Kd.R_slice HO115.out
             (first|subst eo21|(injection eo21 with f1_ f2_ f3_;have f4_:=f1_.symm;have f5_:=f3_.symm;clear f1_ f2_ f3_;subst f4_;subst f5_))
             refine hK.out _ _ (((HB.out.cell (zb w _ hw111_0)).trans hw111_0)) (fun hHeld => ?_)
             clear hK K
             refine norm_ (a' := ?_) ?_ ?_
             rotate_left
             ·
              show Act.put _ (some 36) _=_
              simp only [Act.put,List.setIfInBounds_toArray,List.set_cons_zero,List.set_cons_succ,i64_w,i32_w]
              rfl
             refine two_ (i:=9) (j:=12) (Ni:=some 37) (Nj:=some 40) #[true,true,true,true,true,true,true,true,true,true,true,true,false,false,false,false] #[true,true,true,true,true,true,true,true,true,false,true,true,true,false,false,false] rfl rfl rfl rfl (two_of HT_.out (by kernel_rfl)) (by decide) (by decide) (fun K hK => ?_) (fun K hK => ?_)
             ·
              skip
              refine Kd.R_append_rows_step (Kd.int .i64) (w0:=w) w.heap.size (by rfl) (.tmp 28) (.tmp 36) 22 2 (.int .i64 0) 8 rfl Try.underlying22 info2 rfl (by decide) (by omega) (.slice Ao15 x4_1.length co15) x4_1 y113 _ _ _ (fun k_=>some k_≠(.slice Ao16 x5_1.length co16 : Value).ownBlock∧some k_≠(.slice Ao21 y113.length co21 : Value).ownBlock) (fun _=>False) rfl rfl ?aO ?aR (fun _ _ h=>h) (fun _ h=>h.elim) ?aF ?aB ?aS ?aL ?_
              (case aR=>repeat (first|exact (Kd.R_reads' HO115.out).2.2|(with_reducible refine Kd.C_alloc ?_ _)|(with_reducible refine Kd.C_drewN ?_ _)|(with_reducible refine Kd.C_drew ?_)))
              (case aB=>exact (by repeat (first|(with_reducible first|exact HB.out|apply ze|apply zd|apply zf)|exact HB.out)))
              (case aF=>exact (fun k_ hk=>⟨Kd.fresh' (Kd.R_lt (by (with_reducible repeat (first|apply zo|apply zp|apply zq));exact HO_5.out)) k_ hk,Kd.fresh' (Kd.R_lt (by (with_reducible repeat (first|apply zo|apply zp|apply zq));exact HO115.out)) k_ hk⟩))
              (case aO=>exact (by (with_reducible repeat (first|apply zo|apply zp|apply zq));exact HO_4.out))
              (case aS=>exact (zE (by repeat (first|(with_reducible first|exact HB.out|apply ze|apply zd|apply zf)|exact HB.out))))
              (case aL=>have:=LMc12.out;omega)
              intro v117 w20 ho hb hg hat
              rw [← Ny116.out] at ho
              have n0_:=zm (Kd.R_after (ok:=(fun k_=>some k_≠(.slice Ao21 y113.length co21 : Value).ownBlock)) (by (with_reducible repeat (first|apply zo|apply zp|apply zq));exact zG HO_5.out (fun _ hk=>⟨hk.2,hk.1⟩)) hg hat)
              have n1_:=zm (Kd.R_after (ok:=(fun k_=>some k_≠(.slice Ao16 x5_1.length co16 : Value).ownBlock)) (by (with_reducible repeat (first|apply zo|apply zp|apply zq));exact zG HO115.out (fun _ hk=>⟨hk.2,hk.1.2⟩)) hg hat)
              have n2_:=zm (hb);have n3_:=zm (ho);clear HO_5;clear HO115;clear HB;clear HO_4;have HO_5:=n0_;have HO115:=n1_;have HB:=n2_;have HO118:=n3_;clear n0_ n1_ n2_ n3_;clear ho hb hg hat
              refine hK.out _ _ (((HB.out.cell (zb w _ hw111_0)).trans hw111_0)) (fun hHeld => ?_)
              clear hK K
              refine norm_ (a' := ?_) ?_ ?_
              rotate_left
              ·
               show Act.put _ (some 37) _=_
               simp only [Act.put,List.setIfInBounds_toArray,List.set_cons_zero,List.set_cons_succ,i64_w,i32_w]
               rfl
              refine one_ (i:=12) (N:=some 40) #[true,true,true,true,true,true,true,true,true,true,true,true,true,false,false,false] rfl rfl (one_of HT_.out (by kernel_rfl)) (by decide) (fun K hK => ?_)
              refine Kd.R_lit_step (Kd.int .i64) _ 2 ?hg (N:=40) ?hd (xs:=([wrap64 ((rd l0 (ji7)) - (rd l0 x6_1))] : List Int)) (inner := [.int .i64 (wrap64 ((rd l0 (ji7)) - (rd l0 x6_1)))]) (ok:=fun _=>True) (okp:=fun _=>True) ?hr ?hp (fun _ hk=>hk) trivial (Below.refl _ _) (Nat.le_refl _) (by simp) ?_;(case hd=>rfl);(case hg=>rfl);(case hr=>first|(go_simp;done)|(go_simp;rfl));(case hp=>exact (Reps.one (show Kd.M (Kd.int .i64) _ _ _ (wrap64 ((rd l0 (ji7)) - (rd l0 x6_1))) [.int .i64 (wrap64 ((rd l0 (ji7)) - (rd l0 x6_1)))] from rfl) (Reps.none _ _)))
              intro v120 w22 ho23 hb hg_ hnew_
              clear hg_ hnew_
              (first|rw [← Ny119.out] at ho23|(simp only [Int.reduceToNat] at ho23;rw [← Ny119.out] at ho23))
              have n0_:=zm (Kd.R_elder' (by (with_reducible repeat (first|apply zo|apply zp|apply zq));exact HO_5.out) (Kd.R_base ho23) hb)
              have n1_:=zm (Kd.R_elder' (by (with_reducible repeat (first|apply zo|apply zp|apply zq));exact HO115.out) (Kd.R_base ho23) hb)
              have n2_:=zm (Kd.R_elder' (by (with_reducible repeat (first|apply zo|apply zp|apply zq));exact HO118.out) (Kd.R_base ho23) hb)
              have n3_:=zm (Kd.R_lower (Kd.R_new' (Kd.R_new' (Kd.R_new' ho23 (Kd.R_lt (by (with_reducible repeat (first|apply zo|apply zp|apply zq));exact HO_5.out))) (Kd.R_lt (by (with_reducible repeat (first|apply zo|apply zp|apply zq));exact HO115.out))) (Kd.R_lt (by (with_reducible repeat (first|apply zo|apply zp|apply zq));exact HO118.out))) (zE (by repeat (first|(with_reducible first|exact HB.out|apply ze|apply zd|apply zf)|exact HB.out))))
              have n4_:=zm (zJ (by repeat (first|(with_reducible first|exact HB.out|apply ze|apply zd|apply zf)|exact HB.out)) hb)
              clear HO_5;clear HO115;clear HO118;clear HB;have HO_5:=n0_;have HO115:=n1_;have HO118:=n2_;have HO121:=n3_;have HB:=n4_;clear n0_ n1_ n2_ n3_ n4_;clear hb ho23
              refine hK.out _ _ (((HB.out.cell (zb w _ hw111_0)).trans hw111_0)) (fun hHeld => ?_)
              clear hK K
              refine norm_ (a' := ?_) ?_ ?_
              rotate_left
              ·
               show Act.put _ (some 40) _=_
               simp only [Act.put,List.setIfInBounds_toArray,List.set_cons_zero,List.set_cons_succ,i64_w,i32_w]
               rfl
              exact norm_ (by simp only [putAll,Act.put,List.setIfInBounds_toArray,List.set_cons_zero,List.set_cons_succ]) (hCont (.slice Ao21 y113.length co21,v117,v120) _ ⟨hHeld,(by (with_reducible repeat (first|apply zo|apply zp|apply zq));exact zG HO115.out (fun _ hk=>⟨hk.1.2,⟨hk.2,hk.1.1⟩⟩)),(by (with_reducible repeat (first|apply zo|apply zp|apply zq));exact zG HO118.out (fun _ hk=>⟨hk.1.2,⟨hk.2,hk.1.1⟩⟩)),(by (with_reducible repeat (first|apply zo|apply zp|apply zq));exact zG HO121.out (fun _ hk=>⟨hk.1.2,⟨hk.2,hk.1.1.2⟩⟩)),(by (with_reducible repeat (first|apply zo|apply zp|apply zq));exact zG HO_5.out (fun _ hk=>⟨hk.1.1,⟨hk.1.2,hk.2⟩⟩)),(by repeat (first|(with_reducible first|exact HB.out|apply ze|apply zd|apply zf)|exact HB.out))⟩)
             ·
              skip
              refine Kd.R_lit_step (Kd.int .i64) _ 2 ?hg (N:=40) ?hd (xs:=([wrap64 ((rd l0 (ji7)) - (rd l0 x6_1))] : List Int)) (inner := [.int .i64 (wrap64 ((rd l0 (ji7)) - (rd l0 x6_1)))]) (ok:=fun _=>True) (okp:=fun _=>True) ?hr ?hp (fun _ hk=>hk) trivial (Below.refl _ _) (Nat.le_refl _) (by simp) ?_;(case hd=>rfl);(case hg=>rfl);(case hr=>first|(go_simp;done)|(go_simp;rfl));(case hp=>exact (Reps.one (show Kd.M (Kd.int .i64) _ _ _ (wrap64 ((rd l0 (ji7)) - (rd l0 x6_1))) [.int .i64 (wrap64 ((rd l0 (ji7)) - (rd l0 x6_1)))] from rfl) (Reps.none _ _)))
              intro v120 w20 ho21 hb hg_ hnew_
              clear hg_ hnew_
              (first|rw [← Ny119.out] at ho21|(simp only [Int.reduceToNat] at ho21;rw [← Ny119.out] at ho21))
              have n0_:=zm (Kd.R_elder' (by (with_reducible repeat (first|apply zo|apply zp|apply zq));exact HO_4.out) (Kd.R_base ho21) hb)
              have n1_:=zm (Kd.R_elder' (by (with_reducible repeat (first|apply zo|apply zp|apply zq));exact HO_5.out) (Kd.R_base ho21) hb)
              have n2_:=zm (Kd.R_elder' (by (with_reducible repeat (first|apply zo|apply zp|apply zq));exact HO115.out) (Kd.R_base ho21) hb)
              have n3_:=zm (Kd.R_lower (Kd.R_new' (Kd.R_new' (Kd.R_new' ho21 (Kd.R_lt (by (with_reducible repeat (first|apply zo|apply zp|apply zq));exact HO_4.out))) (Kd.R_lt (by (with_reducible repeat (first|apply zo|apply zp|apply zq));exact HO_5.out))) (Kd.R_lt (by (with_reducible repeat (first|apply zo|apply zp|apply zq));exact HO115.out))) (zE (by repeat (first|(with_reducible first|exact HB.out|apply ze|apply zd|apply zf)|exact HB.out))))
              have n4_:=zm (zJ (by repeat (first|(with_reducible first|exact HB.out|apply ze|apply zd|apply zf)|exact HB.out)) hb)
              clear HO_4;clear HO_5;clear HO115;clear HB;have HO_4:=n0_;have HO_5:=n1_;have HO115:=n2_;have HO121:=n3_;have HB:=n4_;clear n0_ n1_ n2_ n3_ n4_;clear hb ho21
              obtain ⟨Ao23,co23,eo23⟩:=Kd.R_slice HO115.out
              (first|subst eo23|(injection eo23 with f1_ f2_ f3_;have f4_:=f1_.symm;have f5_:=f3_.symm;clear f1_ f2_ f3_;subst f4_;subst f5_))
              refine hK.out _ _ (((HB.out.cell (zb w _ hw111_0)).trans hw111_0)) (fun hHeld => ?_)
              clear hK K
              refine norm_ (a' := ?_) ?_ ?_
              rotate_left
              ·
               show Act.put _ (some 40) _=_
               simp only [Act.put,List.setIfInBounds_toArray,List.set_cons_zero,List.set_cons_succ,i64_w,i32_w]
               rfl
              refine one_ (i:=9) (N:=some 37) #[true,true,true,true,true,true,true,true,true,true,true,true,true,false,false,false] rfl rfl (one_of HT_.out (by kernel_rfl)) (by decide) (fun K hK => ?_)
              refine Kd.R_append_rows_step (Kd.int .i64) (w0:=w) w.heap.size (by rfl) (.tmp 28) (.tmp 36) 22 2 (.int .i64 0) 8 rfl Try.underlying22 info2 rfl (by decide) (by omega) (.slice Ao15 x4_1.length co15) x4_1 y113 _ _ _ (fun k_=>some k_≠(.slice Ao16 x5_1.length co16 : Value).ownBlock∧some k_≠(.slice Ao23 y113.length co23 : Value).ownBlock∧some k_≠(v120 : Value).ownBlock) (fun _=>False) rfl rfl ?aO ?aR (fun _ _ h=>h) (fun _ h=>h.elim) ?aF ?aB ?aS ?aL ?_
              (case aR=>repeat (first|exact (Kd.R_reads' HO115.out).2.2|(with_reducible refine Kd.C_alloc ?_ _)|(with_reducible refine Kd.C_drewN ?_ _)|(with_reducible refine Kd.C_drew ?_)))
              (case aB=>exact (by repeat (first|(with_reducible first|exact HB.out|apply ze|apply zd|apply zf)|exact HB.out)))
              (case aF=>exact (fun k_ hk=>⟨Kd.fresh' (Kd.R_lt (by (with_reducible repeat (first|apply zo|apply zp|apply zq));exact HO_5.out)) k_ hk,Kd.fresh' (Kd.R_lt (by (with_reducible repeat (first|apply zo|apply zp|apply zq));exact HO115.out)) k_ hk,Kd.fresh' (Kd.R_lt (by (with_reducible repeat (first|apply zo|apply zp|apply zq));exact HO121.out)) k_ hk⟩))
              (case aO=>exact (by (with_reducible repeat (first|apply zo|apply zp|apply zq));exact zG HO_4.out (fun _ hk=>⟨hk.1.1,⟨hk.1.2,hk.2⟩⟩)))
              (case aS=>exact (zE (by repeat (first|(with_reducible first|exact HB.out|apply ze|apply zd|apply zf)|exact HB.out))))
              (case aL=>have:=LMc12.out;omega)
              intro v117 w22 ho hb hg hat
              rw [← Ny116.out] at ho
              have n0_:=zm (Kd.R_after (ok:=(fun k_=>some k_≠(.slice Ao23 y113.length co23 : Value).ownBlock∧some k_≠(v120 : Value).ownBlock)) (by (with_reducible repeat (first|apply zo|apply zp|apply zq));exact zG HO_5.out (fun _ hk=>⟨⟨hk.1.2,hk.2⟩,hk.1.1⟩)) hg hat)
              have n1_:=zm (Kd.R_after (ok:=(fun k_=>some k_≠(.slice Ao16 x5_1.length co16 : Value).ownBlock∧some k_≠(v120 : Value).ownBlock)) (by (with_reducible repeat (first|apply zo|apply zp|apply zq));exact zG HO115.out (fun _ hk=>⟨⟨hk.1.2,hk.2⟩,hk.1.1.2⟩)) hg hat)
              have n2_:=zm (Kd.R_after (ok:=(fun k_=>some k_≠(.slice Ao16 x5_1.length co16 : Value).ownBlock∧some k_≠(.slice Ao23 y113.length co23 : Value).ownBlock)) (by (with_reducible repeat (first|apply zo|apply zp|apply zq));exact zG HO121.out (fun _ hk=>⟨⟨hk.1.2,hk.2⟩,hk.1.1.2⟩)) hg hat)
              have n3_:=zm (hb);have n4_:=zm (ho);clear HO_5;clear HO115;clear HO121;clear HB;clear HO_4;have HO_5:=n0_;have HO115:=n1_;have HO121:=n2_;have HB:=n3_;have HO118:=n4_;clear n0_ n1_ n2_ n3_ n4_;clear ho hb hg hat
              refine hK.out _ _ (((HB.out.cell (zb w _ hw111_0)).trans hw111_0)) (fun hHeld => ?_)
              clear hK K
              refine norm_ (a' := ?_) ?_ ?_
              rotate_left
              ·
               show Act.put _ (some 37) _=_
               simp only [Act.put,List.setIfInBounds_toArray,List.set_cons_zero,List.set_cons_succ,i64_w,i32_w]
               rfl
              exact norm_ (by simp only [putAll,Act.put,List.setIfInBounds_toArray,List.set_cons_zero,List.set_cons_succ]) (hCont (.slice Ao23 y113.length co23,v117,v120) _ ⟨hHeld,(by (with_reducible repeat (first|apply zo|apply zp|apply zq));exact zG HO115.out (fun _ hk=>⟨hk.2,⟨hk.1.2,hk.1.1⟩⟩)),(by (with_reducible repeat (first|apply zo|apply zp|apply zq));exact zG HO118.out (fun _ hk=>⟨hk.2.1,⟨hk.2.2,hk.1⟩⟩)),(by (with_reducible repeat (first|apply zo|apply zp|apply zq));exact zG HO121.out (fun _ hk=>⟨hk.1.2,⟨hk.2,hk.1.1⟩⟩)),(by (with_reducible repeat (first|apply zo|apply zp|apply zq));exact zG HO_5.out (fun _ hk=>⟨hk.1.1,⟨hk.2,hk.1.2⟩⟩)),(by repeat (first|(with_reducible first|exact HB.out|apply ze|apply zd|apply zf)|exact HB.out))⟩)
            ·
             skip
             refine Kd.R_lit_step (Kd.int .i64) _ 2 ?hg (N:=40) ?hd (xs:=([wrap64 ((rd l0 (ji7)) - (rd l0 x6_1))] : List Int)) (inner := [.int .i64 (wrap64 ((rd l0 (ji7)) - (rd l0 x6_1)))]) (ok:=fun _=>True) (okp:=fun _=>True) ?hr ?hp (fun _ hk=>hk) trivial (Below.refl _ _) (Nat.le_refl _) (by simp) ?_;(case hd=>rfl);(case hg=>rfl);(case hr=>first|(go_simp;done)|(go_simp;rfl));(case hp=>exact (Reps.one (show Kd.M (Kd.int .i64) _ _ _ (wrap64 ((rd l0 (ji7)) - (rd l0 x6_1))) [.int .i64 (wrap64 ((rd l0 (ji7)) - (rd l0 x6_1)))] from rfl) (Reps.none _ _)))
             intro v120 w18 ho19 hb hg_ hnew_
             clear hg_ hnew_
             (first|rw [← Ny119.out] at ho19|(simp only [Int.reduceToNat] at ho19;rw [← Ny119.out] at ho19))
             have n0_:=zm (Kd.R_elder' (by (with_reducible repeat (first|apply zo|apply zp|apply zq));exact HO_4.out) (Kd.R_base ho19) hb)
             have n1_:=zm (Kd.R_elder' (by (with_reducible repeat (first|apply zo|apply zp|apply zq));exact HO_5.out) (Kd.R_base ho19) hb)
             have n2_:=zm (Kd.R_lower (Kd.R_new' (Kd.R_new' ho19 (Kd.R_lt (by (with_reducible repeat (first|apply zo|apply zp|apply zq));exact HO_4.out))) (Kd.R_lt (by (with_reducible repeat (first|apply zo|apply zp|apply zq));exact HO_5.out))) (zE (by repeat (first|(with_reducible first|exact HB.out|apply ze|apply zd|apply zf)|exact HB.out))))
             have n3_:=zm (zJ (by repeat (first|(with_reducible first|exact HB.out|apply ze|apply zd|apply zf)|exact HB.out)) hb)
             clear HO_4;clear HO_5;clear HB;have HO_4:=n0_;have HO_5:=n1_;have HO121:=n2_;have HB:=n3_;clear n0_ n1_ n2_ n3_;clear hb ho19
             refine hK.out _ _ (((HB.out.cell (zb w _ hw111_0)).trans hw111_0)) (fun hHeld => ?_)
             clear hK K
             refine norm_ (a' := ?_) ?_ ?_
             rotate_left
             ·
              show Act.put _ (some 40) _=_
              simp only [Act.put,List.setIfInBounds_toArray,List.set_cons_zero,List.set_cons_succ,i64_w,i32_w]
              rfl
             refine one_ (i:=8) (N:=some 36) #[true,true,true,true,true,true,true,true,true,false,true,true,true,false,false,false] rfl rfl (one_of HT_.out (by kernel_rfl)) (by decide) (fun K hK => ?_)
             refine Kd.R_lit_step (Kd.int .i64) _ 2 ?hg (N:=36) ?hd (xs:=([wrap64 ((rd l0 x6_1)+t112)] : List Int)) (inner := [.int .i64 (wrap64 ((rd l0 x6_1)+t112))]) (ok:=fun _=>True) (okp:=fun _=>True) ?hr ?hp (fun _ hk=>hk) trivial (Below.refl _ _) (Nat.le_refl _) (by simp) ?_;(case hd=>rfl);(case hg=>rfl);(case hr=>first|(go_simp;done)|(go_simp;rfl));(case hp=>exact (Reps.one (show Kd.M (Kd.int .i64) _ _ _ (wrap64 ((rd l0 x6_1)+t112)) [.int .i64 (wrap64 ((rd l0 x6_1)+t112))] from rfl) (Reps.none _ _)))
             intro v114 w20 ho21 hb hg_ hnew_
             clear hg_ hnew_
             (first|rw [← Ny113.out] at ho21|(simp only [Int.reduceToNat] at ho21;rw [← Ny113.out] at ho21))
             have n0_:=zm (Kd.R_elder' (by (with_reducible repeat (first|apply zo|apply zp|apply zq));exact HO_4.out) (Kd.R_base ho21) hb)
             have n1_:=zm (Kd.R_elder' (by (with_reducible repeat (first|apply zo|apply zp|apply zq));exact HO_5.out) (Kd.R_base ho21) hb)
             have n2_:=zm (Kd.R_elder' (by (with_reducible repeat (first|apply zo|apply zp|apply zq));exact HO121.out) (Kd.R_base ho21) hb)
             have n3_:=zm (Kd.R_lower (Kd.R_new' (Kd.R_new' (Kd.R_new' ho21 (Kd.R_lt (by (with_reducible repeat (first|apply zo|apply zp|apply zq));exact HO_4.out))) (Kd.R_lt (by (with_reducible repeat (first|apply zo|apply zp|apply zq));exact HO_5.out))) (Kd.R_lt (by (with_reducible repeat (first|apply zo|apply zp|apply zq));exact HO121.out))) (zE (by repeat (first|(with_reducible first|exact HB.out|apply ze|apply zd|apply zf)|exact HB.out))))
             have n4_:=zm (zJ (by repeat (first|(with_reducible first|exact HB.out|apply ze|apply zd|apply zf)|exact HB.out)) hb)
             clear HO_4;clear HO_5;clear HO121;clear HB;have HO_4:=n0_;have HO_5:=n1_;have HO121:=n2_;have HO115:=n3_;have HB:=n4_;clear n0_ n1_ n2_ n3_ n4_;clear hb ho21
             obtain ⟨Ao23,co23,eo23⟩:=Kd.R_slice HO115.out
             (first|subst eo23|(injection eo23 with f1_ f2_ f3_;have f4_:=f1_.symm;have f5_:=f3_.symm;clear f1_ f2_ f3_;subst f4_;subst f5_))
             refine hK.out _ _ (((HB.out.cell (zb w _ hw111_0)).trans hw111_0)) (fun hHeld => ?_)
             clear hK K
             refine norm_ (a' := ?_) ?_ ?_
             rotate_left
             ·
              show Act.put _ (some 36) _=_
              simp only [Act.put,List.setIfInBounds_toArray,List.set_cons_zero,List.set_cons_succ,i64_w,i32_w]
              rfl
             refine one_ (i:=9) (N:=some 37) #[true,true,true,true,true,true,true,true,true,true,true,true,true,false,false,false] rfl rfl (one_of HT_.out (by kernel_rfl)) (by decide) (fun K hK => ?_)
             refine Kd.R_append_rows_step (Kd.int .i64) (w0:=w) w.heap.size (by rfl) (.tmp 28) (.tmp 36) 22 2 (.int .i64 0) 8 rfl Try.underlying22 info2 rfl (by decide) (by omega) (.slice Ao15 x4_1.length co15) x4_1 y113 _ _ _ (fun k_=>some k_≠(.slice Ao16 x5_1.length co16 : Value).ownBlock∧some k_≠(v120 : Value).ownBlock∧some k_≠(.slice Ao23 y113.length co23 : Value).ownBlock) (fun _=>False) rfl rfl ?aO ?aR (fun _ _ h=>h) (fun _ h=>h.elim) ?aF ?aB ?aS ?aL ?_
             (case aR=>repeat (first|exact (Kd.R_reads' HO115.out).2.2|(with_reducible refine Kd.C_alloc ?_ _)|(with_reducible refine Kd.C_drewN ?_ _)|(with_reducible refine Kd.C_drew ?_)))
             (case aB=>exact (by repeat (first|(with_reducible first|exact HB.out|apply ze|apply zd|apply zf)|exact HB.out)))
             (case aF=>exact (fun k_ hk=>⟨Kd.fresh' (Kd.R_lt (by (with_reducible repeat (first|apply zo|apply zp|apply zq));exact HO_5.out)) k_ hk,Kd.fresh' (Kd.R_lt (by (with_reducible repeat (first|apply zo|apply zp|apply zq));exact HO121.out)) k_ hk,Kd.fresh' (Kd.R_lt (by (with_reducible repeat (first|apply zo|apply zp|apply zq));exact HO115.out)) k_ hk⟩))
             (case aO=>exact (by (with_reducible repeat (first|apply zo|apply zp|apply zq));exact zG HO_4.out (fun _ hk=>⟨hk.1.1,⟨hk.1.2,hk.2⟩⟩)))
             (case aS=>exact (zE (by repeat (first|(with_reducible first|exact HB.out|apply ze|apply zd|apply zf)|exact HB.out))))
             (case aL=>have:=LMc12.out;omega)
             intro v117 w22 ho hb hg hat
             rw [← Ny116.out] at ho
             have n0_:=zm (Kd.R_after (ok:=(fun k_=>some k_≠(v120 : Value).ownBlock∧some k_≠(.slice Ao23 y113.length co23 : Value).ownBlock)) (by (with_reducible repeat (first|apply zo|apply zp|apply zq));exact zG HO_5.out (fun _ hk=>⟨⟨hk.1.2,hk.2⟩,hk.1.1⟩)) hg hat)
             have n1_:=zm (Kd.R_after (ok:=(fun k_=>some k_≠(.slice Ao16 x5_1.length co16 : Value).ownBlock∧some k_≠(.slice Ao23 y113.length co23 : Value).ownBlock)) (by (with_reducible repeat (first|apply zo|apply zp|apply zq));exact zG HO121.out (fun _ hk=>⟨⟨hk.1.2,hk.2⟩,hk.1.1.2⟩)) hg hat)
             have n2_:=zm (Kd.R_after (ok:=(fun k_=>some k_≠(.slice Ao16 x5_1.length co16 : Value).ownBlock∧some k_≠(v120 : Value).ownBlock)) (by (with_reducible repeat (first|apply zo|apply zp|apply zq));exact zG HO115.out (fun _ hk=>⟨⟨hk.1.2,hk.2⟩,hk.1.1.2⟩)) hg hat)
             have n3_:=zm (hb);have n4_:=zm (ho);clear HO_5;clear HO121;clear HO115;clear HB;clear HO_4;have HO_5:=n0_;have HO121:=n1_;have HO115:=n2_;have HB:=n3_;have HO118:=n4_;clear n0_ n1_ n2_ n3_ n4_;clear ho hb hg hat
             refine hK.out _ _ (((HB.out.cell (zb w _ hw111_0)).trans hw111_0)) (fun hHeld => ?_)
             clear hK K
             refine norm_ (a' := ?_) ?_ ?_
             rotate_left
             ·
              show Act.put _ (some 37) _=_
              simp only [Act.put,List.setIfInBounds_toArray,List.set_cons_zero,List.set_cons_succ,i64_w,i32_w]
              rfl
             exact norm_ (by simp only [putAll,Act.put,List.setIfInBounds_toArray,List.set_cons_zero,List.set_cons_succ]) (hCont (.slice Ao23 y113.length co23,v117,v120) _ ⟨hHeld,(by (with_reducible repeat (first|apply zo|apply zp|apply zq));exact zG HO115.out (fun _ hk=>⟨hk.2,⟨hk.1.2,hk.1.1⟩⟩)),(by (with_reducible repeat (first|apply zo|apply zp|apply zq));exact zG HO118.out (fun _ hk=>⟨hk.2.2,⟨hk.2.1,hk.1⟩⟩)),(by (with_reducible repeat (first|apply zo|apply zp|apply zq));exact zG HO121.out (fun _ hk=>⟨hk.1.2,⟨hk.2,hk.1.1⟩⟩)),(by (with_reducible repeat (first|apply zo|apply zp|apply zq));exact zG HO_5.out (fun _ hk=>⟨hk.1.2,⟨hk.2,hk.1.1⟩⟩)),(by repeat (first|(with_reducible first|exact HB.out|apply ze|apply zd|apply zf)|exact HB.out))⟩)
           ·
            skip
            refine Kd.R_lit_step (Kd.int .i64) _ 2 ?hg (N:=40) ?hd (xs:=([wrap64 ((rd l0 (ji7)) - (rd l0 x6_1))] : List Int)) (inner := [.int .i64 (wrap64 ((rd l0 (ji7)) - (rd l0 x6_1)))]) (ok:=fun _=>True) (okp:=fun _=>True) ?hr ?hp (fun _ hk=>hk) trivial (Below.refl _ _) (Nat.le_refl _) (by simp) ?_;(case hd=>rfl);(case hg=>rfl);(case hr=>first|(go_simp;done)|(go_simp;rfl));(case hp=>exact (Reps.one (show Kd.M (Kd.int .i64) _ _ _ (wrap64 ((rd l0 (ji7)) - (rd l0 x6_1))) [.int .i64 (wrap64 ((rd l0 (ji7)) - (rd l0 x6_1)))] from rfl) (Reps.none _ _)))
            intro v120 w18 ho19 hb hg_ hnew_
            clear hg_ hnew_
            (first|rw [← Ny119.out] at ho19|(simp only [Int.reduceToNat] at ho19;rw [← Ny119.out] at ho19))
            have n0_:=zm (Kd.R_elder' (by (with_reducible repeat (first|apply zo|apply zp|apply zq));exact HO_4.out) (Kd.R_base ho19) hb)
            have n1_:=zm (Kd.R_elder' (by (with_reducible repeat (first|apply zo|apply zp|apply zq));exact HO_5.out) (Kd.R_base ho19) hb)
            have n2_:=zm (Kd.R_lower (Kd.R_new' (Kd.R_new' ho19 (Kd.R_lt (by (with_reducible repeat (first|apply zo|apply zp|apply zq));exact HO_4.out))) (Kd.R_lt (by (with_reducible repeat (first|apply zo|apply zp|apply zq));exact HO_5.out))) (zE (by repeat (first|(with_reducible first|exact HB.out|apply ze|apply zd|apply zf)|exact HB.out))))
            have n3_:=zm (zJ (by repeat (first|(with_reducible first|exact HB.out|apply ze|apply zd|apply zf)|exact HB.out)) hb)
            clear HO_4;clear HO_5;clear HB;have HO_4:=n0_;have HO_5:=n1_;have HO121:=n2_;have HB:=n3_;clear n0_ n1_ n2_ n3_;clear hb ho19
            refine hK.out _ _ (((HB.out.cell (zb w _ hw111_0)).trans hw111_0)) (fun hHeld => ?_)
            clear hK K
            refine norm_ (a' := ?_) ?_ ?_
            rotate_left
            ·
             show Act.put _ (some 40) _=_
             simp only [Act.put,List.setIfInBounds_toArray,List.set_cons_zero,List.set_cons_succ,i64_w,i32_w]
             rfl
            refine one_ (i:=6) (N:=some 34) #[true,true,true,true,true,true,true,false,false,false,true,true,true,false,false,false] rfl rfl (one_of HT_.out (by kernel_rfl)) (by decide) (fun K hK => ?_)
            refine goes_ Try.func19 (by kernel_rfl) rfl #[.int .i64 (wrap64 ((rd l0 (ji7)) - (rd l0 x6_1)))] (by rfl) rfl rfl (by (try simp only [List.map_toArray,List.map_cons,List.map_nil]);first|done|(simp only [hji7];rfl)|rfl|(simp only [List.length_drop,List.length_take];rfl)) ?_
            with_reducible refine (wave_half.calls (wrap64 ((rd l0 (ji7)) - (rd l0 x6_1))) t112 _ A11.out).mono ?_
            rintro e w' ⟨rfl,⟨nd,rfl⟩⟩
            refine ⟨_,rfl, ?_⟩
            refine hK.out _ _ (((HB.out.cell (zb w _ hw111_0)).trans hw111_0)) (fun hHeld => ?_)
            clear hK K
            refine norm_ (a' := ?_) ?_ ?_
            rotate_left
            ·
             show Act.put _ (some 34) _=_
             simp only [Act.put,List.setIfInBounds_toArray,List.set_cons_zero,List.set_cons_succ,i64_w,i32_w]
             rfl
            refine pure_ (i:=7) (N:=some 35) (v := ?_) (a' := ?_) #[true,true,true,true,true,true,true,true,false,false,true,true,true,false,false,false] rfl rfl (any_of HT_.out (by kernel_rfl)) (fun _ _ _ h=>h) (Or.inl ⟨by rfl, ?_⟩) ?_ ?_
            rotate_left
            ·
             intro w'
             go_simp
             with_reducible rfl
            rotate_left
            ·
             simp only [Act.put,List.setIfInBounds_toArray,List.set_cons_zero,List.set_cons_succ,i64_w,i32_w]
             rfl
            refine one_ (i:=8) (N:=some 36) #[true,true,true,true,true,true,true,true,true,false,true,true,true,false,false,false] rfl rfl (one_of HT_.out (by kernel_rfl)) (by decide) (fun K hK => ?_)
            refine Kd.R_lit_step (Kd.int .i64) _ 2 ?hg (N:=36) ?hd (xs:=([wrap64 ((rd l0 x6_1)+t112)] : List Int)) (inner := [.int .i64 (wrap64 ((rd l0 x6_1)+t112))]) (ok:=fun _=>True) (okp:=fun _=>True) ?hr ?hp (fun _ hk=>hk) trivial (Below.refl _ _) (Nat.le_refl _) (by simp) ?_;(case hd=>rfl);(case hg=>rfl);(case hr=>first|(go_simp;done)|(go_simp;rfl));(case hp=>exact (Reps.one (show Kd.M (Kd.int .i64) _ _ _ (wrap64 ((rd l0 x6_1)+t112)) [.int .i64 (wrap64 ((rd l0 x6_1)+t112))] from rfl) (Reps.none _ _)))
            intro v114 w20 ho21 hb hg_ hnew_
            clear hg_ hnew_
            (first|rw [← Ny113.out] at ho21|(simp only [Int.reduceToNat] at ho21;rw [← Ny113.out] at ho21))
            have n0_:=zm (Kd.R_elder' (by (with_reducible repeat (first|apply zo|apply zp|apply zq));exact HO_4.out) (Kd.R_base ho21) hb)
            have n1_:=zm (Kd.R_elder' (by (with_reducible repeat (first|apply zo|apply zp|apply zq));exact HO_5.out) (Kd.R_base ho21) hb)
            have n2_:=zm (Kd.R_elder' (by (with_reducible repeat (first|apply zo|apply zp|apply zq));exact HO121.out) (Kd.R_base ho21) hb)
            have n3_:=zm (Kd.R_lower (Kd.R_new' (Kd.R_new' (Kd.R_new' ho21 (Kd.R_lt (by (with_reducible repeat (first|apply zo|apply zp|apply zq));exact HO_4.out))) (Kd.R_lt (by (with_reducible repeat (first|apply zo|apply zp|apply zq));exact HO_5.out))) (Kd.R_lt (by (with_reducible repeat (first|apply zo|apply zp|apply zq));exact HO121.out))) (zE (by repeat (first|(with_reducible first|exact HB.out|apply ze|apply zd|apply zf)|exact HB.out))))
            have n4_:=zm (zJ (by repeat (first|(with_reducible first|exact HB.out|apply ze|apply zd|apply zf)|exact HB.out)) hb)
            clear HO_4;clear HO_5;clear HO121;clear HB;have HO_4:=n0_;have HO_5:=n1_;have HO121:=n2_;have HO115:=n3_;have HB:=n4_;clear n0_ n1_ n2_ n3_ n4_;clear hb ho21
            obtain ⟨Ao23,co23,eo23⟩:=Kd.R_slice HO115.out
            (first|subst eo23|(injection eo23 with f1_ f2_ f3_;have f4_:=f1_.symm;have f5_:=f3_.symm;clear f1_ f2_ f3_;subst f4_;subst f5_))
            refine hK.out _ _ (((HB.out.cell (zb w _ hw111_0)).trans hw111_0)) (fun hHeld => ?_)
            clear hK K
            refine norm_ (a' := ?_) ?_ ?_
            rotate_left
            ·
             show Act.put _ (some 36) _=_
             simp only [Act.put,List.setIfInBounds_toArray,List.set_cons_zero,List.set_cons_succ,i64_w,i32_w]
             rfl
            refine one_ (i:=9) (N:=some 37) #[true,true,true,true,true,true,true,true,true,true,true,true,true,false,false,false] rfl rfl (one_of HT_.out (by kernel_rfl)) (by decide) (fun K hK => ?_)
            refine Kd.R_append_rows_step (Kd.int .i64) (w0:=w) w.heap.size (by rfl) (.tmp 28) (.tmp 36) 22 2 (.int .i64 0) 8 rfl Try.underlying22 info2 rfl (by decide) (by omega) (.slice Ao15 x4_1.length co15) x4_1 y113 _ _ _ (fun k_=>some k_≠(.slice Ao16 x5_1.length co16 : Value).ownBlock∧some k_≠(v120 : Value).ownBlock∧some k_≠(.slice Ao23 y113.length co23 : Value).ownBlock) (fun _=>False) rfl rfl ?aO ?aR (fun _ _ h=>h) (fun _ h=>h.elim) ?aF ?aB ?aS ?aL ?_
            (case aR=>repeat (first|exact (Kd.R_reads' HO115.out).2.2|(with_reducible refine Kd.C_alloc ?_ _)|(with_reducible refine Kd.C_drewN ?_ _)|(with_reducible refine Kd.C_drew ?_)))
            (case aB=>exact (by repeat (first|(with_reducible first|exact HB.out|apply ze|apply zd|apply zf)|exact HB.out)))
            (case aF=>exact (fun k_ hk=>⟨Kd.fresh' (Kd.R_lt (by (with_reducible repeat (first|apply zo|apply zp|apply zq));exact HO_5.out)) k_ hk,Kd.fresh' (Kd.R_lt (by (with_reducible repeat (first|apply zo|apply zp|apply zq));exact HO121.out)) k_ hk,Kd.fresh' (Kd.R_lt (by (with_reducible repeat (first|apply zo|apply zp|apply zq));exact HO115.out)) k_ hk⟩))
            (case aO=>exact (by (with_reducible repeat (first|apply zo|apply zp|apply zq));exact zG HO_4.out (fun _ hk=>⟨hk.1.1,⟨hk.1.2,hk.2⟩⟩)))
            (case aS=>exact (zE (by repeat (first|(with_reducible first|exact HB.out|apply ze|apply zd|apply zf)|exact HB.out))))
            (case aL=>have:=LMc12.out;omega)
            intro v117 w22 ho hb hg hat
            rw [← Ny116.out] at ho
            have n0_:=zm (Kd.R_after (ok:=(fun k_=>some k_≠(v120 : Value).ownBlock∧some k_≠(.slice Ao23 y113.length co23 : Value).ownBlock)) (by (with_reducible repeat (first|apply zo|apply zp|apply zq));exact zG HO_5.out (fun _ hk=>⟨⟨hk.1.2,hk.2⟩,hk.1.1⟩)) hg hat)
            have n1_:=zm (Kd.R_after (ok:=(fun k_=>some k_≠(.slice Ao16 x5_1.length co16 : Value).ownBlock∧some k_≠(.slice Ao23 y113.length co23 : Value).ownBlock)) (by (with_reducible repeat (first|apply zo|apply zp|apply zq));exact zG HO121.out (fun _ hk=>⟨⟨hk.1.2,hk.2⟩,hk.1.1.2⟩)) hg hat)
            have n2_:=zm (Kd.R_after (ok:=(fun k_=>some k_≠(.slice Ao16 x5_1.length co16 : Value).ownBlock∧some k_≠(v120 : Value).ownBlock)) (by (with_reducible repeat (first|apply zo|apply zp|apply zq));exact zG HO115.out (fun _ hk=>⟨⟨hk.1.2,hk.2⟩,hk.1.1.2⟩)) hg hat)
            have n3_:=zm (hb);have n4_:=zm (ho);clear HO_5;clear HO121;clear HO115;clear HB;clear HO_4;have HO_5:=n0_;have HO121:=n1_;have HO115:=n2_;have HB:=n3_;have HO118:=n4_;clear n0_ n1_ n2_ n3_ n4_;clear ho hb hg hat
            refine hK.out _ _ (((HB.out.cell (zb w _ hw111_0)).trans hw111_0)) (fun hHeld => ?_)
            clear hK K
            refine norm_ (a' := ?_) ?_ ?_
            rotate_left
            ·
             show Act.put _ (some 37) _=_
             simp only [Act.put,List.setIfInBounds_toArray,List.set_cons_zero,List.set_cons_succ,i64_w,i32_w]
             rfl
            exact norm_ (by simp only [putAll,Act.put,List.setIfInBounds_toArray,List.set_cons_zero,List.set_cons_succ]) (hCont (.slice Ao23 y113.length co23,v117,v120) _ ⟨hHeld,(by (with_reducible repeat (first|apply zo|apply zp|apply zq));exact zG HO115.out (fun _ hk=>⟨hk.2,⟨hk.1.2,hk.1.1⟩⟩)),(by (with_reducible repeat (first|apply zo|apply zp|apply zq));exact zG HO118.out (fun _ hk=>⟨hk.2.2,⟨hk.2.1,hk.1⟩⟩)),(by (with_reducible repeat (first|apply zo|apply zp|apply zq));exact zG HO121.out (fun _ hk=>⟨hk.1.2,⟨hk.2,hk.1.1⟩⟩)),(by (with_reducible repeat (first|apply zo|apply zp|apply zq));exact zG HO_5.out (fun _ hk=>⟨hk.1.2,⟨hk.2,hk.1.1⟩⟩)),(by repeat (first|(with_reducible first|exact HB.out|apply ze|apply zd|apply zf)|exact HB.out))⟩)
          rintro ⟨v114,v117,v120⟩ w24 ⟨hS_,h0_,h1_,h2_,h3_,h4_⟩
          have n0_ : Aside0 (Kd.R (Kd.int .i64) 2 w24 w.heap.size (fun k_=>some k_≠(v117 : Value).ownBlock∧some k_≠(v120 : Value).ownBlock∧some k_≠(.slice Ao16 x5_1.length co16 : Value).ownBlock) v114 y113):=⟨h0_⟩
          have n1_ : Aside0 (Kd.R (Kd.int .i64) 2 w24 w.heap.size (fun k_=>some k_≠(v114 : Value).ownBlock∧some k_≠(v120 : Value).ownBlock∧some k_≠(.slice Ao16 x5_1.length co16 : Value).ownBlock) v117 y116):=⟨h1_⟩
          have n2_ : Aside0 (Kd.R (Kd.int .i64) 2 w24 w.heap.size (fun k_=>some k_≠(v114 : Value).ownBlock∧some k_≠(v117 : Value).ownBlock∧some k_≠(.slice Ao16 x5_1.length co16 : Value).ownBlock) v120 y119):=⟨h2_⟩
          have n3_ : Aside0 (Kd.R (Kd.int .i64) 2 w24 w.heap.size (fun k_=>some k_≠(v114 : Value).ownBlock∧some k_≠(v117 : Value).ownBlock∧some k_≠(v120 : Value).ownBlock) (.slice Ao16 x5_1.length co16) x5_1):=⟨h3_⟩
          have n4_ : Aside0 (Below w.heap.size w w24):=⟨h4_⟩
          clear HO_4;clear HO_5;clear HB;clear h0_ h1_ h2_ h3_ h4_;have HO115:=n0_;have HO118:=n1_;have HO121:=n2_;have HO_5:=n3_;have HB:=n4_;clear n0_ n1_ n2_ n3_ n4_
          have hHeld : w24.cell? (ad109.add (x6_1).toNat)=some (.int .i64 (rd l0 x6_1)):=hS_
          obtain ⟨Ao26,co26,eo26⟩:=Kd.R_slice HO121.out
          (first|subst eo26|(injection eo26 with f1_ f2_ f3_;have f4_:=f1_.symm;have f5_:=f3_.symm;clear f1_ f2_ f3_;subst f4_;subst f5_))
          refine norm_ (a' := ?_) ?_ ?_
          rotate_left
          ·
           simp only [putAll,Act.put,List.setIfInBounds_toArray,List.set_cons_zero,List.set_cons_succ]
           rfl
          refine one_ (i:=13) (N:=some 41) #[true,true,true,true,true,true,true,true,true,true,true,true,true,true,false,false] rfl rfl (one_of HT_.out (by kernel_rfl)) (by decide) (fun K hK => ?_)
          refine Kd.R_append_rows_step (Kd.int .i64) (w0:=w) w.heap.size (by rfl) (.tmp 38) (.tmp 40) 22 2 (.int .i64 0) 8 rfl Try.underlying22 info2 rfl (by decide) (by omega) (.slice Ao16 x5_1.length co16) x5_1 y119 _ _ _ (fun k_=>some k_≠(v114 : Value).ownBlock∧some k_≠(v117 : Value).ownBlock∧some k_≠(.slice Ao26 y119.length co26 : Value).ownBlock) (fun _=>False) rfl rfl ?aO ?aR (fun _ _ h=>h) (fun _ h=>h.elim) ?aF ?aB ?aS ?aL ?_
          (case aR=>repeat (first|exact (Kd.R_reads' HO121.out).2.2|(with_reducible refine Kd.C_alloc ?_ _)|(with_reducible refine Kd.C_drewN ?_ _)|(with_reducible refine Kd.C_drew ?_)))
          (case aB=>exact (by repeat (first|(with_reducible first|exact HB.out|apply ze|apply zd|apply zf)|exact HB.out)))
          (case aF=>exact (fun k_ hk=>⟨Kd.fresh' (Kd.R_lt (by (with_reducible repeat (first|apply zo|apply zp|apply zq));exact HO115.out)) k_ hk,Kd.fresh' (Kd.R_lt (by (with_reducible repeat (first|apply zo|apply zp|apply zq));exact HO118.out)) k_ hk,Kd.fresh' (Kd.R_lt (by (with_reducible repeat (first|apply zo|apply zp|apply zq));exact HO121.out)) k_ hk⟩))
          (case aO=>exact (by (with_reducible repeat (first|apply zo|apply zp|apply zq));exact HO_5.out))
          (case aS=>exact (zE (by repeat (first|(with_reducible first|exact HB.out|apply ze|apply zd|apply zf)|exact HB.out))))
          (case aL=>have:=LMc13.out;omega)
          intro v123 w25 ho hb hg hat
          rw [← Ny122.out] at ho
          have n0_:=zm (Kd.R_after (ok:=(fun k_=>some k_≠(v117 : Value).ownBlock∧some k_≠(.slice Ao26 y119.length co26 : Value).ownBlock)) (by (with_reducible repeat (first|apply zo|apply zp|apply zq));exact zG HO115.out (fun _ hk=>⟨⟨hk.1,hk.2.1⟩,hk.2.2⟩)) hg hat)
          have n1_:=zm (Kd.R_after (ok:=(fun k_=>some k_≠(v114 : Value).ownBlock∧some k_≠(.slice Ao26 y119.length co26 : Value).ownBlock)) (by (with_reducible repeat (first|apply zo|apply zp|apply zq));exact zG HO118.out (fun _ hk=>⟨⟨hk.1,hk.2.1⟩,hk.2.2⟩)) hg hat)
          have n2_:=zm (Kd.R_after (ok:=(fun k_=>some k_≠(v114 : Value).ownBlock∧some k_≠(v117 : Value).ownBlock)) (by (with_reducible repeat (first|apply zo|apply zp|apply zq));exact zG HO121.out (fun _ hk=>⟨⟨hk.1,hk.2.1⟩,hk.2.2⟩)) hg hat)
          have n3_:=zm (hb);have n4_:=zm (ho);clear HO115;clear HO118;clear HO121;clear HB;clear HO_5;have HO115:=n0_;have HO118:=n1_;have HO121:=n2_;have HB:=n3_;have HO124:=n4_;clear n0_ n1_ n2_ n3_ n4_;clear ho hb hg hat
          refine hK.out _ _ (((HB.out.cell (zb w _ hw111_0)).trans hw111_0)) (fun hHeld => ?_)
          clear hK K
          refine norm_ (a' := ?_) ?_ ?_
          rotate_left
          ·
           show Act.put _ (some 41) _=_
           simp only [Act.put,List.setIfInBounds_toArray,List.set_cons_zero,List.set_cons_succ,i64_w,i32_w]
           rfl
          refine pure_ (i:=14) (N:=some 4) (v := ?_) (a' := ?_) #[true,true,true,true,true,true,true,true,true,true,true,true,true,true,true,false] rfl rfl (any_of HT_.out (by kernel_rfl)) (fun _ _ _ h=>h) (Or.inl ⟨by rfl, ?_⟩) ?_ ?_
          rotate_left
          ·
           intro w'
           go_simp
           with_reducible rfl
          rotate_left
          ·
           simp only [Act.put,List.setIfInBounds_toArray,List.set_cons_zero,List.set_cons_succ,i64_w,i32_w]
           rfl
          refine pure_ (i:=15) (N:=some 5) (v := ?_) (a' := ?_) #[true,true,true,true,true,true,true,true,true,true,true,true,true,true,true,true] rfl rfl (any_of HT_.out (by kernel_rfl)) (fun _ _ _ h=>h) (Or.inl ⟨by rfl, ?_⟩) ?_ ?_
          rotate_left
          ·
           intro w'
           go_simp
           with_reducible rfl
          rotate_left
          ·
           simp only [Act.put,List.setIfInBounds_toArray,List.set_cons_zero,List.set_cons_succ,i64_w,i32_w]
           rfl
          refine done_ (done_of HT_.out (by kernel_rfl)) ?_
          try go_wp2
          go_roundg k1
          case measure=>have:=HK1.out;omega
          case rel=>exact ⟨(y116),(y122),(wrap64 (x6_1+2)),(by first|rfl|(simp;done)|(simp [*];done)),H',⟨by have:=HK1.out;omega⟩,⟨by (with_reducible repeat (first|apply zo|apply zp|apply zq));exact zG HO118.out (fun _ hk=>hk.2)⟩,⟨by (with_reducible repeat (first|apply zo|apply zp|apply zq));exact zG HO124.out (fun _ hk=>hk.2.1)⟩,⟨by repeat (first|(with_reducible first|exact HB.out|apply ze|apply zd|apply zf)|exact HB.out)⟩⟩
         ·
          rw [if_neg c13] at H
          exact absurd H (by simp)
        ·
         rw [if_neg c12] at H
         exact absurd H (by simp)
       ·
        rw [if_neg c10] at H
        exact absurd H (by simp)
      ·
       rw [if_neg c9] at H
       exact absurd H (by simp)
     ·
      rw [if_neg c8] at H
      exact absurd H (by simp)
    ·
     rw [if_neg c6] at H
     have c6b0 : decide (x6_1 < (l0.length : Int))=false:=decide_eq_false c6
     clear c6
     replace H:=Option.bind_eq_some_iff.mp H
     obtain ⟨t999,A990,H⟩:=H
     have A99:=zm A990;clear A990
     obtain ⟨Ap4,cp4,ep4⟩:=Kd.R_slice HO_4.out
     subst ep4
     have hcl4:=(HB.out.cell (zb w _ HCL.out)).trans HCL.out
     by_cases c99 : x4_1.length=1
     ·
      have A98:=A99.out
      rw [if_pos c99] at A98
      obtain rfl:=Option.some.inj A98
      clear A98 A99;have C99:=zm c99;clear c99
      by_cases c27 : x4_1.length+x5_1.length < 17592186044416
      ·
       rw [if_pos c27] at H
       have LMc27:=zm c27;clear c27
       obtain ⟨y125,hy125⟩ : ∃ y_ : List Int,y_=(x4_1 ++ x5_1):=⟨_,rfl⟩
       replace H : (some y125)=some r:=by first|(rw [hy125];with_reducible exact H)|(have H2_:=(Option.bind_some _ _).symm.trans H;rw [hy125];with_reducible exact H2_)|(have H2_:=(Option.bind_some _ _).symm.trans H;with_reducible exact H2_)|with_reducible exact H|(rw [hy125];exact H)|exact H
       have Ny125:=zm hy125;clear hy125
       obtain rfl:=Option.some.inj H
       obtain ⟨Ao29,co29,eo29⟩:=Kd.R_slice HO_5.out
       subst eo29
       go_wp2_with (first|(go_at_call 18;(with_reducible refine (wave_Level.one Ap4 x4_1.length cp4 (.pointer (some ⟨B,0,none⟩)) _ C99.out).mono ?_);rintro e w11 ⟨rfl,⟨nd,rfl⟩⟩)|((with_reducible refine gate_builtin (b:=.append) (xs := #[.tmp 44, .tmp 45]) rfl ?_);at_builtin;refine Kd.R_append_rows (Kd.int .i64) (w0:=w) w.heap.size rfl (.tmp 44) (.tmp 45) 22 2 (.int .i64 0) 8 rfl Try.underlying22 info2 rfl (by decide) (by omega) (.slice Ap4 x4_1.length cp4) x4_1 x5_1 _ _ _ (fun k_=>some k_≠(.slice Ao29 x5_1.length co29 : Value).ownBlock) (fun _=>False) rfl rfl ?aO ?aR (fun _ _ h=>h) (fun _ h=>h.elim) ?aF ?aB ?aS ?aL ?_;(case aR=>repeat (first|exact (Kd.R_reads' HO_5.out).2.2|(with_reducible refine Kd.C_alloc ?_ _)|(with_reducible refine Kd.C_drewN ?_ _)|(with_reducible refine Kd.C_drew ?_)));(case aB=>exact (by repeat (first|(with_reducible first|exact HB.out|apply ze|apply zd|apply zf)|exact HB.out)));(case aF=>exact (fun k_ hk=>Kd.fresh' (Kd.R_lt (by (with_reducible repeat (first|apply zo|apply zp|apply zq));exact HO_5.out)) k_ hk));(case aO=>exact (by (with_reducible repeat (first|apply zo|apply zp|apply zq));exact HO_4.out));(case aS=>exact (zE (by repeat (first|(with_reducible first|exact HB.out|apply ze|apply zd|apply zf)|exact HB.out))));(case aL=>have:=LMc27.out;omega);intro v126 w28 ho hb hg hat;rw [← Ny125.out] at ho;have n0_:=zm (Kd.R_after (ok:=(fun _=>True)) (by (with_reducible repeat (first|apply zo|apply zp|apply zq));exact zG HO_5.out (fun _ hk=>⟨trivial,hk⟩)) hg hat);have n1_:=zm (hb);have n2_:=zm (ho);clear HO_5;clear HB;clear HO_4;have HO_5:=n0_;have HB:=n1_;have HO127:=n2_;clear n0_ n1_ n2_;clear ho hb hg hat))
       go_ret
       exact ⟨_,by first|rfl|(simp [errW_none,errW_some] <;> rfl)|(simp [*,errW_none,errW_some] <;> rfl),by (with_reducible repeat (first|apply zo|apply zp|apply zq));exact zG HO127.out (fun _ hk=>trivial),by repeat (first|(with_reducible first|exact HB.out|apply ze|apply zd|apply zf)|exact HB.out)⟩
      ·
       rw [if_neg c27] at H
       exact absurd H (by simp)
     ·
      have A98:=A99.out
      rw [if_neg c99] at A98
      clear A99 c99;have A99:=zm A98;clear A98
      by_cases c27 : t999.length+x5_1.length < 17592186044416
      ·
       rw [if_pos c27] at H
       have LMc27:=zm c27;clear c27
       obtain ⟨y125,hy125⟩ : ∃ y_ : List Int,y_=(t999 ++ x5_1):=⟨_,rfl⟩
       replace H : (some y125)=some r:=by first|(rw [hy125];with_reducible exact H)|(have H2_:=(Option.bind_some _ _).symm.trans H;rw [hy125];with_reducible exact H2_)|(have H2_:=(Option.bind_some _ _).symm.trans H;with_reducible exact H2_)|with_reducible exact H|(rw [hy125];exact H)|exact H
       have Ny125:=zm hy125;clear hy125
       obtain rfl:=Option.some.inj H
       obtain ⟨Ao29,co29,eo29⟩:=Kd.R_slice HO_5.out
       subst eo29
       go_wp2_with (first|(go_at_call 18;(with_reducible refine (ih k1 (by have:=HK1.out;omega) _ _ x4_1 0 t999 _ ?side1 ?side2 ?side3 A99.out).mono ?_);(case side1=>repeat (first|exact (Kd.R_reads' HO_4.out).2.2|(with_reducible refine Kd.C_alloc ?_ _)|(with_reducible refine Kd.C_drewN ?_ _)|(with_reducible refine Kd.C_drew ?_)));(case side2=>exact (Kd.R_reads' HO_4.out).2.1);(case side3=>exact hcl4);rintro e w11 ⟨v998,rfl,ho0,hb⟩;have n0_:=zm (Kd.R_elder' (by (with_reducible repeat (first|apply zo|apply zp|apply zq));exact HO_4.out) (Kd.R_base ho0) hb);have n1_:=zm (Kd.R_elder' (by (with_reducible repeat (first|apply zo|apply zp|apply zq));exact HO_5.out) (Kd.R_base ho0) hb);have n2_:=zm (Kd.R_lower (Kd.R_new' ho0 (Kd.R_lt (by (with_reducible repeat (first|apply zo|apply zp|apply zq));exact HO_5.out))) (zE (by repeat (first|(with_reducible first|exact HB.out|apply ze|apply zd|apply zf)|exact HB.out))));have n3_:=zm (zJ (by repeat (first|(with_reducible first|exact HB.out|apply ze|apply zd|apply zf)|exact HB.out)) hb);clear HO_4 HO_5 HB;have HO_9:=n0_;have HO_5:=n1_;have HO_4:=n2_;have HB:=n3_;clear n0_ n1_ n2_ n3_;clear hb ho0)|((with_reducible refine gate_builtin (b:=.append) (xs := #[.tmp 44, .tmp 45]) rfl ?_);at_builtin;refine Kd.R_append_rows (Kd.int .i64) (w0:=w) w.heap.size rfl (.tmp 44) (.tmp 45) 22 2 (.int .i64 0) 8 rfl Try.underlying22 info2 rfl (by decide) (by omega) v998 t999 x5_1 _ _ _ (fun k_=>some k_≠(.slice Ao29 x5_1.length co29 : Value).ownBlock) (fun _=>False) rfl rfl ?aO ?aR (fun _ _ h=>h) (fun _ h=>h.elim) ?aF ?aB ?aS ?aL ?_;(case aR=>repeat (first|exact (Kd.R_reads' HO_5.out).2.2|(with_reducible refine Kd.C_alloc ?_ _)|(with_reducible refine Kd.C_drewN ?_ _)|(with_reducible refine Kd.C_drew ?_)));(case aB=>exact (by repeat (first|(with_reducible first|exact HB.out|apply ze|apply zd|apply zf)|exact HB.out)));(case aF=>exact (fun k_ hk=>Kd.fresh' (Kd.R_lt (by (with_reducible repeat (first|apply zo|apply zp|apply zq));exact HO_5.out)) k_ hk));(case aO=>exact (by (with_reducible repeat (first|apply zo|apply zp|apply zq));exact zG HO_4.out (fun _ hk=>hk.2)));(case aS=>exact (zE (by repeat (first|(with_reducible first|exact HB.out|apply ze|apply zd|apply zf)|exact HB.out))));(case aL=>have:=LMc27.out;omega);intro v126 w28 ho hb hg hat;rw [← Ny125.out] at ho;have n0_:=zm (Kd.R_after (ok:=(fun _=>True)) (by (with_reducible repeat (first|apply zo|apply zp|apply zq));exact zG HO_5.out (fun _ hk=>⟨trivial,hk.2⟩)) hg hat);have n1_:=zm (hb);have n2_:=zm (ho);clear HO_5;clear HB;clear HO_4;have HO_5:=n0_;have HB:=n1_;have HO127:=n2_;clear n0_ n1_ n2_;clear ho hb hg hat))
       go_ret
       exact ⟨_,by first|rfl|(simp [errW_none,errW_some] <;> rfl)|(simp [*,errW_none,errW_some] <;> rfl),by (with_reducible repeat (first|apply zo|apply zp|apply zq));exact zG HO127.out (fun _ hk=>trivial),by repeat (first|(with_reducible first|exact HB.out|apply ze|apply zd|apply zf)|exact HB.out)⟩
      ·
       rw [if_neg c27] at H
       exact absurd H (by simp)

end Go.Proofs.Ytiikcnbfdnadfaa.Prt

namespace Go.Proofs.Ytiikcnbfdnadfaa.Prt
open Go.RowKit Go.Proofs.YtiikcnbfdnadfaaW.PrintWords Go.Proofs.YtiikcnbfdnadfaaW.PrintLast Go.Proofs.YtiikcnbfdnadfaaW.PrintMore
attribute [local go_sem] max2_int min2_int max_two min_two max_three min_three max_four min_four   -- for this text's walks alone
set_option linter.unusedVariables false
set_option linter.unusedSimpArgs false

/-! ### num_Clamp: function 23 -/
def num_Clamp.f (a0 : Int) (a1 : Int) (a2 : Int) : Option (Int):=if a0 < a1 then (some a1) else (if a0 > a2 then (some a2) else (some a0))
set_option maxHeartbeats 8000000 in
set_option maxRecDepth 100000 in
theorem num_Clamp.calls (a0 : Int) (a1 : Int) (a2 : Int) (r : Int) (w : World) (h : num_Clamp.f a0 a1 a2=some r) :
  Calls Try.prog 23 #[.int .i64 a0, .int .i64 a1, .int .i64 a2] w fun e w' => e=.returned (.int .i64 r)∧Drawn0 w w' := by
 have H : (if a0 < a1 then (some a1) else (if a0 > a2 then (some a2) else (some a0)))=some r:=h
 clear h
 by_cases c4 : a0 < a1
 ·
  rw [if_pos c4] at H
  have c4b0 : decide (a0 < a1)=true:=decide_eq_true c4
  clear c4
  obtain rfl:=Option.some.inj H
  go_enter Try.func23,Try.ntmps23
  go_wp2
  go_ret
  exact ⟨by first|rfl|(simp;done)|(simp [*];done),by repeat (first|exact Drawn0.refl _|apply Drawn0.step)⟩
 ·
  rw [if_neg c4] at H
  have c4b0 : decide (a0 < a1)=false:=decide_eq_false c4
  clear c4
  by_cases c5 : a0 > a2
  ·
   rw [if_pos c5] at H
   have c5b0 : decide (a2 < a0)=true:=decide_eq_true c5
   clear c5
   obtain rfl:=Option.some.inj H
   go_enter Try.func23,Try.ntmps23
   go_wp2
   go_ret
   exact ⟨by first|rfl|(simp;done)|(simp [*];done),by repeat (first|exact Drawn0.refl _|apply Drawn0.step)⟩
  ·
   rw [if_neg c5] at H
   have c5b0 : decide (a2 < a0)=false:=decide_eq_false c5
   clear c5
   obtain rfl:=Option.some.inj H
   go_enter Try.func23,Try.ntmps23
   go_wp2
   go_ret
   exact ⟨by first|rfl|(simp;done)|(simp [*];done),by repeat (first|exact Drawn0.refl _|apply Drawn0.step)⟩

end Go.Proofs.Ytiikcnbfdnadfaa.Prt

namespace Go.Proofs.Ytiikcnbfdnadfaa.Prt
open Go.RowKit Go.Proofs.YtiikcnbfdnadfaaW.PrintWords Go.Proofs.YtiikcnbfdnadfaaW.PrintLast Go.Proofs.YtiikcnbfdnadfaaW.PrintMore
attribute [local go_sem] max2_int min2_int max_two min_two max_three min_three max_four min_four   -- for this text's walks alone
set_option linter.unusedVariables false
set_option linter.unusedSimpArgs false

/-! ### wave_sized: function 20 -/
mutual
def wave_sized.j0 : Nat→List Int→Int→Bool→Option (Bool)
 | 0,_,_,_=>none
 | k+1,x0,x1,x22=>if x22=true then (some false) else (wave_sized.l0 k x1 x0 (x0.length : Int) 0)
def wave_sized.l0 : Nat→Int→List Int→Int→Int→Option (Bool)
 | 0,_,_,_,_=>none
 | k+1,x1,x23,x24,x25=>if x25 < x24 then (if 0≤x25 then (if x25 < (x23.length : Int) then ((num_Clamp.f (rd x23 x25) (wrap64 (-x1)) x1).bind fun t102=>(if (rd x23 x25)=t102 then (wave_sized.l0 k x1 x23 x24 (wrap64 (x25+1))) else (some false))) else (none)) else (none)) else (some true)
end
def wave_sized.f (k : Nat) (l0 : List Int) (a1 : Int) : Option (Bool):=if (l0.length : Int) < 2 then (wave_sized.j0 k l0 a1 true) else (if (l0.length : Int) > 32 then (wave_sized.j0 k l0 a1 true) else (wave_sized.j0 k l0 a1 ((Go.bits .and .i64 (l0.length : Int) (wrap64 ((l0.length : Int) - 1))) != 0)))
theorem wave_sized.mono_l : ∀ k,(∀ y0 y1 y2,LeO (wave_sized.j0 k y0 y1 y2) (wave_sized.j0 (k+1) y0 y1 y2))∧(∀ y0 y1 y2 y3,LeO (wave_sized.l0 k y0 y1 y2 y3) (wave_sized.l0 (k+1) y0 y1 y2 y3))
 | 0=>⟨fun _ _ _ r h=>by simp [wave_sized.j0] at h,fun _ _ _ _ r h=>by simp [wave_sized.l0] at h⟩
 | k+1=>by
  obtain ⟨ih0,ih1⟩:=wave_sized.mono_l k
  refine ⟨?_, ?_⟩
  ·
   intro y0 y1 y2
   unfold wave_sized.j0
   repeat' first
   | (with_reducible exact ih0 _ _ _)
   | (with_reducible exact ih1 _ _ _ _)
   | (with_reducible exact LeO.refl _)
   | (with_reducible exact LeO.none _)
   | (with_reducible refine LeO.ite ?_ ?_)
   | (with_reducible refine LeO.bind ?_ (fun _ => ?_))
   | exact ih0 _ _ _
   | exact ih1 _ _ _ _
   | exact LeO.none _
   | refine LeO.ite ?_ ?_
   | refine LeO.bind ?_ (fun _ => ?_)
  ·
   intro y0 y1 y2 y3
   unfold wave_sized.l0
   repeat' first
   | (with_reducible exact ih0 _ _ _)
   | (with_reducible exact ih1 _ _ _ _)
   | (with_reducible exact LeO.refl _)
   | (with_reducible exact LeO.none _)
   | (with_reducible refine LeO.ite ?_ ?_)
   | (with_reducible refine LeO.bind ?_ (fun _ => ?_))
   | exact ih0 _ _ _
   | exact ih1 _ _ _ _
   | exact LeO.none _
   | refine LeO.ite ?_ ?_
   | refine LeO.bind ?_ (fun _ => ?_)
theorem wave_sized.mono : ∀ a0 a1 k,LeO (wave_sized.f k a0 a1) (wave_sized.f (k+1) a0 a1):=by
 intro a0 a1 k
 obtain ⟨ih0,ih1⟩:=wave_sized.mono_l k
 unfold wave_sized.f
 repeat' first
   | (with_reducible exact ih0 _ _ _)
   | (with_reducible exact ih1 _ _ _ _)
   | (with_reducible exact LeO.refl _)
   | (with_reducible exact LeO.none _)
   | (with_reducible refine LeO.ite ?_ ?_)
   | (with_reducible refine LeO.bind ?_ (fun _ => ?_))
   | exact ih0 _ _ _
   | exact ih1 _ _ _ _
   | exact LeO.none _
   | refine LeO.ite ?_ ?_
   | refine LeO.bind ?_ (fun _ => ?_)
set_option maxHeartbeats 8000000 in
set_option maxRecDepth 100000 in
theorem wave_sized.calls (k : Nat) (A0 : Option Addr) (c0 : Nat) (l0 : List Int) (a1 : Int) (r : Bool) (w : World) (hr0 : Kd.C (Kd.int .i64) w A0 l0.length l0) (hc0 : l0.length≤c0) (h : wave_sized.f k l0 a1=some r) :
  Calls Try.prog 20 #[.slice A0 l0.length c0, .int .i64 a1] w fun e w' => e=.returned (.bool r)∧Drawn0 w w' := by
 have HR0:=zm hr0;have HC0:=zm hc0;clear hr0 hc0
 have H : (if (l0.length : Int) < 2 then (wave_sized.j0 k l0 a1 true) else (if (l0.length : Int) > 32 then (wave_sized.j0 k l0 a1 true) else (wave_sized.j0 k l0 a1 ((Go.bits .and .i64 (l0.length : Int) (wrap64 ((l0.length : Int) - 1))) != 0))))=some r:=h
 clear h;have HC3:=zm H;clear H
 go_enter Try.func20,Try.ntmps20
 go_upto_region 2 with (fail)
 go_cut [22] (fun v22 wc => ∃ (kq : Nat) (x22_2 : Bool),v22=.bool x22_2∧Aside0 (wave_sized.j0 kq l0 a1 x22_2=some r)∧Aside0 (kq≤k)∧Drawn0 w wc)
 case first =>
  have H:=HC3.out;clear HC3
  by_cases c4 : (l0.length : Int) < 2
  ·
   rw [if_pos c4] at H
   have c4b0 : decide ((l0.length : Int) < 2)=true:=decide_eq_true c4
   have c4b1 : decide (l0.length < 2)=true:=decide_eq_true (by omega)
   clear c4
   (first|rw [c4b0]|(simp only [i64_w,i32_w];rw [c4b0])|skip)
   have H' := zm H
   clear H
   go_wp2
   go_meet
   case rel=>exact ⟨_,(true),(by first|rfl|(simp;done)|(simp [*];done)),H',⟨by first|omega|exact Nat.le_refl _⟩,by repeat (first|exact Drawn0.refl _|apply Drawn0.step)⟩
  ·
   rw [if_neg c4] at H
   have c4b0 : decide ((l0.length : Int) < 2)=false:=decide_eq_false c4
   have c4b1 : decide (l0.length < 2)=false:=decide_eq_false (by omega)
   clear c4
   (first|rw [c4b0]|(simp only [i64_w,i32_w];rw [c4b0])|skip)
   by_cases c5 : (l0.length : Int) > 32
   ·
    rw [if_pos c5] at H
    have c5b0 : decide (32 < (l0.length : Int))=true:=decide_eq_true c5
    have c5b1 : decide (32 < l0.length)=true:=decide_eq_true (by omega)
    clear c5
    have H' := zm H
    clear H
    go_wp2
    go_meet
    case rel=>exact ⟨_,(true),(by first|rfl|(simp;done)|(simp [*];done)),H',⟨by first|omega|exact Nat.le_refl _⟩,by repeat (first|exact Drawn0.refl _|apply Drawn0.step)⟩
   ·
    rw [if_neg c5] at H
    have c5b0 : decide (32 < (l0.length : Int))=false:=decide_eq_false c5
    have c5b1 : decide (32 < l0.length)=false:=decide_eq_false (by omega)
    clear c5
    have H' := zm H
    clear H
    go_wp2
    go_meet
    case rel=>exact ⟨_,(((Go.bits .and .i64 (l0.length : Int) (wrap64 ((l0.length : Int) - 1))) != 0)),(by first|rfl|(simp;done)|(simp [*];done)),H',⟨by first|omega|exact Nat.le_refl _⟩,by repeat (first|exact Drawn0.refl _|apply Drawn0.step)⟩
 case rest =>
  clear HC3
  try clear c2
  try clear p2
  try clear c4
  try clear c4b0
  try clear c4b1
  try clear c5
  try clear c5b0
  try clear c5b1
  obtain ⟨kq,x22_2,rfl,HA,HJ2,⟨mc2,rfl⟩⟩:=hcut
  cases kq with
  | zero=>exact absurd HA.out (by simp [wave_sized.j0])
  | succ kj2 =>
   have H:=HA.out;clear HA
   simp only [wave_sized.j0] at H
   by_cases c6 : x22_2=true
   ·
    subst c6
    have H1 : (some false)=some r:=by rw [if_pos rfl] at H;exact H
    clear H;have H:=H1;clear H1
    obtain rfl:=Option.some.inj H
    go_wp2
    go_ret
    exact ⟨by first|rfl|(simp;done)|(simp [*];done),by repeat (first|exact Drawn0.refl _|apply Drawn0.step)⟩
   ·
    replace c6:=Bool.eq_false_iff.mpr c6
    subst c6
    have H1 : (wave_sized.l0 kj2 a1 l0 (l0.length : Int) 0)=some r:=by rw [if_neg (show ¬ (false=true) by decide)] at H;exact H
    clear H;have H:=H1;clear H1
    have H' := zm H
    clear H
    go_wp2
    go_loopg [25] kj2 (fun kq v25 w' => ∃ (x25_2 : Int),v25=.int .i64 x25_2∧Aside0 (wave_sized.l0 kq a1 l0 (l0.length : Int) x25_2=some r)∧Aside0 (kq≤kj2)∧Drawn0 w w')
    case atStart=>exact ⟨(0),(by first|rfl|(simp;done)|(simp [*];done)),H',⟨Nat.le_refl _⟩,by repeat (first|exact Drawn0.refl _|apply Drawn0.step)⟩
    case round =>
     clear H'
     try clear c2
     try clear p2
     try clear c4
     try clear c4b0
     try clear c4b1
     try clear c5
     try clear c5b0
     try clear c5b1
     try clear c6
     try clear p6
     try clear p2
     obtain ⟨x25_2,rfl,HA,HK2,⟨m2,rfl⟩⟩:=hrel
     cases gk with
     | zero=>exact absurd HA.out (by simp [wave_sized.l0])
     | succ k2 =>
      have H:=HA.out;clear HA
      simp only [wave_sized.l0] at H
      by_cases c7 : x25_2 < (l0.length : Int)
      ·
       rw [if_pos c7] at H
       have c7b0 : decide (x25_2 < (l0.length : Int))=true:=decide_eq_true c7
       clear c7
       by_cases c8 : 0≤x25_2
       ·
        rw [if_pos c8] at H
        have c8b0 : decide (0≤x25_2)=true:=decide_eq_true c8
        clear c8
        by_cases c9 : x25_2 < (l0.length : Int)
        ·
         rw [if_pos c9] at H
         have c9b0 : decide (x25_2 < (l0.length : Int))=true:=decide_eq_true c9
         clear c9
         replace H:=Option.bind_eq_some_iff.mp H
         obtain ⟨t102,A100,H⟩:=H
         replace H : (if (rd l0 x25_2)=t102 then (wave_sized.l0 k2 a1 l0 (l0.length : Int) (wrap64 (x25_2+1))) else (some false))=some r:=H
         have A10:=zm A100;clear A100
         by_cases c11 : (rd l0 x25_2)=t102
         ·
          rw [if_pos c11] at H
          have c11b0 : ((rd l0 x25_2) == t102)=true:=beq_iff_eq.mpr c11
          have c11b1 : ((rd l0 x25_2) != t102)=false:=bne_eq_false_iff_eq.mpr c11
          clear c11
          have H' := zm H
          clear H
          have p101 : 0≤(x25_2 : Int):=of_decide_eq_true (by first|(with_reducible assumption)|assumption)
          have q101 : x25_2 < (l0.length : Int):=of_decide_eq_true (by first|(with_reducible assumption)|assumption)
          obtain ⟨ad101,e101,hx101_0⟩:=Kd.at_int HR0.out x25_2 p101 q101
          cases e101
          replace p101:=eq_true p101
          replace q101:=eq_true q101
          go_wp2_with (first|((with_reducible refine gate_callee (f:=23) rfl ?_);refine goesL_ (some 34) rfl rfl Try.func23 (by kernel_rfl) rfl #[.int .i64 (rd l0 x25_2), .int .i64 (wrap64 (-a1)), .int .i64 a1] rfl (by (try simp only [List.map_toArray,List.map_cons,List.map_nil]);first|done|rfl|(simp only [List.length_drop,List.length_take];rfl)) ?_;(with_reducible refine (num_Clamp.calls (rd l0 x25_2) (wrap64 (-a1)) a1 t102 _ A10.out).mono ?_);rintro e w' ⟨rfl,⟨nd,rfl⟩⟩;refine ⟨_,rfl, ?_⟩))
          go_roundg k2
          case measure=>have:=HJ2.out;have:=HK2.out;omega
          case rel=>exact ⟨(wrap64 (x25_2+1)),(by first|rfl|(simp;done)|(simp [*];done)),H',⟨by have:=HJ2.out;have:=HK2.out;omega⟩,by repeat (first|exact Drawn0.refl _|apply Drawn0.step)⟩
         ·
          rw [if_neg c11] at H
          have c11b0 : ((rd l0 x25_2) == t102)=false:=beq_eq_false_iff_ne.mpr c11
          have c11b1 : ((rd l0 x25_2) != t102)=true:=bne_iff_ne.mpr c11
          obtain rfl:=Option.some.inj H
          have p101 : 0≤(x25_2 : Int):=of_decide_eq_true (by first|(with_reducible assumption)|assumption)
          have q101 : x25_2 < (l0.length : Int):=of_decide_eq_true (by first|(with_reducible assumption)|assumption)
          obtain ⟨ad101,e101,hx101_0⟩:=Kd.at_int HR0.out x25_2 p101 q101
          cases e101
          replace p101:=eq_true p101
          replace q101:=eq_true q101
          go_wp2_with (first|((with_reducible refine gate_callee (f:=23) rfl ?_);refine goesL_ (some 34) rfl rfl Try.func23 (by kernel_rfl) rfl #[.int .i64 (rd l0 x25_2), .int .i64 (wrap64 (-a1)), .int .i64 a1] rfl (by (try simp only [List.map_toArray,List.map_cons,List.map_nil]);first|done|rfl|(simp only [List.length_drop,List.length_take];rfl)) ?_;(with_reducible refine (num_Clamp.calls (rd l0 x25_2) (wrap64 (-a1)) a1 t102 _ A10.out).mono ?_);rintro e w' ⟨rfl,⟨nd,rfl⟩⟩;refine ⟨_,rfl, ?_⟩))
          go_ret
          exact ⟨by first|rfl|(simp;done)|(simp [*];done),by repeat (first|exact Drawn0.refl _|apply Drawn0.step)⟩
        ·
         rw [if_neg c9] at H
         exact absurd H (by simp)
       ·
        rw [if_neg c8] at H
        exact absurd H (by simp)
      ·
       rw [if_neg c7] at H
       have c7b0 : decide (x25_2 < (l0.length : Int))=false:=decide_eq_false c7
       clear c7
       obtain rfl:=Option.some.inj H
       go_wp2
       go_ret
       exact ⟨by first|rfl|(simp;done)|(simp [*];done),by repeat (first|exact Drawn0.refl _|apply Drawn0.step)⟩

end Go.Proofs.Ytiikcnbfdnadfaa.Prt

namespace Go.Proofs.Ytiikcnbfdnadfaa.Prt
open Go.RowKit Go.Proofs.YtiikcnbfdnadfaaW.PrintWords Go.Proofs.YtiikcnbfdnadfaaW.PrintLast Go.Proofs.YtiikcnbfdnadfaaW.PrintMore
attribute [local go_sem] max2_int min2_int max_two min_two max_three min_three max_four min_four   -- for this text's walks alone
set_option linter.unusedVariables false
set_option linter.unusedSimpArgs false

/-! ### wave_Right: function 13 -/
def wave_Right.f (k : Nat) (l0 : List Int) : Option (Bool):=(wave_sized.f k l0 16777216).bind fun t103=>(some t103)
theorem wave_Right.mono : ∀ a0 k,LeO (wave_Right.f k a0) (wave_Right.f (k+1) a0):=by
 intro a0 k
 unfold wave_Right.f
 repeat' first
   | (with_reducible exact wave_sized.mono _ _ _)
   | (with_reducible exact LeO.refl _)
   | (with_reducible exact LeO.none _)
   | (with_reducible refine LeO.ite ?_ ?_)
   | (with_reducible refine LeO.bind ?_ (fun _ => ?_))
   | exact wave_sized.mono _ _ _
   | exact LeO.none _
   | refine LeO.ite ?_ ?_
   | refine LeO.bind ?_ (fun _ => ?_)
set_option maxHeartbeats 8000000 in
set_option maxRecDepth 100000 in
theorem wave_Right.calls (k : Nat) (A0 : Option Addr) (c0 : Nat) (l0 : List Int) (r : Bool) (w : World) (hr0 : Kd.C (Kd.int .i64) w A0 l0.length l0) (hc0 : l0.length≤c0) (h : wave_Right.f k l0=some r) :
  Calls Try.prog 13 #[.slice A0 l0.length c0] w fun e w' => e=.returned (.bool r)∧Drawn0 w w' := by
 have HR0:=zm hr0;have HC0:=zm hc0;clear hr0 hc0
 have H : ((wave_sized.f k l0 16777216).bind fun t103=>(some t103))=some r:=h
 clear h
 replace H:=Option.bind_eq_some_iff.mp H
 obtain ⟨t103,A20,H⟩:=H
 replace H : (some t103)=some r:=H
 have A2:=zm A20;clear A20
 obtain rfl:=Option.some.inj H
 go_enter Try.func13,Try.ntmps13
 go_wp2_with (first|((with_reducible refine gate_callee (f:=20) rfl ?_);refine goesL_ (some 4) rfl rfl Try.func20 (by kernel_rfl) rfl #[.slice A0 l0.length c0, .int .i64 16777216] rfl (by (try simp only [List.map_toArray,List.map_cons,List.map_nil]);first|done|rfl|(simp only [List.length_drop,List.length_take];rfl)) ?_;(with_reducible refine (wave_sized.calls k _ _ l0 16777216 t103 _ ?side1 ?side2 A2.out).mono ?_);(case side1=>repeat (first|exact HR0.out|(with_reducible refine Kd.C_alloc ?_ _)|(with_reducible refine Kd.C_drewN ?_ _)|(with_reducible refine Kd.C_drew ?_)));(case side2=>exact HC0.out);rintro e w' ⟨rfl,⟨nd,rfl⟩⟩;refine ⟨_,rfl, ?_⟩))
 go_ret
 exact ⟨by first|rfl|(simp;done)|(simp [*];done),by repeat (first|exact Drawn0.refl _|apply Drawn0.step)⟩

end Go.Proofs.Ytiikcnbfdnadfaa.Prt

namespace Go.Proofs.Ytiikcnbfdnadfaa.Prt
open Go.RowKit Go.Proofs.YtiikcnbfdnadfaaW.PrintWords Go.Proofs.YtiikcnbfdnadfaaW.PrintLast Go.Proofs.YtiikcnbfdnadfaaW.PrintMore
attribute [local go_sem] max2_int min2_int max_two min_two max_three min_three max_four min_four   -- for this text's walks alone
set_option linter.unusedVariables false
set_option linter.unusedSimpArgs false

/-! ### wave_Forward: function 11 -/
def wave_Forward.f (k : Nat) (l0 : List Int) : Option (List Int × Int):=(wave_Right.f k l0).bind fun t128=>(if t128=true then ((some (([] : List Int) : List Int)).bind fun y129=>(if y129.length+l0.length < 17592186044416 then ((wave_Level.f k (y129 ++ l0) 0).bind fun t135=>(some (t135,0))) else (none))) else (some (([] : List Int),1)))
theorem wave_Forward.mono : ∀ a0 k,LeO (wave_Forward.f k a0) (wave_Forward.f (k+1) a0):=by
 intro a0 k
 unfold wave_Forward.f
 repeat' first
   | (with_reducible exact wave_Level.mono _ _ _)
   | (with_reducible exact wave_Right.mono _ _)
   | (with_reducible exact LeO.refl _)
   | (with_reducible exact LeO.none _)
   | (with_reducible refine LeO.ite ?_ ?_)
   | (with_reducible refine LeO.bind ?_ (fun _ => ?_))
   | exact wave_Level.mono _ _ _
   | exact wave_Right.mono _ _
   | exact LeO.none _
   | refine LeO.ite ?_ ?_
   | refine LeO.bind ?_ (fun _ => ?_)
set_option maxHeartbeats 8000000 in
set_option maxRecDepth 100000 in
theorem wave_Forward.calls (k : Nat) (A0 : Option Addr) (c0 : Nat) (l0 : List Int) (r1 : List Int) (r2 : Int) (w : World) (hr0 : Kd.C (Kd.int .i64) w A0 l0.length l0) (hc0 : l0.length≤c0) (h : wave_Forward.f k l0=some (r1,r2)) :
  Calls Try.prog 11 #[.slice A0 l0.length c0] w fun e w' => ∃ v0_ : Value,e=.returned (.tuple #[v0_, .int .i64 r2])∧Kd.R (Kd.int .i64) 2 w' w.heap.size (fun _=>True) v0_ r1∧Below w.heap.size w w' := by
 have HR0:=zm hr0;have HC0:=zm hc0;clear hr0 hc0;have HB:=zm (Below.refl w.heap.size w)
 have H : ((wave_Right.f k l0).bind fun t128=>(if t128=true then ((some (([] : List Int) : List Int)).bind fun y129=>(if y129.length+l0.length < 17592186044416 then ((wave_Level.f k (y129 ++ l0) 0).bind fun t135=>(some (t135,0))) else (none))) else (some (([] : List Int),1))))=some (r1,r2):=h
 clear h
 replace H:=Option.bind_eq_some_iff.mp H
 obtain ⟨t128,A20,H⟩:=H
 replace H : (if t128=true then ((some (([] : List Int) : List Int)).bind fun y129=>(if y129.length+l0.length < 17592186044416 then ((wave_Level.f k (y129 ++ l0) 0).bind fun t135=>(some (t135,0))) else (none))) else (some (([] : List Int),1)))=some (r1,r2):=H
 have A2:=zm A20;clear A20
 by_cases c3 : t128=true
 ·
  subst c3
  have H1 : ((some (([] : List Int) : List Int)).bind fun y129=>(if y129.length+l0.length < 17592186044416 then ((wave_Level.f k (y129 ++ l0) 0).bind fun t135=>(some (t135,0))) else (none)))=some (r1,r2):=by rw [if_pos rfl] at H;exact H
  clear H;have H:=H1;clear H1
  obtain ⟨y129,hy129⟩ : ∃ y_ : List Int,y_=(([] : List Int)):=⟨_,rfl⟩
  replace H : (if y129.length+l0.length < 17592186044416 then ((wave_Level.f k (y129 ++ l0) 0).bind fun t135=>(some (t135,0))) else (none))=some (r1,r2):=by first|(rw [hy129];with_reducible exact H)|(have H2_:=(Option.bind_some _ _).symm.trans H;rw [hy129];with_reducible exact H2_)|(have H2_:=(Option.bind_some _ _).symm.trans H;with_reducible exact H2_)|with_reducible exact H|(rw [hy129];exact H)|exact H
  have Ny129:=zm hy129;clear hy129
  by_cases c4 : y129.length+l0.length < 17592186044416
  ·
   rw [if_pos c4] at H
   have LMc4:=zm c4;clear c4
   obtain ⟨y132,hy132⟩ : ∃ y_ : List Int,y_=(y129 ++ l0):=⟨_,rfl⟩
   replace H : ((wave_Level.f k y132 0).bind fun t135=>(some (t135,0)))=some (r1,r2):=by first|(rw [hy132];with_reducible exact H)|(have H2_:=(Option.bind_some _ _).symm.trans H;rw [hy132];with_reducible exact H2_)|(have H2_:=(Option.bind_some _ _).symm.trans H;with_reducible exact H2_)|with_reducible exact H|(rw [hy132];exact H)|exact H
   have Ny132:=zm hy132;clear hy132
   replace H:=Option.bind_eq_some_iff.mp H
   obtain ⟨t135,A50,H⟩:=H
   replace H : (some (t135,0))=some (r1,r2):=H
   have A5:=zm A50;clear A50
   simp only [Option.some.injEq,Prod.mk.injEq] at H
   obtain ⟨rfl,rfl⟩:=H
   have hmf : ∀ (fn : Fn) (first cap : Array Value) (w : World),(Instr.makeFunc fn first cap).run Try.prog w=.ok (.func fn first cap) w:=fun _ _ _ _=>rfl
   have hc2 : ∀ nd,((w.drewN nd).alloc (.cells #[.nilFunc] 30)).cell? ⟨w.heap.size,0,none⟩=some .nilFunc:=fun nd=>World.cell?_alloc_at _ _ _ _ (by simp)
   have hF2 : ∀ nd,((w.drewN nd).alloc (.cells #[.nilFunc] 30)).frozen? ⟨w.heap.size,0,none⟩=false:=fun nd=>World.frozen?_alloc_at _ _ _ _ (by simp)
   go_enter Try.func11,Try.ntmps11
   try go_wp2_with (first|((with_reducible refine gate_callee (f:=13) rfl ?_);refine goesL_ (some 6) rfl rfl Try.func13 (by kernel_rfl) rfl #[.slice A0 l0.length c0] rfl (by (try simp only [List.map_toArray,List.map_cons,List.map_nil]);first|done|rfl|(simp only [List.length_drop,List.length_take];rfl)) ?_;(with_reducible refine (wave_Right.calls k _ _ l0 true _ ?side1 ?side2 A2.out).mono ?_);(case side1=>repeat (first|exact HR0.out|(with_reducible refine Kd.C_alloc ?_ _)|(with_reducible refine Kd.C_drewN ?_ _)|(with_reducible refine Kd.C_drew ?_)));(case side2=>exact HC0.out);rintro e w' ⟨rfl,⟨nd,rfl⟩⟩;refine ⟨_,rfl, ?_⟩))
   obtain ⟨W0,hW0⟩ : ∃ W0,W0=(((w.drewN nd).alloc (.cells #[.nilFunc] 30)).setCell ⟨w.heap.size,0,none⟩ (.func (.func 18) #[] #[.pointer (some ⟨w.heap.size,0,none⟩)])):=⟨_,rfl⟩
   have hb0 : Below w.heap.size w W0:=by
    rw [hW0]
    exact Below.setCell (ze (zd HB.out nd) _) (Nat.le_refl _) _
   have hcW : W0.cell? ⟨w.heap.size,0,none⟩=some (.func (.func 18) #[] #[.pointer (some ⟨w.heap.size,0,none⟩)]):=by
    rw [hW0]
    exact World.cell?_setCell_same _ _ _ (hc2 nd)
   rw [← hW0]
   clear hW0 hc2 hF2
   replace HR0:=zm (Kd.C_below HR0.out hb0)
   clear HB;have HB:=zm (Below.refl W0.heap.size W0);have n0_:=zm (zf HB.out);clear HB;have HB:=n0_;clear n0_
   refine start_ (n:=7) (S:=fun w' => w'.cell? ⟨w.heap.size,0,none⟩=some (.func (.func 18) #[] #[.pointer (some ⟨w.heap.size,0,none⟩)])) (ds := []) #[false,false,false,false,false,false,false] (by kernel_rfl) rfl rfl ((HB.out.cell (zb W0 _ hcW)).trans hcW) (fun hHeld => ?_)
   generalize W0.drew=w6 at HB hHeld ⊢
   refine take_ (i:=0) (N:=some 9) (v := ?_) (a' := ?_) #[true,false,false,false,false,false,false] rfl rfl (by kernel_rfl) (fun _ _ _ h=>h) (Or.inl ⟨by rfl, ?_⟩) hHeld ?_ ?_
   rotate_left
   ·
    intro w' s0
    go_simp
    with_reducible rfl
   rotate_left
   ·
    simp only [Act.put,List.setIfInBounds_toArray,List.set_cons_zero,List.set_cons_succ,i64_w,i32_w]
    rfl
   refine pure_ (i:=2) (N:=some 11) (v := ?_) (a' := ?_) #[true,false,true,false,false,false,false] rfl rfl (by kernel_rfl) (fun _ _ _ h=>h) (Or.inl ⟨by rfl, ?_⟩) ?_ ?_
   rotate_left
   ·
    intro w'
    go_simp
    with_reducible rfl
   rotate_left
   ·
    simp only [Act.put,List.setIfInBounds_toArray,List.set_cons_zero,List.set_cons_succ,i64_w,i32_w]
    rfl
   refine one_ (i:=1) (N:=some 10) #[true,true,true,false,false,false,false] rfl rfl (by kernel_rfl) (by decide) (fun K hK => ?_)
   refine Kd.R_lit_step (Kd.int .i64) _ 2 ?hg (N:=10) ?hd (xs:=([] : List Int)) (inner := []) (ok:=fun _=>True) (okp:=fun _=>True) ?hr ?hp (fun _ hk=>hk) trivial (Below.refl _ _) (Nat.le_refl _) (by simp) ?_;(case hd=>rfl);(case hg=>rfl);(case hr=>first|(go_simp;done)|(go_simp;rfl));(case hp=>exact (Reps.none _ _))
   intro v130 w7 ho8 hb hg_ hnew_
   clear hg_ hnew_
   (first|rw [← Ny129.out] at ho8|(simp only [Int.reduceToNat] at ho8;rw [← Ny129.out] at ho8))
   have n0_:=zm (Kd.R_lower ho8 (zE (by repeat (first|(with_reducible first|exact HB.out|apply ze|apply zd|apply zf)|exact HB.out))))
   have n1_:=zm (zJ (by repeat (first|(with_reducible first|exact HB.out|apply ze|apply zd|apply zf)|exact HB.out)) hb)
   clear HB;have HO131:=n0_;have HB:=n1_;clear n0_ n1_;clear hb ho8
   refine hK.out _ _ ((HB.out.cell (zb W0 _ hcW)).trans hcW) (fun hHeld => ?_)
   clear hK K
   refine norm_ (a' := ?_) ?_ ?_
   rotate_left
   ·
    show Act.put _ (some 10) _=_
    simp only [Act.put,List.setIfInBounds_toArray,List.set_cons_zero,List.set_cons_succ,i64_w,i32_w]
    rfl
   refine one_ (i:=3) (N:=some 12) #[true,true,true,true,false,false,false] rfl rfl (by kernel_rfl) (by decide) (fun K hK => ?_)
   refine Kd.R_append_rows_step (Kd.int .i64) (w0:=W0) W0.heap.size (by rfl) (.tmp 10) (.tmp 11) 22 2 (.int .i64 0) 8 rfl Try.underlying22 info2 rfl (by decide) (by omega) v130 y129 l0 _ _ _ (fun _=>True) (fun _=>False) rfl rfl ?aO ?aR (fun _ _ h=>h) (fun _ h=>h.elim) ?aF ?aB ?aS ?aL ?_
   (case aR=>repeat (first|exact (Kd.C_below HR0.out HB.out)|(with_reducible refine Kd.C_alloc ?_ _)|(with_reducible refine Kd.C_drewN ?_ _)|(with_reducible refine Kd.C_drew ?_)))
   (case aB=>exact (by repeat (first|(with_reducible first|exact HB.out|apply ze|apply zd|apply zf)|exact HB.out)))
   (case aF=>exact (fun _ _=>trivial))
   (case aO=>exact (by (with_reducible repeat (first|apply zo|apply zp|apply zq));exact HO131.out))
   (case aS=>exact (zE (by repeat (first|(with_reducible first|exact HB.out|apply ze|apply zd|apply zf)|exact HB.out))))
   (case aL=>have:=LMc4.out;omega)
   intro v133 w9 ho hb hg hat
   rw [← Ny132.out] at ho
   have n0_:=zm (hb);have n1_:=zm (ho);clear HB;clear HO131;have HB:=n0_;have HO134:=n1_;clear n0_ n1_;clear ho hb hg hat
   obtain ⟨Ao10,co10,eo10⟩:=Kd.R_slice HO134.out
   (first|subst eo10|(injection eo10 with f1_ f2_ f3_;have f4_:=f1_.symm;have f5_:=f3_.symm;clear f1_ f2_ f3_;subst f4_;subst f5_))
   refine hK.out _ _ ((HB.out.cell (zb W0 _ hcW)).trans hcW) (fun hHeld => ?_)
   clear hK K
   refine norm_ (a' := ?_) ?_ ?_
   rotate_left
   ·
    show Act.put _ (some 12) _=_
    simp only [Act.put,List.setIfInBounds_toArray,List.set_cons_zero,List.set_cons_succ,i64_w,i32_w]
    rfl
   refine one_ (i:=4) (N:=some 13) #[true,true,true,true,true,false,false] rfl rfl (by kernel_rfl) (by decide) (fun K hK => ?_)
   refine call_ 18 #[.slice Ao10 y132.length co10, .pointer (some ⟨w.heap.size,0,none⟩)] (by rfl) rfl ?hrun ?_
   (case hrun =>
    have he:=fun W=>enters_ Try.func18 (by kernel_rfl) rfl #[.slice Ao10 y132.length co10, .pointer (some ⟨w.heap.size,0,none⟩)] W
    unfold execOp
    simp [resolve,Deferred.ofValue,invoke,Act.eval,he])
   with_reducible refine (wave_Level.calls w.heap.size k _ _ y132 0 t135 _ ?side1 ?side2 ?side3 A5.out).mono ?_
   (case side1=>repeat (first|exact (Kd.R_reads' HO134.out).2.2|(with_reducible refine Kd.C_alloc ?_ _)|(with_reducible refine Kd.C_drewN ?_ _)|(with_reducible refine Kd.C_drew ?_)))
   (case side2=>exact (Kd.R_reads' HO134.out).2.1)
   (case side3=>exact ((HB.out.cell (zb W0 _ hcW)).trans hcW))
   rintro e w11 ⟨v136,rfl,ho0,hb⟩
   refine ⟨_,rfl, ?_⟩
   have n0_:=zm (Kd.R_elder' (by (with_reducible repeat (first|apply zo|apply zp|apply zq));exact HO134.out) (Kd.R_base ho0) hb)
   have n1_:=zm (Kd.R_lower (Kd.R_new' ho0 (Kd.R_lt (by (with_reducible repeat (first|apply zo|apply zp|apply zq));exact HO134.out))) (zE (by repeat (first|(with_reducible first|exact HB.out|apply ze|apply zd|apply zf)|exact HB.out))))
   have n2_:=zm (zJ (by repeat (first|(with_reducible first|exact HB.out|apply ze|apply zd|apply zf)|exact HB.out)) hb)
   clear HO134;clear HB;have HO134:=n0_;have HO137:=n1_;have HB:=n2_;clear n0_ n1_ n2_
   (try clear hb)
   (try clear hb2)
   (try clear hk)
   (try clear hi)
   (try clear ho0)
   refine hK.out _ _ ((HB.out.cell (zb W0 _ hcW)).trans hcW) (fun hHeld => ?_)
   clear hK K
   refine norm_ (a' := ?_) ?_ ?_
   rotate_left
   ·
    show Act.put _ (some 13) _=_
    simp only [Act.put,List.setIfInBounds_toArray,List.set_cons_zero,List.set_cons_succ,i64_w,i32_w]
    rfl
   refine pure_ (i:=5) (N:=some 2) (v := ?_) (a' := ?_) #[true,true,true,true,true,true,false] rfl rfl (by kernel_rfl) (fun _ _ _ h=>h) (Or.inl ⟨by rfl, ?_⟩) ?_ ?_
   rotate_left
   ·
    intro w'
    go_simp
    with_reducible rfl
   rotate_left
   ·
    simp only [Act.put,List.setIfInBounds_toArray,List.set_cons_zero,List.set_cons_succ,i64_w,i32_w]
    rfl
   refine pure_ (i:=6) (N:=some 3) (v := ?_) (a' := ?_) #[true,true,true,true,true,true,true] rfl rfl (by kernel_rfl) (fun _ _ _ h=>h) (Or.inl ⟨by rfl, ?_⟩) ?_ ?_
   rotate_left
   ·
    intro w'
    go_simp
    with_reducible rfl
   rotate_left
   ·
    simp only [Act.put,List.setIfInBounds_toArray,List.set_cons_zero,List.set_cons_succ,i64_w,i32_w]
    rfl
   refine done_ (by kernel_rfl) ?_
   try go_wp2
   go_ret2
   exact ⟨_,by first|rfl|(simp [errW_none,errW_some] <;> rfl)|(simp [*,errW_none,errW_some] <;> rfl),Kd.R_lower (by (with_reducible repeat (first|apply zo|apply zp|apply zq));exact zG HO137.out (fun _ hk=>trivial)) (zE hb0),zJ hb0 (by repeat (first|(with_reducible first|exact HB.out|apply ze|apply zd|apply zf)|exact HB.out))⟩
  ·
   rw [if_neg c4] at H
   exact absurd H (by simp)
 ·
  replace c3:=Bool.eq_false_iff.mpr c3
  subst c3
  have H1 : (some (([] : List Int),1))=some (r1,r2):=by rw [if_neg (show ¬ (false=true) by decide)] at H;exact H
  clear H;have H:=H1;clear H1
  simp only [Option.some.injEq,Prod.mk.injEq] at H
  obtain ⟨rfl,rfl⟩:=H
  go_enter Try.func11,Try.ntmps11
  go_wp2_with (first|((with_reducible refine gate_callee (f:=13) rfl ?_);refine goesL_ (some 6) rfl rfl Try.func13 (by kernel_rfl) rfl #[.slice A0 l0.length c0] rfl (by (try simp only [List.map_toArray,List.map_cons,List.map_nil]);first|done|rfl|(simp only [List.length_drop,List.length_take];rfl)) ?_;(with_reducible refine (wave_Right.calls k _ _ l0 false _ ?side1 ?side2 A2.out).mono ?_);(case side1=>repeat (first|exact HR0.out|(with_reducible refine Kd.C_alloc ?_ _)|(with_reducible refine Kd.C_drewN ?_ _)|(with_reducible refine Kd.C_drew ?_)));(case side2=>exact HC0.out);rintro e w' ⟨rfl,⟨nd,rfl⟩⟩;refine ⟨_,rfl, ?_⟩))
  go_ret2
  exact ⟨_,by first|rfl|(simp [errW_none,errW_some] <;> rfl)|(simp [*,errW_none,errW_some] <;> rfl),by first|exact Kd.R_nil _ _ _ _ _|exact Kd.N_nil _ _ _ _ _|exact Kd.V_nil _ _ _ _ _|exact Kd.Q_nil _ _ _ _ _|exact Kd.S_nil _ _ _ _ _,by repeat (first|(with_reducible first|exact HB.out|apply ze|apply zd|apply zf)|exact HB.out)⟩

end Go.Proofs.Ytiikcnbfdnadfaa.Prt

namespace Go.Proofs.Ytiikcnbfdnadfaa.Prt
open Go.RowKit Go.Proofs.YtiikcnbfdnadfaaW.PrintWords Go.Proofs.YtiikcnbfdnadfaaW.PrintLast Go.Proofs.YtiikcnbfdnadfaaW.PrintMore
attribute [local go_sem] max2_int min2_int max_two min_two max_three min_three max_four min_four   -- for this text's walks alone
set_option linter.unusedVariables false
set_option linter.unusedSimpArgs false

/-! ### wave_Inverse: function 16 -/
mutual
def wave_Inverse.l0 : Nat→List Int→List Int→Option (List Int × Int)
 | 0,_,_=>none
 | k+1,x0,x4=>if (x4.length : Int) < (x0.length : Int) then (if 0≤(x4.length : Int) then (if (x4.length : Int)≤(wrap64 (2 * (x4.length : Int))) then (if (wrap64 (2 * (x4.length : Int)))≤(x0.length : Int) then (wave_Inverse.l1 k x0 ((x0.take ((wrap64 (2 * (x4.length : Int))) : Int).toNat).drop ((x4.length : Int) : Int).toNat) ([] : List Int) x4 (x4.length : Int) 0) else (none)) else (none)) else (none)) else (some (x4,0))
def wave_Inverse.l1 : Nat→List Int→List Int→List Int→List Int→Int→Int→Option (List Int × Int)
 | 0,_,_,_,_,_,_=>none
 | k+1,x0,x5,x6,x29,x30,x31=>if x31 < x30 then (if 0≤x31 then (if x31 < (x29.length : Int) then (if x31 < (x5.length : Int) then ((wave_half.f (rd x5 x31)).bind fun t148=>((some (([wrap64 ((rd x29 x31) - t148),wrap64 ((wrap64 ((rd x29 x31) - t148))+(rd x5 x31))] : List Int) : List Int)).bind fun y150=>(if x6.length+y150.length < 17592186044416 then (wave_Inverse.l1 k x0 x5 (x6 ++ y150) x29 x30 (wrap64 (x31+1))) else (none)))) else (none)) else (none)) else (none)) else (wave_Inverse.l0 k x0 x6)
end
def wave_Inverse.f (k : Nat) (l0 : List Int) : Option (List Int × Int):=(wave_sized.f k l0 67108864).bind fun t140=>(if t140=true then (if 0 < (l0.length : Int) then (wave_Inverse.l0 k l0 (([rd l0 0] : List Int))) else (none)) else (some (([] : List Int),1)))
theorem wave_Inverse.mono_l : ∀ k,(∀ y0 y1,LeO (wave_Inverse.l0 k y0 y1) (wave_Inverse.l0 (k+1) y0 y1))∧(∀ y0 y1 y2 y3 y4 y5,LeO (wave_Inverse.l1 k y0 y1 y2 y3 y4 y5) (wave_Inverse.l1 (k+1) y0 y1 y2 y3 y4 y5))
 | 0=>⟨fun _ _ r h=>by simp [wave_Inverse.l0] at h,fun _ _ _ _ _ _ r h=>by simp [wave_Inverse.l1] at h⟩
 | k+1=>by
  obtain ⟨ih0,ih1⟩:=wave_Inverse.mono_l k
  refine ⟨?_, ?_⟩
  ·
   intro y0 y1
   unfold wave_Inverse.l0
   repeat' first
   | (with_reducible exact ih0 _ _)
   | (with_reducible exact ih1 _ _ _ _ _ _)
   | (with_reducible exact wave_sized.mono _ _ _)
   | (with_reducible exact LeO.refl _)
   | (with_reducible exact LeO.none _)
   | (with_reducible refine LeO.ite ?_ ?_)
   | (with_reducible refine LeO.bind ?_ (fun _ => ?_))
   | exact ih0 _ _
   | exact ih1 _ _ _ _ _ _
   | exact wave_sized.mono _ _ _
   | exact LeO.none _
   | refine LeO.ite ?_ ?_
   | refine LeO.bind ?_ (fun _ => ?_)
  ·
   intro y0 y1 y2 y3 y4 y5
   unfold wave_Inverse.l1
   repeat' first
   | (with_reducible exact ih0 _ _)
   | (with_reducible exact ih1 _ _ _ _ _ _)
   | (with_reducible exact wave_sized.mono _ _ _)
   | (with_reducible exact LeO.refl _)
   | (with_reducible exact LeO.none _)
   | (with_reducible refine LeO.ite ?_ ?_)
   | (with_reducible refine LeO.bind ?_ (fun _ => ?_))
   | exact ih0 _ _
   | exact ih1 _ _ _ _ _ _
   | exact wave_sized.mono _ _ _
   | exact LeO.none _
   | refine LeO.ite ?_ ?_
   | refine LeO.bind ?_ (fun _ => ?_)
theorem wave_Inverse.mono : ∀ a0 k,LeO (wave_Inverse.f k a0) (wave_Inverse.f (k+1) a0):=by
 intro a0 k
 obtain ⟨ih0,ih1⟩:=wave_Inverse.mono_l k
 unfold wave_Inverse.f
 repeat' first
   | (with_reducible exact ih0 _ _)
   | (with_reducible exact ih1 _ _ _ _ _ _)
   | (with_reducible exact wave_sized.mono _ _ _)
   | (with_reducible exact LeO.refl _)
   | (with_reducible exact LeO.none _)
   | (with_reducible refine LeO.ite ?_ ?_)
   | (with_reducible refine LeO.bind ?_ (fun _ => ?_))
   | exact ih0 _ _
   | exact ih1 _ _ _ _ _ _
   | exact wave_sized.mono _ _ _
   | exact LeO.none _
   | refine LeO.ite ?_ ?_
   | refine LeO.bind ?_ (fun _ => ?_)
set_option maxHeartbeats 8000000 in
set_option maxRecDepth 100000 in
theorem wave_Inverse.calls (k : Nat) (A0 : Option Addr) (c0 : Nat) (l0 : List Int) (r1 : List Int) (r2 : Int) (w : World) (hr0 : Kd.C (Kd.int .i64) w A0 l0.length l0) (hc0 : l0.length≤c0) (h : wave_Inverse.f k l0=some (r1,r2)) :
  Calls Try.prog 16 #[.slice A0 l0.length c0] w fun e w' => ∃ v0_ : Value,e=.returned (.tuple #[v0_, .int .i64 r2])∧Kd.R (Kd.int .i64) 2 w' w.heap.size (fun _=>True) v0_ r1∧Below w.heap.size w w' := by
 have HR0:=zm hr0;have HC0:=zm hc0;clear hr0 hc0;have HB:=zm (Below.refl w.heap.size w)
 have H : ((wave_sized.f k l0 67108864).bind fun t140=>(if t140=true then (if 0 < (l0.length : Int) then (wave_Inverse.l0 k l0 (([rd l0 0] : List Int))) else (none)) else (some (([] : List Int),1))))=some (r1,r2):=h
 clear h
 replace H:=Option.bind_eq_some_iff.mp H
 obtain ⟨t140,A20,H⟩:=H
 replace H : (if t140=true then (if 0 < (l0.length : Int) then (wave_Inverse.l0 k l0 (([rd l0 0] : List Int))) else (none)) else (some (([] : List Int),1)))=some (r1,r2):=H
 have A2:=zm A20;clear A20
 by_cases c3 : t140=true
 ·
  subst c3
  have H1 : (if 0 < (l0.length : Int) then (wave_Inverse.l0 k l0 (([rd l0 0] : List Int))) else (none))=some (r1,r2):=by rw [if_pos rfl] at H;exact H
  clear H;have H:=H1;clear H1
  by_cases c4 : 0 < (l0.length : Int)
  ·
   rw [if_pos c4] at H
   have c4b0 : decide (0 < (l0.length : Int))=true:=decide_eq_true c4
   have c4b1 : decide (0 < l0.length)=true:=decide_eq_true (by omega)
   clear c4
   obtain ⟨y142,hy142⟩ : ∃ y_ : List Int,y_=(([rd l0 0] : List Int)):=⟨_,rfl⟩
   replace H : (wave_Inverse.l0 k l0 y142)=some (r1,r2):=by first|(rw [hy142];with_reducible exact H)|(have H2_:=(Option.bind_some _ _).symm.trans H;rw [hy142];with_reducible exact H2_)|(have H2_:=(Option.bind_some _ _).symm.trans H;with_reducible exact H2_)|with_reducible exact H|(rw [hy142];exact H)|exact H
   have Ny142:=zm hy142;clear hy142
   have H' := zm H
   clear H
   go_enter Try.func16,Try.ntmps16
   go_wp2_with (first|((with_reducible refine gate_callee (f:=20) rfl ?_);refine goesL_ (some 11) rfl rfl Try.func20 (by kernel_rfl) rfl #[.slice A0 l0.length c0, .int .i64 67108864] rfl (by (try simp only [List.map_toArray,List.map_cons,List.map_nil]);first|done|rfl|(simp only [List.length_drop,List.length_take];rfl)) ?_;(with_reducible refine (wave_sized.calls k _ _ l0 67108864 true _ ?side1 ?side2 A2.out).mono ?_);(case side1=>repeat (first|exact HR0.out|(with_reducible refine Kd.C_alloc ?_ _)|(with_reducible refine Kd.C_drewN ?_ _)|(with_reducible refine Kd.C_drew ?_)));(case side2=>exact HC0.out);rintro e w' ⟨rfl,⟨nd,rfl⟩⟩;refine ⟨_,rfl, ?_⟩;have p141 : 0≤(0 : Int):=(by omega);have q141 : 0 < (l0.length : Int):=of_decide_eq_true (by first|(with_reducible assumption)|assumption);obtain ⟨ad141,e141,hx141_0⟩:=Kd.at_int HR0.out 0 p141 q141;cases e141;have qi141 : (0 < l0.length)=True:=eq_true (by omega);(try rw [show ((0 : Int)).toNat=0 from rfl] at hx141_0);(try rw [Addr.add_zero'] at hx141_0);replace p141:=eq_true p141;replace q141:=eq_true q141)|((with_reducible refine gate_dst (N:=16) rfl ?_);refine Kd.R_lit (Kd.int .i64) _ 2 ?hg (N:=16) ?hd (xs:=([rd l0 0] : List Int)) (inner := [.int .i64 (rd l0 0)]) (ok:=fun _=>True) (okp:=fun _=>True) ?hr ?hp (fun _ hk=>hk) trivial (Below.refl _ _) (Nat.le_refl _) (by simp) ?_;(case hd=>rfl);(case hg=>rfl);(case hr=>first|(go_simp;done)|(go_simp;rfl));(case hp=>exact (Reps.one (show Kd.M (Kd.int .i64) _ _ _ (rd l0 0) [.int .i64 (rd l0 0)] from rfl) (Reps.none _ _)));intro v143 w5 ho6 hb hg_ hnew_;clear hg_ hnew_;(first|rw [← Ny142.out] at ho6|(simp only [Int.reduceToNat] at ho6;rw [← Ny142.out] at ho6));have n0_:=zm (Kd.R_lower ho6 (zE (by repeat (first|(with_reducible first|exact HB.out|apply ze|apply zd|apply zf)|exact HB.out))));have n1_:=zm (zJ (by repeat (first|(with_reducible first|exact HB.out|apply ze|apply zd|apply zf)|exact HB.out)) hb);clear HB;have HO144:=n0_;have HB:=n1_;clear n0_ n1_;clear hb ho6))
   go_loopg [4] k (fun kq v4 w' => ∃ (x4_1 : List Int),Aside0 (wave_Inverse.l0 kq l0 x4_1=some (r1,r2))∧Aside0 (kq≤k)∧Aside0 (Kd.R (Kd.int .i64) 2 w' w.heap.size (fun _=>True) v4 x4_1)∧Aside0 (Below w.heap.size w w'))
   case atStart=>exact ⟨(y142),H',⟨Nat.le_refl _⟩,⟨by (with_reducible repeat (first|apply zo|apply zp|apply zq));exact HO144.out⟩,⟨by repeat (first|(with_reducible first|exact HB.out|apply ze|apply zd|apply zf)|exact HB.out)⟩⟩
   case round =>
    clear H'
    try clear c1
    try clear p1
    try clear q1
    try clear hx1
    try clear qi1
    try clear c2
    try clear p2
    try clear c3
    try clear c4
    try clear c4b0
    try clear c4b1
    try clear hx141_0
    try clear p141
    try clear q141
    obtain ⟨x4_1,HA,HK1,HO_4,HB⟩:=hrel
    cases gk with
    | zero=>exact absurd HA.out (by simp [wave_Inverse.l0])
    | succ k1 =>
     have H:=HA.out;clear HA
     simp only [wave_Inverse.l0] at H
     by_cases c7 : (x4_1.length : Int) < (l0.length : Int)
     ·
      rw [if_pos c7] at H
      have c7b0 : decide ((x4_1.length : Int) < (l0.length : Int))=true:=decide_eq_true c7
      have c7b1 : decide (x4_1.length < l0.length)=true:=decide_eq_true (Int.ofNat_lt.mp c7)
      clear c7
      by_cases c8 : 0≤(x4_1.length : Int)
      ·
       rw [if_pos c8] at H
       have c8b0:=eq_true c8
       have c8b1 : decide (0≤(x4_1.length : Int))=true:=decide_eq_true c8
       clear c8
       by_cases c9 : (x4_1.length : Int)≤(wrap64 (2 * (x4_1.length : Int)))
       ·
        rw [if_pos c9] at H
        have c9b0:=eq_true c9
        have c9b1 : decide ((x4_1.length : Int)≤(wrap64 (2 * (x4_1.length : Int))))=true:=decide_eq_true c9
        clear c9
        by_cases c10 : (wrap64 (2 * (x4_1.length : Int)))≤(l0.length : Int)
        ·
         rw [if_pos c10] at H
         have c10b0:=eq_true c10
         have c10b1 : decide ((wrap64 (2 * (x4_1.length : Int)))≤(l0.length : Int))=true:=decide_eq_true c10
         clear c10
         have H' := zm H
         clear H
         obtain ⟨Ao11,co11,eo11⟩:=Kd.R_slice HO_4.out
         subst eo11
         obtain ⟨i012,hi012,_,hsz12,_⟩:=info_parts info2
         obtain ⟨A12,hcut12,hA12,hC12⟩:=print_mid_of (P:=Try.prog) (Value.int .i64) 0 22 2 .i64 .i64 Try.underlying22 hi012 hsz12 (some ad141) c0 l0 (x4_1.length : Int) (wrap64 (2 * (x4_1.length : Int))) (of_decide_eq_true (by first|(with_reducible assumption)|assumption)) (by first|omega|exact of_decide_eq_true (by first|(with_reducible assumption)|assumption)) (of_decide_eq_true (by first|(with_reducible assumption)|assumption)) HC0.out
         have HR145:=zm (Kd.C_of_reads (h1:=fun _=>rfl) (hA12 _ (Kd.reads_of_C HR0.out)))
         have HC145:=zm hC12;clear hA12 hC12 hi012 hsz12
         generalize hDD_ : ((l0.take ((wrap64 (2 * (x4_1.length : Int))) : Int).toNat).drop ((x4_1.length : Int) : Int).toNat)=DD_ at hcut12 HR145 HC145 H'
         clear hDD_
         go_wp2
         go_loopg [6,31] k1 (fun kq v6 v31 w' => ∃ (x6_2 : List Int) (x31_2 : Int),v31=.int .i64 x31_2∧Aside0 (wave_Inverse.l1 kq l0 DD_ x6_2 x4_1 (x4_1.length : Int) x31_2=some (r1,r2))∧Aside0 (kq≤k1)∧Aside0 (Kd.R (Kd.int .i64) 2 w' w.heap.size (fun k_=>some k_≠((.slice Ao11 x4_1.length co11) : Value).ownBlock) v6 x6_2)∧Aside0 (Kd.R (Kd.int .i64) 2 w' w.heap.size (fun k_=>some k_≠(v6 : Value).ownBlock) (.slice Ao11 x4_1.length co11) x4_1)∧Aside0 (Below w.heap.size w w'))
         case atStart=>exact ⟨(([] : List Int)),(0),(by first|rfl|(simp;done)|(simp [*];done)),H',⟨Nat.le_refl _⟩,⟨by first|exact Kd.R_nil _ _ _ _ _|exact Kd.N_nil _ _ _ _ _|exact Kd.V_nil _ _ _ _ _|exact Kd.Q_nil _ _ _ _ _|exact Kd.S_nil _ _ _ _ _⟩,⟨by (with_reducible repeat (first|apply zo|apply zp|apply zq));exact zG HO_4.out (fun _ hk=>(by simp [Value.ownBlock]))⟩,⟨by repeat (first|(with_reducible first|exact HB.out|apply ze|apply zd|apply zf)|exact HB.out)⟩⟩
         case round =>
          clear H'
          try clear c1
          try clear p1
          try clear q1
          try clear hx1
          try clear qi1
          try clear c2
          try clear p2
          try clear c3
          try clear c4
          try clear c4b0
          try clear c4b1
          try clear p6
          try clear c7
          try clear c7b0
          try clear c7b1
          try clear c8
          try clear c8b0
          try clear c8b1
          try clear c9
          try clear c9b0
          try clear c9b1
          try clear c10
          try clear c10b0
          try clear c10b1
          try clear hx141_0
          try clear p1
          try clear p141
          try clear p2
          try clear q1
          try clear q141
          obtain ⟨x6_2,x31_2,rfl,HA,HK2,HO_6,HO_29,HB⟩:=hrel
          cases gk with
          | zero=>exact absurd HA.out (by simp [wave_Inverse.l1])
          | succ k2 =>
           have H:=HA.out;clear HA
           simp only [wave_Inverse.l1] at H
           by_cases c13 : x31_2 < (x4_1.length : Int)
           ·
            rw [if_pos c13] at H
            have c13b0 : decide (x31_2 < (x4_1.length : Int))=true:=decide_eq_true c13
            clear c13
            by_cases c14 : 0≤x31_2
            ·
             rw [if_pos c14] at H
             have c14b0 : decide (0≤x31_2)=true:=decide_eq_true c14
             clear c14
             by_cases c15 : x31_2 < (x4_1.length : Int)
             ·
              rw [if_pos c15] at H
              have c15b0 : decide (x31_2 < (x4_1.length : Int))=true:=decide_eq_true c15
              clear c15
              by_cases c16 : x31_2 < (DD_.length : Int)
              ·
               rw [if_pos c16] at H
               have c16b0 : decide (x31_2 < (DD_.length : Int))=true:=decide_eq_true c16
               clear c16
               replace H:=Option.bind_eq_some_iff.mp H
               obtain ⟨t148,A170,H⟩:=H
               replace H : ((some (([wrap64 ((rd x4_1 x31_2) - t148),wrap64 ((wrap64 ((rd x4_1 x31_2) - t148))+(rd DD_ x31_2))] : List Int) : List Int)).bind fun y150=>(if x6_2.length+y150.length < 17592186044416 then (wave_Inverse.l1 k2 l0 DD_ (x6_2 ++ y150) x4_1 (x4_1.length : Int) (wrap64 (x31_2+1))) else (none)))=some (r1,r2):=H
               have A17:=zm A170;clear A170
               obtain ⟨y150,hy150⟩ : ∃ y_ : List Int,y_=(([wrap64 ((rd x4_1 x31_2) - t148),wrap64 ((wrap64 ((rd x4_1 x31_2) - t148))+(rd DD_ x31_2))] : List Int)):=⟨_,rfl⟩
               replace H : (if x6_2.length+y150.length < 17592186044416 then (wave_Inverse.l1 k2 l0 DD_ (x6_2 ++ y150) x4_1 (x4_1.length : Int) (wrap64 (x31_2+1))) else (none))=some (r1,r2):=by first|(rw [hy150];with_reducible exact H)|(have H2_:=(Option.bind_some _ _).symm.trans H;rw [hy150];with_reducible exact H2_)|(have H2_:=(Option.bind_some _ _).symm.trans H;with_reducible exact H2_)|with_reducible exact H|(rw [hy150];exact H)|exact H
               have Ny150:=zm hy150;clear hy150
               by_cases c18 : x6_2.length+y150.length < 17592186044416
               ·
                rw [if_pos c18] at H
                have LMc18:=zm c18;clear c18
                obtain ⟨y153,hy153⟩ : ∃ y_ : List Int,y_=(x6_2 ++ y150):=⟨_,rfl⟩
                replace H : (wave_Inverse.l1 k2 l0 DD_ y153 x4_1 (x4_1.length : Int) (wrap64 (x31_2+1)))=some (r1,r2):=by first|(rw [hy153];with_reducible exact H)|(have H2_:=(Option.bind_some _ _).symm.trans H;rw [hy153];with_reducible exact H2_)|(have H2_:=(Option.bind_some _ _).symm.trans H;with_reducible exact H2_)|with_reducible exact H|(rw [hy153];exact H)|exact H
                have Ny153:=zm hy153;clear hy153
                have H' := zm H
                clear H
                have p146 : 0≤(x31_2 : Int):=of_decide_eq_true (by first|(with_reducible assumption)|assumption)
                have q146 : x31_2 < (x4_1.length : Int):=of_decide_eq_true (by first|(with_reducible assumption)|assumption)
                obtain ⟨ad146,e146,hx146_0⟩:=Kd.at_int (Kd.R_reads' HO_29.out).2.2 x31_2 p146 q146
                cases e146
                replace p146:=eq_true p146
                replace q146:=eq_true q146
                have p147 : 0≤(x31_2 : Int):=of_decide_eq_true (by first|(with_reducible assumption)|assumption)
                have q147 : x31_2 < (DD_.length : Int):=of_decide_eq_true (by first|(with_reducible assumption)|assumption)
                obtain ⟨ad147,e147,hx147_0⟩:=Kd.at_int HR145.out x31_2 p147 q147
                cases e147
                replace hx147_0:=(HB.out.cell (zb w _ hx147_0)).trans hx147_0
                replace p147:=eq_true p147
                replace q147:=eq_true q147
                go_wp2_with (first|((with_reducible refine gate_callee (f:=19) rfl ?_);refine goesL_ (some 41) rfl rfl Try.func19 (by kernel_rfl) rfl #[.int .i64 (rd DD_ x31_2)] rfl (by (try simp only [List.map_toArray,List.map_cons,List.map_nil]);first|done|rfl|(simp only [List.length_drop,List.length_take];rfl)) ?_;(with_reducible refine (wave_half.calls (rd DD_ x31_2) t148 _ A17.out).mono ?_);rintro e w' ⟨rfl,⟨nd,rfl⟩⟩;refine ⟨_,rfl, ?_⟩;have p149 : 0≤(x31_2 : Int):=of_decide_eq_true (by first|(with_reducible assumption)|assumption);have q149 : x31_2 < (DD_.length : Int):=of_decide_eq_true (by first|(with_reducible assumption)|assumption);obtain ⟨ad149,e149,hx149_0⟩:=Kd.at_int HR145.out x31_2 p149 q149;obtain rfl : ad147=ad149:=(by injection e149);replace hx149_0:=(HB.out.cell (zb w _ hx149_0)).trans hx149_0;replace p149:=eq_true p149;replace q149:=eq_true q149)|((with_reducible refine gate_dst (N:=51) rfl ?_);refine Kd.R_lit (Kd.int .i64) _ 2 ?hg (N:=51) ?hd (xs:=([wrap64 ((rd x4_1 x31_2) - t148),wrap64 ((wrap64 ((rd x4_1 x31_2) - t148))+(rd DD_ x31_2))] : List Int)) (inner := [.int .i64 (wrap64 ((rd x4_1 x31_2) - t148)), .int .i64 (wrap64 ((wrap64 ((rd x4_1 x31_2) - t148))+(rd DD_ x31_2)))]) (ok:=fun _=>True) (okp:=fun _=>True) ?hr ?hp (fun _ hk=>hk) trivial (Below.refl _ _) (Nat.le_refl _) (by simp) ?_;(case hd=>rfl);(case hg=>rfl);(case hr=>first|(go_simp;done)|(go_simp;rfl));(case hp=>exact (Reps.one (show Kd.M (Kd.int .i64) _ _ _ (wrap64 ((rd x4_1 x31_2) - t148)) [.int .i64 (wrap64 ((rd x4_1 x31_2) - t148))] from rfl) (Reps.one (show Kd.M (Kd.int .i64) _ _ _ (wrap64 ((wrap64 ((rd x4_1 x31_2) - t148))+(rd DD_ x31_2))) [.int .i64 (wrap64 ((wrap64 ((rd x4_1 x31_2) - t148))+(rd DD_ x31_2)))] from rfl) (Reps.none _ _))));intro v151 w19 ho20 hb hg_ hnew_;clear hg_ hnew_;(first|rw [← Ny150.out] at ho20|(simp only [Int.reduceToNat] at ho20;rw [← Ny150.out] at ho20));have n0_:=zm (Kd.R_elder' (by (with_reducible repeat (first|apply zo|apply zp|apply zq));exact HO_6.out) (Kd.R_base ho20) hb);have n1_:=zm (Kd.R_elder' (by (with_reducible repeat (first|apply zo|apply zp|apply zq));exact HO_29.out) (Kd.R_base ho20) hb);have n2_:=zm (Kd.R_lower (Kd.R_new' (Kd.R_new' ho20 (Kd.R_lt (by (with_reducible repeat (first|apply zo|apply zp|apply zq));exact HO_6.out))) (Kd.R_lt (by (with_reducible repeat (first|apply zo|apply zp|apply zq));exact HO_29.out))) (zE (by repeat (first|(with_reducible first|exact HB.out|apply ze|apply zd|apply zf)|exact HB.out))));have n3_:=zm (zJ (by repeat (first|(with_reducible first|exact HB.out|apply ze|apply zd|apply zf)|exact HB.out)) hb);clear HO_6;clear HO_29;clear HB;have HO_6:=n0_;have HO_29:=n1_;have HO152:=n2_;have HB:=n3_;clear n0_ n1_ n2_ n3_;clear hb ho20;obtain ⟨Ao22,co22,eo22⟩:=Kd.R_slice HO152.out;subst eo22)|((with_reducible refine gate_builtin (b:=.append) (xs := #[.tmp 43, .tmp 51]) rfl ?_);at_builtin;refine Kd.R_append_rows (Kd.int .i64) (w0:=w) w.heap.size rfl (.tmp 43) (.tmp 51) 22 2 (.int .i64 0) 8 rfl Try.underlying22 info2 rfl (by decide) (by omega) u6 x6_2 y150 _ _ _ (fun k_=>some k_≠(.slice (some ad146) x4_1.length co11 : Value).ownBlock∧some k_≠(.slice Ao22 y150.length co22 : Value).ownBlock) (fun _=>False) rfl rfl ?aO ?aR (fun _ _ h=>h) (fun _ h=>h.elim) ?aF ?aB ?aS ?aL ?_;(case aR=>repeat (first|exact (Kd.R_reads' HO152.out).2.2|(with_reducible refine Kd.C_alloc ?_ _)|(with_reducible refine Kd.C_drewN ?_ _)|(with_reducible refine Kd.C_drew ?_)));(case aB=>exact (by repeat (first|(with_reducible first|exact HB.out|apply ze|apply zd|apply zf)|exact HB.out)));(case aF=>exact (fun k_ hk=>⟨Kd.fresh' (Kd.R_lt (by (with_reducible repeat (first|apply zo|apply zp|apply zq));exact HO_29.out)) k_ hk,Kd.fresh' (Kd.R_lt (by (with_reducible repeat (first|apply zo|apply zp|apply zq));exact HO152.out)) k_ hk⟩));(case aO=>exact (by (with_reducible repeat (first|apply zo|apply zp|apply zq));exact HO_6.out));(case aS=>exact (zE (by repeat (first|(with_reducible first|exact HB.out|apply ze|apply zd|apply zf)|exact HB.out))));(case aL=>have:=LMc18.out;omega);intro v154 w21 ho hb hg hat;rw [← Ny153.out] at ho;have n0_:=zm (Kd.R_after (ok:=(fun k_=>some k_≠(.slice Ao22 y150.length co22 : Value).ownBlock)) (by (with_reducible repeat (first|apply zo|apply zp|apply zq));exact zG HO_29.out (fun _ hk=>⟨hk.2,hk.1⟩)) hg hat);have n1_:=zm (Kd.R_after (ok:=(fun k_=>some k_≠(.slice (some ad146) x4_1.length co11 : Value).ownBlock)) (by (with_reducible repeat (first|apply zo|apply zp|apply zq));exact zG HO152.out (fun _ hk=>⟨hk.2,hk.1.2⟩)) hg hat);have n2_:=zm (hb);have n3_:=zm (ho);clear HO_29;clear HO152;clear HB;clear HO_6;have HO_29:=n0_;have HO152:=n1_;have HB:=n2_;have HO155:=n3_;clear n0_ n1_ n2_ n3_;clear ho hb hg hat))
                go_roundg k2
                case measure=>have:=HK1.out;have:=HK2.out;omega
                case rel=>exact ⟨(y153),(wrap64 (x31_2+1)),(by first|rfl|(simp;done)|(simp [*];done)),H',⟨by have:=HK1.out;have:=HK2.out;omega⟩,⟨by (with_reducible repeat (first|apply zo|apply zp|apply zq));exact zG HO155.out (fun _ hk=>hk.1)⟩,⟨by (with_reducible repeat (first|apply zo|apply zp|apply zq));exact zG HO_29.out (fun _ hk=>hk.2)⟩,⟨by repeat (first|(with_reducible first|exact HB.out|apply ze|apply zd|apply zf)|exact HB.out)⟩⟩
               ·
                rw [if_neg c18] at H
                exact absurd H (by simp)
              ·
               rw [if_neg c16] at H
               exact absurd H (by simp)
             ·
              rw [if_neg c15] at H
              exact absurd H (by simp)
            ·
             rw [if_neg c14] at H
             exact absurd H (by simp)
           ·
            rw [if_neg c13] at H
            have c13b0 : decide (x31_2 < (x4_1.length : Int))=false:=decide_eq_false c13
            clear c13
            have H' := zm H
            clear H
            go_wp2
            go_roundg k2
            case measure=>have:=HK1.out;have:=HK2.out;omega
            case rel=>exact ⟨(x6_2),H',⟨by have:=HK1.out;have:=HK2.out;omega⟩,⟨by (with_reducible repeat (first|apply zo|apply zp|apply zq));exact zG HO_6.out (fun _ hk=>trivial)⟩,⟨by repeat (first|(with_reducible first|exact HB.out|apply ze|apply zd|apply zf)|exact HB.out)⟩⟩
        ·
         rw [if_neg c10] at H
         exact absurd H (by simp)
       ·
        rw [if_neg c9] at H
        exact absurd H (by simp)
      ·
       rw [if_neg c8] at H
       exact absurd H (by simp)
     ·
      rw [if_neg c7] at H
      have c7b0 : decide ((x4_1.length : Int) < (l0.length : Int))=false:=decide_eq_false c7
      have c7b1 : decide (x4_1.length < l0.length)=false:=decide_eq_false (fun h=>c7 (Int.ofNat_lt.mpr h))
      clear c7
      simp only [Option.some.injEq,Prod.mk.injEq] at H
      obtain ⟨rfl,rfl⟩:=H
      obtain ⟨Ao23,co23,eo23⟩:=Kd.R_slice HO_4.out
      subst eo23
      go_wp2
      go_ret2
      exact ⟨_,by first|rfl|(simp [errW_none,errW_some] <;> rfl)|(simp [*,errW_none,errW_some] <;> rfl),by (with_reducible repeat (first|apply zo|apply zp|apply zq));exact HO_4.out,by repeat (first|(with_reducible first|exact HB.out|apply ze|apply zd|apply zf)|exact HB.out)⟩
  ·
   rw [if_neg c4] at H
   exact absurd H (by simp)
 ·
  replace c3:=Bool.eq_false_iff.mpr c3
  subst c3
  have H1 : (some (([] : List Int),1))=some (r1,r2):=by rw [if_neg (show ¬ (false=true) by decide)] at H;exact H
  clear H;have H:=H1;clear H1
  simp only [Option.some.injEq,Prod.mk.injEq] at H
  obtain ⟨rfl,rfl⟩:=H
  go_enter Try.func16,Try.ntmps16
  go_wp2_with (first|((with_reducible refine gate_callee (f:=20) rfl ?_);refine goesL_ (some 11) rfl rfl Try.func20 (by kernel_rfl) rfl #[.slice A0 l0.length c0, .int .i64 67108864] rfl (by (try simp only [List.map_toArray,List.map_cons,List.map_nil]);first|done|rfl|(simp only [List.length_drop,List.length_take];rfl)) ?_;(with_reducible refine (wave_sized.calls k _ _ l0 67108864 false _ ?side1 ?side2 A2.out).mono ?_);(case side1=>repeat (first|exact HR0.out|(with_reducible refine Kd.C_alloc ?_ _)|(with_reducible refine Kd.C_drewN ?_ _)|(with_reducible refine Kd.C_drew ?_)));(case side2=>exact HC0.out);rintro e w' ⟨rfl,⟨nd,rfl⟩⟩;refine ⟨_,rfl, ?_⟩))
  go_ret2
  exact ⟨_,by first|rfl|(simp [errW_none,errW_some] <;> rfl)|(simp [*,errW_none,errW_some] <;> rfl),by first|exact Kd.R_nil _ _ _ _ _|exact Kd.N_nil _ _ _ _ _|exact Kd.V_nil _ _ _ _ _|exact Kd.Q_nil _ _ _ _ _|exact Kd.S_nil _ _ _ _ _,by repeat (first|(with_reducible first|exact HB.out|apply ze|apply zd|apply zf)|exact HB.out)⟩

end Go.Proofs.Ytiikcnbfdnadfaa.Prt

namespace Go.Proofs.Ytiikcnbfdnadfaa.Prt
open Go.RowKit Go.Proofs.YtiikcnbfdnadfaaW.PrintWords Go.Proofs.YtiikcnbfdnadfaaW.PrintLast Go.Proofs.YtiikcnbfdnadfaaW.PrintMore
attribute [local go_sem] max2_int min2_int max_two min_two max_three min_three max_four min_four   -- for this text's walks alone
set_option linter.unusedVariables false
set_option linter.unusedSimpArgs false

/-! ### psalterylaw08_knows: function 10 -/
def psalterylaw08_knows.f (k : Nat)  : Option (Bool):=(wave_Forward.f k (([1,4,5,5] : List Int))).bind fun bt159=>((wave_Inverse.f k bt159.1).bind fun bt163=>((wave_Forward.f k (([4,1] : List Int))).bind fun bt170=>((psalteryref07_Same.f k bt159.1 (([3,3,3,0] : List Int))).bind fun t177=>(if t177=true then (if bt159.2=0 then ((psalteryref07_Same.f k bt163.1 (([1,4,5,5] : List Int))).bind fun t181=>(if t181=true then (if bt163.2=0 then ((psalteryref07_Same.f k bt170.1 (([2,(-3)] : List Int))).bind fun t185=>(if t185=true then ((wave_Right.f k bt163.1).bind fun t186=>(if t186=true then ((wave_Right.f k ([] : List Int)).bind fun t187=>(some (!t187))) else (none))) else (none))) else (none)) else (none))) else (none)) else (none)))))
theorem psalterylaw08_knows.mono : ∀ k,LeO (psalterylaw08_knows.f k ) (psalterylaw08_knows.f (k+1) ):=by
 intro  k
 unfold psalterylaw08_knows.f
 repeat' first
   | (with_reducible exact psalteryref07_Same.mono _ _ _)
   | (with_reducible exact wave_Forward.mono _ _)
   | (with_reducible exact wave_Inverse.mono _ _)
   | (with_reducible exact wave_Right.mono _ _)
   | (with_reducible exact LeO.refl _)
   | (with_reducible exact LeO.none _)
   | (with_reducible refine LeO.ite ?_ ?_)
   | (with_reducible refine LeO.bind ?_ (fun _ => ?_))
   | exact psalteryref07_Same.mono _ _ _
   | exact wave_Forward.mono _ _
   | exact wave_Inverse.mono _ _
   | exact wave_Right.mono _ _
   | exact LeO.none _
   | refine LeO.ite ?_ ?_
   | refine LeO.bind ?_ (fun _ => ?_)
set_option maxHeartbeats 8000000 in
set_option maxRecDepth 100000 in
theorem psalterylaw08_knows.calls (k : Nat)  (r : Bool) (w : World) (h : psalterylaw08_knows.f k  = some r) :
  Calls Try.prog 10 #[] w fun e w' => e=.returned (.bool r)∧Below w.heap.size w w' := by
 have HB:=zm (Below.refl w.heap.size w)
 have H : ((wave_Forward.f k (([1,4,5,5] : List Int))).bind fun bt159=>((wave_Inverse.f k bt159.1).bind fun bt163=>((wave_Forward.f k (([4,1] : List Int))).bind fun bt170=>((psalteryref07_Same.f k bt159.1 (([3,3,3,0] : List Int))).bind fun t177=>(if t177=true then (if bt159.2=0 then ((psalteryref07_Same.f k bt163.1 (([1,4,5,5] : List Int))).bind fun t181=>(if t181=true then (if bt163.2=0 then ((psalteryref07_Same.f k bt170.1 (([2,(-3)] : List Int))).bind fun t185=>(if t185=true then ((wave_Right.f k bt163.1).bind fun t186=>(if t186=true then ((wave_Right.f k ([] : List Int)).bind fun t187=>(some (!t187))) else (none))) else (none))) else (none)) else (none))) else (none)) else (none))))))=some r:=h
 clear h
 obtain ⟨y156,hy156⟩ : ∃ y_ : List Int,y_=(([1,4,5,5] : List Int)):=⟨_,rfl⟩
 replace H : ((wave_Forward.f k y156).bind fun bt159=>((wave_Inverse.f k bt159.1).bind fun bt163=>((wave_Forward.f k (([4,1] : List Int))).bind fun bt170=>((psalteryref07_Same.f k bt159.1 (([3,3,3,0] : List Int))).bind fun t177=>(if t177=true then (if bt159.2=0 then ((psalteryref07_Same.f k bt163.1 (([1,4,5,5] : List Int))).bind fun t181=>(if t181=true then (if bt163.2=0 then ((psalteryref07_Same.f k bt170.1 (([2,(-3)] : List Int))).bind fun t185=>(if t185=true then ((wave_Right.f k bt163.1).bind fun t186=>(if t186=true then ((wave_Right.f k ([] : List Int)).bind fun t187=>(some (!t187))) else (none))) else (none))) else (none)) else (none))) else (none)) else (none))))))=some r:=by first|(rw [hy156];with_reducible exact H)|(have H2_:=(Option.bind_some _ _).symm.trans H;rw [hy156];with_reducible exact H2_)|(have H2_:=(Option.bind_some _ _).symm.trans H;with_reducible exact H2_)|with_reducible exact H|(rw [hy156];exact H)|exact H
 have Ny156:=zm hy156;clear hy156
 replace H:=Option.bind_eq_some_iff.mp H
 obtain ⟨⟨t159,t160⟩,A10,H⟩:=H
 replace H : ((wave_Inverse.f k t159).bind fun bt163=>((wave_Forward.f k (([4,1] : List Int))).bind fun bt170=>((psalteryref07_Same.f k t159 (([3,3,3,0] : List Int))).bind fun t177=>(if t177=true then (if t160=0 then ((psalteryref07_Same.f k bt163.1 (([1,4,5,5] : List Int))).bind fun t181=>(if t181=true then (if bt163.2=0 then ((psalteryref07_Same.f k bt170.1 (([2,(-3)] : List Int))).bind fun t185=>(if t185=true then ((wave_Right.f k bt163.1).bind fun t186=>(if t186=true then ((wave_Right.f k ([] : List Int)).bind fun t187=>(some (!t187))) else (none))) else (none))) else (none)) else (none))) else (none)) else (none)))))=some r:=H
 have A1:=zm A10;clear A10
 replace H:=Option.bind_eq_some_iff.mp H
 obtain ⟨⟨t163,t164⟩,A20,H⟩:=H
 replace H : ((wave_Forward.f k (([4,1] : List Int))).bind fun bt170=>((psalteryref07_Same.f k t159 (([3,3,3,0] : List Int))).bind fun t177=>(if t177=true then (if t160=0 then ((psalteryref07_Same.f k t163 (([1,4,5,5] : List Int))).bind fun t181=>(if t181=true then (if t164=0 then ((psalteryref07_Same.f k bt170.1 (([2,(-3)] : List Int))).bind fun t185=>(if t185=true then ((wave_Right.f k t163).bind fun t186=>(if t186=true then ((wave_Right.f k ([] : List Int)).bind fun t187=>(some (!t187))) else (none))) else (none))) else (none)) else (none))) else (none)) else (none))))=some r:=H
 have A2:=zm A20;clear A20
 obtain ⟨y167,hy167⟩ : ∃ y_ : List Int,y_=(([4,1] : List Int)):=⟨_,rfl⟩
 replace H : ((wave_Forward.f k y167).bind fun bt170=>((psalteryref07_Same.f k t159 (([3,3,3,0] : List Int))).bind fun t177=>(if t177=true then (if t160=0 then ((psalteryref07_Same.f k t163 (([1,4,5,5] : List Int))).bind fun t181=>(if t181=true then (if t164=0 then ((psalteryref07_Same.f k bt170.1 (([2,(-3)] : List Int))).bind fun t185=>(if t185=true then ((wave_Right.f k t163).bind fun t186=>(if t186=true then ((wave_Right.f k ([] : List Int)).bind fun t187=>(some (!t187))) else (none))) else (none))) else (none)) else (none))) else (none)) else (none))))=some r:=by first|(rw [hy167];with_reducible exact H)|(have H2_:=(Option.bind_some _ _).symm.trans H;rw [hy167];with_reducible exact H2_)|(have H2_:=(Option.bind_some _ _).symm.trans H;with_reducible exact H2_)|with_reducible exact H|(rw [hy167];exact H)|exact H
 have Ny167:=zm hy167;clear hy167
 replace H:=Option.bind_eq_some_iff.mp H
 obtain ⟨⟨t170,t171⟩,A30,H⟩:=H
 replace H : ((psalteryref07_Same.f k t159 (([3,3,3,0] : List Int))).bind fun t177=>(if t177=true then (if t160=0 then ((psalteryref07_Same.f k t163 (([1,4,5,5] : List Int))).bind fun t181=>(if t181=true then (if t164=0 then ((psalteryref07_Same.f k t170 (([2,(-3)] : List Int))).bind fun t185=>(if t185=true then ((wave_Right.f k t163).bind fun t186=>(if t186=true then ((wave_Right.f k ([] : List Int)).bind fun t187=>(some (!t187))) else (none))) else (none))) else (none)) else (none))) else (none)) else (none)))=some r:=H
 have A3:=zm A30;clear A30
 obtain ⟨y174,hy174⟩ : ∃ y_ : List Int,y_=(([3,3,3,0] : List Int)):=⟨_,rfl⟩
 replace H : ((psalteryref07_Same.f k t159 y174).bind fun t177=>(if t177=true then (if t160=0 then ((psalteryref07_Same.f k t163 (([1,4,5,5] : List Int))).bind fun t181=>(if t181=true then (if t164=0 then ((psalteryref07_Same.f k t170 (([2,(-3)] : List Int))).bind fun t185=>(if t185=true then ((wave_Right.f k t163).bind fun t186=>(if t186=true then ((wave_Right.f k ([] : List Int)).bind fun t187=>(some (!t187))) else (none))) else (none))) else (none)) else (none))) else (none)) else (none)))=some r:=by first|(rw [hy174];with_reducible exact H)|(have H2_:=(Option.bind_some _ _).symm.trans H;rw [hy174];with_reducible exact H2_)|(have H2_:=(Option.bind_some _ _).symm.trans H;with_reducible exact H2_)|with_reducible exact H|(rw [hy174];exact H)|exact H
 have Ny174:=zm hy174;clear hy174
 replace H:=Option.bind_eq_some_iff.mp H
 obtain ⟨t177,A40,H⟩:=H
 replace H : (if t177=true then (if t160=0 then ((psalteryref07_Same.f k t163 (([1,4,5,5] : List Int))).bind fun t181=>(if t181=true then (if t164=0 then ((psalteryref07_Same.f k t170 (([2,(-3)] : List Int))).bind fun t185=>(if t185=true then ((wave_Right.f k t163).bind fun t186=>(if t186=true then ((wave_Right.f k ([] : List Int)).bind fun t187=>(some (!t187))) else (none))) else (none))) else (none)) else (none))) else (none)) else (none))=some r:=H
 have A4:=zm A40;clear A40
 by_cases c5 : t177=true
 ·
  subst c5
  have H1 : (if t160=0 then ((psalteryref07_Same.f k t163 (([1,4,5,5] : List Int))).bind fun t181=>(if t181=true then (if t164=0 then ((psalteryref07_Same.f k t170 (([2,(-3)] : List Int))).bind fun t185=>(if t185=true then ((wave_Right.f k t163).bind fun t186=>(if t186=true then ((wave_Right.f k ([] : List Int)).bind fun t187=>(some (!t187))) else (none))) else (none))) else (none)) else (none))) else (none))=some r:=by rw [if_pos rfl] at H;exact H
  clear H;have H:=H1;clear H1
  by_cases c6 : t160=0
  ·
   rw [if_pos c6] at H
   have c6b0 : (t160 == 0)=true:=beq_iff_eq.mpr c6
   have c6b1 : (t160 != 0)=false:=bne_eq_false_iff_eq.mpr c6
   clear c6
   obtain ⟨y178,hy178⟩ : ∃ y_ : List Int,y_=(([1,4,5,5] : List Int)):=⟨_,rfl⟩
   replace H : ((psalteryref07_Same.f k t163 y178).bind fun t181=>(if t181=true then (if t164=0 then ((psalteryref07_Same.f k t170 (([2,(-3)] : List Int))).bind fun t185=>(if t185=true then ((wave_Right.f k t163).bind fun t186=>(if t186=true then ((wave_Right.f k ([] : List Int)).bind fun t187=>(some (!t187))) else (none))) else (none))) else (none)) else (none)))=some r:=by first|(rw [hy178];with_reducible exact H)|(have H2_:=(Option.bind_some _ _).symm.trans H;rw [hy178];with_reducible exact H2_)|(have H2_:=(Option.bind_some _ _).symm.trans H;with_reducible exact H2_)|with_reducible exact H|(rw [hy178];exact H)|exact H
   have Ny178:=zm hy178;clear hy178
   replace H:=Option.bind_eq_some_iff.mp H
   obtain ⟨t181,A70,H⟩:=H
   replace H : (if t181=true then (if t164=0 then ((psalteryref07_Same.f k t170 (([2,(-3)] : List Int))).bind fun t185=>(if t185=true then ((wave_Right.f k t163).bind fun t186=>(if t186=true then ((wave_Right.f k ([] : List Int)).bind fun t187=>(some (!t187))) else (none))) else (none))) else (none)) else (none))=some r:=H
   have A7:=zm A70;clear A70
   by_cases c8 : t181=true
   ·
    subst c8
    have H1 : (if t164=0 then ((psalteryref07_Same.f k t170 (([2,(-3)] : List Int))).bind fun t185=>(if t185=true then ((wave_Right.f k t163).bind fun t186=>(if t186=true then ((wave_Right.f k ([] : List Int)).bind fun t187=>(some (!t187))) else (none))) else (none))) else (none))=some r:=by rw [if_pos rfl] at H;exact H
    clear H;have H:=H1;clear H1
    by_cases c9 : t164=0
    ·
     rw [if_pos c9] at H
     have c9b0 : (t164 == 0)=true:=beq_iff_eq.mpr c9
     have c9b1 : (t164 != 0)=false:=bne_eq_false_iff_eq.mpr c9
     clear c9
     obtain ⟨y182,hy182⟩ : ∃ y_ : List Int,y_=(([2,(-3)] : List Int)):=⟨_,rfl⟩
     replace H : ((psalteryref07_Same.f k t170 y182).bind fun t185=>(if t185=true then ((wave_Right.f k t163).bind fun t186=>(if t186=true then ((wave_Right.f k ([] : List Int)).bind fun t187=>(some (!t187))) else (none))) else (none)))=some r:=by first|(rw [hy182];with_reducible exact H)|(have H2_:=(Option.bind_some _ _).symm.trans H;rw [hy182];with_reducible exact H2_)|(have H2_:=(Option.bind_some _ _).symm.trans H;with_reducible exact H2_)|with_reducible exact H|(rw [hy182];exact H)|exact H
     have Ny182:=zm hy182;clear hy182
     replace H:=Option.bind_eq_some_iff.mp H
     obtain ⟨t185,A100,H⟩:=H
     replace H : (if t185=true then ((wave_Right.f k t163).bind fun t186=>(if t186=true then ((wave_Right.f k ([] : List Int)).bind fun t187=>(some (!t187))) else (none))) else (none))=some r:=H
     have A10:=zm A100;clear A100
     by_cases c11 : t185=true
     ·
      subst c11
      have H1 : ((wave_Right.f k t163).bind fun t186=>(if t186=true then ((wave_Right.f k ([] : List Int)).bind fun t187=>(some (!t187))) else (none)))=some r:=by rw [if_pos rfl] at H;exact H
      clear H;have H:=H1;clear H1
      replace H:=Option.bind_eq_some_iff.mp H
      obtain ⟨t186,A120,H⟩:=H
      replace H : (if t186=true then ((wave_Right.f k ([] : List Int)).bind fun t187=>(some (!t187))) else (none))=some r:=H
      have A12:=zm A120;clear A120
      by_cases c13 : t186=true
      ·
       subst c13
       have H1 : ((wave_Right.f k ([] : List Int)).bind fun t187=>(some (!t187)))=some r:=by rw [if_pos rfl] at H;exact H
       clear H;have H:=H1;clear H1
       replace H:=Option.bind_eq_some_iff.mp H
       obtain ⟨t187,A140,H⟩:=H
       replace H : (some (!t187))=some r:=H
       have A14:=zm A140;clear A140
       obtain rfl:=Option.some.inj H
       go_enter Try.func10,Try.ntmps10
       go_wp2_with (first|((with_reducible refine gate_dst (N:=8) rfl ?_);(try (refine gate_guard (by rfl) ?_;dsimp only));refine Kd.R_lit (Kd.int .i64) _ 2 ?hg (N:=8) ?hd (xs:=([1,4,5,5] : List Int)) (inner := [.int .i64 1, .int .i64 4, .int .i64 5, .int .i64 5]) (ok:=fun _=>True) (okp:=fun _=>True) ?hr ?hp (fun _ hk=>hk) trivial (Below.refl _ _) (Nat.le_refl _) (by simp) ?_;(case hd=>rfl);(case hg=>rfl);(case hr=>first|(go_simp;done)|(go_simp;rfl));(case hp=>exact (Reps.one (show Kd.M (Kd.int .i64) _ _ _ 1 [.int .i64 1] from rfl) (Reps.one (show Kd.M (Kd.int .i64) _ _ _ 4 [.int .i64 4] from rfl) (Reps.one (show Kd.M (Kd.int .i64) _ _ _ 5 [.int .i64 5] from rfl) (Reps.one (show Kd.M (Kd.int .i64) _ _ _ 5 [.int .i64 5] from rfl) (Reps.none _ _))))));intro v157 w15 ho16 hb hg_ hnew_;clear hg_ hnew_;(first|rw [← Ny156.out] at ho16|(simp only [Int.reduceToNat] at ho16;rw [← Ny156.out] at ho16));have n0_:=zm (Kd.R_lower ho16 (zE (by repeat (first|(with_reducible first|exact HB.out|apply ze|apply zd|apply zf)|exact HB.out))));have n1_:=zm (zJ (by repeat (first|(with_reducible first|exact HB.out|apply ze|apply zd|apply zf)|exact HB.out)) hb);clear HB;have HO158:=n0_;have HB:=n1_;clear n0_ n1_;clear hb ho16;obtain ⟨Ao17,co17,eo17⟩:=Kd.R_slice HO158.out;subst eo17)|((with_reducible refine gate_callee (f:=11) rfl ?_);refine goesL_ (some 9) rfl rfl Try.func11 (by kernel_rfl) rfl #[.slice Ao17 y156.length co17] rfl (by (try simp only [List.map_toArray,List.map_cons,List.map_nil]);first|done|rfl|(simp only [List.length_drop,List.length_take];rfl)) ?_;(with_reducible refine (wave_Forward.calls k _ _ y156 t159 t160 _ ?side1 ?side2 A1.out).mono ?_);(case side1=>repeat (first|exact (Kd.R_reads' HO158.out).2.2|(with_reducible refine Kd.C_alloc ?_ _)|(with_reducible refine Kd.C_drewN ?_ _)|(with_reducible refine Kd.C_drew ?_)));(case side2=>exact (Kd.R_reads' HO158.out).2.1);rintro e w18 ⟨v161,rfl,ho0,hb⟩;refine ⟨_,rfl, ?_⟩;have n0_:=zm (Kd.R_elder' (by (with_reducible repeat (first|apply zo|apply zp|apply zq));exact HO158.out) (Kd.R_base ho0) hb);have n1_:=zm (Kd.R_lower (Kd.R_new' ho0 (Kd.R_lt (by (with_reducible repeat (first|apply zo|apply zp|apply zq));exact HO158.out))) (zE (by repeat (first|(with_reducible first|exact HB.out|apply ze|apply zd|apply zf)|exact HB.out))));have n2_:=zm (zJ (by repeat (first|(with_reducible first|exact HB.out|apply ze|apply zd|apply zf)|exact HB.out)) hb);clear HO158;clear HB;have HO158:=n0_;have HO162:=n1_;have HB:=n2_;clear n0_ n1_ n2_;(try clear hb);(try clear hb2);(try clear hk);(try clear hi);(try clear ho0);obtain ⟨Ao19,co19,eo19⟩:=Kd.R_slice HO162.out;subst eo19)|((with_reducible refine gate_callee (f:=16) rfl ?_);refine goesL_ (some 14) rfl rfl Try.func16 (by kernel_rfl) rfl #[.slice Ao19 t159.length co19] rfl (by (try simp only [List.map_toArray,List.map_cons,List.map_nil]);first|done|rfl|(simp only [List.length_drop,List.length_take];rfl)) ?_;(with_reducible refine (wave_Inverse.calls k _ _ t159 t163 t164 _ ?side1 ?side2 A2.out).mono ?_);(case side1=>repeat (first|exact (Kd.R_reads' HO162.out).2.2|(with_reducible refine Kd.C_alloc ?_ _)|(with_reducible refine Kd.C_drewN ?_ _)|(with_reducible refine Kd.C_drew ?_)));(case side2=>exact (Kd.R_reads' HO162.out).2.1);rintro e w20 ⟨v165,rfl,ho0,hb⟩;refine ⟨_,rfl, ?_⟩;have n0_:=zm (Kd.R_elder' (by (with_reducible repeat (first|apply zo|apply zp|apply zq));exact HO158.out) (Kd.R_base ho0) hb);have n1_:=zm (Kd.R_elder' (by (with_reducible repeat (first|apply zo|apply zp|apply zq));exact HO162.out) (Kd.R_base ho0) hb);have n2_:=zm (Kd.R_lower (Kd.R_new' (Kd.R_new' ho0 (Kd.R_lt (by (with_reducible repeat (first|apply zo|apply zp|apply zq));exact HO158.out))) (Kd.R_lt (by (with_reducible repeat (first|apply zo|apply zp|apply zq));exact HO162.out))) (zE (by repeat (first|(with_reducible first|exact HB.out|apply ze|apply zd|apply zf)|exact HB.out))));have n3_:=zm (zJ (by repeat (first|(with_reducible first|exact HB.out|apply ze|apply zd|apply zf)|exact HB.out)) hb);clear HO158;clear HO162;clear HB;have HO158:=n0_;have HO162:=n1_;have HO166:=n2_;have HB:=n3_;clear n0_ n1_ n2_ n3_;(try clear hb);(try clear hb2);(try clear hk);(try clear hi);(try clear ho0))|((with_reducible refine gate_dst (N:=18) rfl ?_);(try (refine gate_guard (by rfl) ?_;dsimp only));refine Kd.R_lit (Kd.int .i64) _ 2 ?hg (N:=18) ?hd (xs:=([4,1] : List Int)) (inner := [.int .i64 4, .int .i64 1]) (ok:=fun _=>True) (okp:=fun _=>True) ?hr ?hp (fun _ hk=>hk) trivial (Below.refl _ _) (Nat.le_refl _) (by simp) ?_;(case hd=>rfl);(case hg=>rfl);(case hr=>first|(go_simp;done)|(go_simp;rfl));(case hp=>exact (Reps.one (show Kd.M (Kd.int .i64) _ _ _ 4 [.int .i64 4] from rfl) (Reps.one (show Kd.M (Kd.int .i64) _ _ _ 1 [.int .i64 1] from rfl) (Reps.none _ _))));intro v168 w21 ho22 hb hg_ hnew_;clear hg_ hnew_;(first|rw [← Ny167.out] at ho22|(simp only [Int.reduceToNat] at ho22;rw [← Ny167.out] at ho22));have n0_:=zm (Kd.R_elder' (by (with_reducible repeat (first|apply zo|apply zp|apply zq));exact HO158.out) (Kd.R_base ho22) hb);have n1_:=zm (Kd.R_elder' (by (with_reducible repeat (first|apply zo|apply zp|apply zq));exact HO162.out) (Kd.R_base ho22) hb);have n2_:=zm (Kd.R_elder' (by (with_reducible repeat (first|apply zo|apply zp|apply zq));exact HO166.out) (Kd.R_base ho22) hb);have n3_:=zm (Kd.R_lower (Kd.R_new' (Kd.R_new' (Kd.R_new' ho22 (Kd.R_lt (by (with_reducible repeat (first|apply zo|apply zp|apply zq));exact HO158.out))) (Kd.R_lt (by (with_reducible repeat (first|apply zo|apply zp|apply zq));exact HO162.out))) (Kd.R_lt (by (with_reducible repeat (first|apply zo|apply zp|apply zq));exact HO166.out))) (zE (by repeat (first|(with_reducible first|exact HB.out|apply ze|apply zd|apply zf)|exact HB.out))));have n4_:=zm (zJ (by repeat (first|(with_reducible first|exact HB.out|apply ze|apply zd|apply zf)|exact HB.out)) hb);clear HO158;clear HO162;clear HO166;clear HB;have HO158:=n0_;have HO162:=n1_;have HO166:=n2_;have HO169:=n3_;have HB:=n4_;clear n0_ n1_ n2_ n3_ n4_;clear hb ho22;obtain ⟨Ao23,co23,eo23⟩:=Kd.R_slice HO169.out;subst eo23)|((with_reducible refine gate_callee (f:=11) rfl ?_);refine goesL_ (some 19) rfl rfl Try.func11 (by kernel_rfl) rfl #[.slice Ao23 y167.length co23] rfl (by (try simp only [List.map_toArray,List.map_cons,List.map_nil]);first|done|rfl|(simp only [List.length_drop,List.length_take];rfl)) ?_;(with_reducible refine (wave_Forward.calls k _ _ y167 t170 t171 _ ?side1 ?side2 A3.out).mono ?_);(case side1=>repeat (first|exact (Kd.R_reads' HO169.out).2.2|(with_reducible refine Kd.C_alloc ?_ _)|(with_reducible refine Kd.C_drewN ?_ _)|(with_reducible refine Kd.C_drew ?_)));(case side2=>exact (Kd.R_reads' HO169.out).2.1);rintro e w24 ⟨v172,rfl,ho0,hb⟩;refine ⟨_,rfl, ?_⟩;have n0_:=zm (Kd.R_elder' (by (with_reducible repeat (first|apply zo|apply zp|apply zq));exact HO158.out) (Kd.R_base ho0) hb);have n1_:=zm (Kd.R_elder' (by (with_reducible repeat (first|apply zo|apply zp|apply zq));exact HO162.out) (Kd.R_base ho0) hb);have n2_:=zm (Kd.R_elder' (by (with_reducible repeat (first|apply zo|apply zp|apply zq));exact HO166.out) (Kd.R_base ho0) hb);have n3_:=zm (Kd.R_elder' (by (with_reducible repeat (first|apply zo|apply zp|apply zq));exact HO169.out) (Kd.R_base ho0) hb);have n4_:=zm (Kd.R_lower (Kd.R_new' (Kd.R_new' (Kd.R_new' (Kd.R_new' ho0 (Kd.R_lt (by (with_reducible repeat (first|apply zo|apply zp|apply zq));exact HO158.out))) (Kd.R_lt (by (with_reducible repeat (first|apply zo|apply zp|apply zq));exact HO162.out))) (Kd.R_lt (by (with_reducible repeat (first|apply zo|apply zp|apply zq));exact HO166.out))) (Kd.R_lt (by (with_reducible repeat (first|apply zo|apply zp|apply zq));exact HO169.out))) (zE (by repeat (first|(with_reducible first|exact HB.out|apply ze|apply zd|apply zf)|exact HB.out))));have n5_:=zm (zJ (by repeat (first|(with_reducible first|exact HB.out|apply ze|apply zd|apply zf)|exact HB.out)) hb);clear HO158;clear HO162;clear HO166;clear HO169;clear HB;have HO158:=n0_;have HO162:=n1_;have HO166:=n2_;have HO169:=n3_;have HO173:=n4_;have HB:=n5_;clear n0_ n1_ n2_ n3_ n4_ n5_;(try clear hb);(try clear hb2);(try clear hk);(try clear hi);(try clear ho0))|((with_reducible refine gate_dst (N:=23) rfl ?_);(try (refine gate_guard (by rfl) ?_;dsimp only));refine Kd.R_lit (Kd.int .i64) _ 2 ?hg (N:=23) ?hd (xs:=([3,3,3,0] : List Int)) (inner := [.int .i64 3, .int .i64 3, .int .i64 3, .int .i64 0]) (ok:=fun _=>True) (okp:=fun _=>True) ?hr ?hp (fun _ hk=>hk) trivial (Below.refl _ _) (Nat.le_refl _) (by simp) ?_;(case hd=>rfl);(case hg=>rfl);(case hr=>first|(go_simp;done)|(go_simp;rfl));(case hp=>exact (Reps.one (show Kd.M (Kd.int .i64) _ _ _ 3 [.int .i64 3] from rfl) (Reps.one (show Kd.M (Kd.int .i64) _ _ _ 3 [.int .i64 3] from rfl) (Reps.one (show Kd.M (Kd.int .i64) _ _ _ 3 [.int .i64 3] from rfl) (Reps.one (show Kd.M (Kd.int .i64) _ _ _ 0 [.int .i64 0] from rfl) (Reps.none _ _))))));intro v175 w25 ho26 hb hg_ hnew_;clear hg_ hnew_;(first|rw [← Ny174.out] at ho26|(simp only [Int.reduceToNat] at ho26;rw [← Ny174.out] at ho26));have n0_:=zm (Kd.R_elder' (by (with_reducible repeat (first|apply zo|apply zp|apply zq));exact HO158.out) (Kd.R_base ho26) hb);have n1_:=zm (Kd.R_elder' (by (with_reducible repeat (first|apply zo|apply zp|apply zq));exact HO162.out) (Kd.R_base ho26) hb);have n2_:=zm (Kd.R_elder' (by (with_reducible repeat (first|apply zo|apply zp|apply zq));exact HO166.out) (Kd.R_base ho26) hb);have n3_:=zm (Kd.R_elder' (by (with_reducible repeat (first|apply zo|apply zp|apply zq));exact HO169.out) (Kd.R_base ho26) hb);have n4_:=zm (Kd.R_elder' (by (with_reducible repeat (first|apply zo|apply zp|apply zq));exact HO173.out) (Kd.R_base ho26) hb);have n5_:=zm (Kd.R_lower (Kd.R_new' (Kd.R_new' (Kd.R_new' (Kd.R_new' (Kd.R_new' ho26 (Kd.R_lt (by (with_reducible repeat (first|apply zo|apply zp|apply zq));exact HO158.out))) (Kd.R_lt (by (with_reducible repeat (first|apply zo|apply zp|apply zq));exact HO162.out))) (Kd.R_lt (by (with_reducible repeat (first|apply zo|apply zp|apply zq));exact HO166.out))) (Kd.R_lt (by (with_reducible repeat (first|apply zo|apply zp|apply zq));exact HO169.out))) (Kd.R_lt (by (with_reducible repeat (first|apply zo|apply zp|apply zq));exact HO173.out))) (zE (by repeat (first|(with_reducible first|exact HB.out|apply ze|apply zd|apply zf)|exact HB.out))));have n6_:=zm (zJ (by repeat (first|(with_reducible first|exact HB.out|apply ze|apply zd|apply zf)|exact HB.out)) hb);clear HO158;clear HO162;clear HO166;clear HO169;clear HO173;clear HB;have HO158:=n0_;have HO162:=n1_;have HO166:=n2_;have HO169:=n3_;have HO173:=n4_;have HO176:=n5_;have HB:=n6_;clear n0_ n1_ n2_ n3_ n4_ n5_ n6_;clear hb ho26;obtain ⟨Ao27,co27,eo27⟩:=Kd.R_slice HO176.out;subst eo27)|((with_reducible refine gate_callee (f:=14) rfl ?_);refine goesL_ (some 24) rfl rfl Try.func14 (by kernel_rfl) rfl #[.slice Ao19 t159.length co19, .slice Ao27 y174.length co27] rfl (by (try simp only [List.map_toArray,List.map_cons,List.map_nil]);first|done|rfl|(simp only [List.length_drop,List.length_take];rfl)) ?_;(with_reducible refine (psalteryref07_Same.calls k _ _ t159 _ _ y174 true _ ?side1 ?side2 ?side3 ?side4 A4.out).mono ?_);(case side1=>repeat (first|exact (Kd.R_reads' HO162.out).2.2|(with_reducible refine Kd.C_alloc ?_ _)|(with_reducible refine Kd.C_drewN ?_ _)|(with_reducible refine Kd.C_drew ?_)));(case side2=>exact (Kd.R_reads' HO162.out).2.1);(case side3=>repeat (first|exact (Kd.R_reads' HO176.out).2.2|(with_reducible refine Kd.C_alloc ?_ _)|(with_reducible refine Kd.C_drewN ?_ _)|(with_reducible refine Kd.C_drew ?_)));(case side4=>exact (Kd.R_reads' HO176.out).2.1);rintro e w' ⟨rfl,⟨nd,rfl⟩⟩;refine ⟨_,rfl, ?_⟩)|((with_reducible refine gate_dst (N:=31) rfl ?_);(try (refine gate_guard (by rfl) ?_;dsimp only));refine Kd.R_lit (Kd.int .i64) _ 2 ?hg (N:=31) ?hd (xs:=([1,4,5,5] : List Int)) (inner := [.int .i64 1, .int .i64 4, .int .i64 5, .int .i64 5]) (ok:=fun _=>True) (okp:=fun _=>True) ?hr ?hp (fun _ hk=>hk) trivial (Below.refl _ _) (Nat.le_refl _) (by simp) ?_;(case hd=>rfl);(case hg=>rfl);(case hr=>first|(go_simp;done)|(go_simp;rfl));(case hp=>exact (Reps.one (show Kd.M (Kd.int .i64) _ _ _ 1 [.int .i64 1] from rfl) (Reps.one (show Kd.M (Kd.int .i64) _ _ _ 4 [.int .i64 4] from rfl) (Reps.one (show Kd.M (Kd.int .i64) _ _ _ 5 [.int .i64 5] from rfl) (Reps.one (show Kd.M (Kd.int .i64) _ _ _ 5 [.int .i64 5] from rfl) (Reps.none _ _))))));intro v179 w28 ho29 hb hg_ hnew_;clear hg_ hnew_;(first|rw [← Ny178.out] at ho29|(simp only [Int.reduceToNat] at ho29;rw [← Ny178.out] at ho29));have n0_:=zm (Kd.R_elder' (by (with_reducible repeat (first|apply zo|apply zp|apply zq));exact HO158.out) (Kd.R_base ho29) hb);have n1_:=zm (Kd.R_elder' (by (with_reducible repeat (first|apply zo|apply zp|apply zq));exact HO162.out) (Kd.R_base ho29) hb);have n2_:=zm (Kd.R_elder' (by (with_reducible repeat (first|apply zo|apply zp|apply zq));exact HO166.out) (Kd.R_base ho29) hb);have n3_:=zm (Kd.R_elder' (by (with_reducible repeat (first|apply zo|apply zp|apply zq));exact HO169.out) (Kd.R_base ho29) hb);have n4_:=zm (Kd.R_elder' (by (with_reducible repeat (first|apply zo|apply zp|apply zq));exact HO173.out) (Kd.R_base ho29) hb);have n5_:=zm (Kd.R_elder' (by (with_reducible repeat (first|apply zo|apply zp|apply zq));exact HO176.out) (Kd.R_base ho29) hb);have n6_:=zm (Kd.R_lower (Kd.R_new' (Kd.R_new' (Kd.R_new' (Kd.R_new' (Kd.R_new' (Kd.R_new' ho29 (Kd.R_lt (by (with_reducible repeat (first|apply zo|apply zp|apply zq));exact HO158.out))) (Kd.R_lt (by (with_reducible repeat (first|apply zo|apply zp|apply zq));exact HO162.out))) (Kd.R_lt (by (with_reducible repeat (first|apply zo|apply zp|apply zq));exact HO166.out))) (Kd.R_lt (by (with_reducible repeat (first|apply zo|apply zp|apply zq));exact HO169.out))) (Kd.R_lt (by (with_reducible repeat (first|apply zo|apply zp|apply zq));exact HO173.out))) (Kd.R_lt (by (with_reducible repeat (first|apply zo|apply zp|apply zq));exact HO176.out))) (zE (by repeat (first|(with_reducible first|exact HB.out|apply ze|apply zd|apply zf)|exact HB.out))));have n7_:=zm (zJ (by repeat (first|(with_reducible first|exact HB.out|apply ze|apply zd|apply zf)|exact HB.out)) hb);clear HO158;clear HO162;clear HO166;clear HO169;clear HO173;clear HO176;clear HB;have HO158:=n0_;have HO162:=n1_;have HO166:=n2_;have HO169:=n3_;have HO173:=n4_;have HO176:=n5_;have HO180:=n6_;have HB:=n7_;clear n0_ n1_ n2_ n3_ n4_ n5_ n6_ n7_;clear hb ho29;obtain ⟨Ao30,co30,eo30⟩:=Kd.R_slice HO166.out;subst eo30;obtain ⟨Ao31,co31,eo31⟩:=Kd.R_slice HO180.out;subst eo31)|(go_at_call 14;(with_reducible refine (psalteryref07_Same.calls k _ _ t163 _ _ y178 true _ ?side1 ?side2 ?side3 ?side4 A7.out).mono ?_);(case side1=>repeat (first|exact (Kd.R_reads' HO166.out).2.2|(with_reducible refine Kd.C_alloc ?_ _)|(with_reducible refine Kd.C_drewN ?_ _)|(with_reducible refine Kd.C_drew ?_)));(case side2=>exact (Kd.R_reads' HO166.out).2.1);(case side3=>repeat (first|exact (Kd.R_reads' HO180.out).2.2|(with_reducible refine Kd.C_alloc ?_ _)|(with_reducible refine Kd.C_drewN ?_ _)|(with_reducible refine Kd.C_drew ?_)));(case side4=>exact (Kd.R_reads' HO180.out).2.1);rintro e w' ⟨rfl,⟨nd,rfl⟩⟩)|((with_reducible refine gate_dst (N:=40) rfl ?_);(try (refine gate_guard (by rfl) ?_;dsimp only));refine Kd.R_lit (Kd.int .i64) _ 2 ?hg (N:=40) ?hd (xs:=([2,(-3)] : List Int)) (inner := [.int .i64 2, .int .i64 (-3)]) (ok:=fun _=>True) (okp:=fun _=>True) ?hr ?hp (fun _ hk=>hk) trivial (Below.refl _ _) (Nat.le_refl _) (by simp) ?_;(case hd=>rfl);(case hg=>rfl);(case hr=>first|(go_simp;done)|(go_simp;rfl));(case hp=>exact (Reps.one (show Kd.M (Kd.int .i64) _ _ _ 2 [.int .i64 2] from rfl) (Reps.one (show Kd.M (Kd.int .i64) _ _ _ (-3) [.int .i64 (-3)] from rfl) (Reps.none _ _))));intro v183 w32 ho33 hb hg_ hnew_;clear hg_ hnew_;(first|rw [← Ny182.out] at ho33|(simp only [Int.reduceToNat] at ho33;rw [← Ny182.out] at ho33));have n0_:=zm (Kd.R_elder' (by (with_reducible repeat (first|apply zo|apply zp|apply zq));exact HO158.out) (Kd.R_base ho33) hb);have n1_:=zm (Kd.R_elder' (by (with_reducible repeat (first|apply zo|apply zp|apply zq));exact HO162.out) (Kd.R_base ho33) hb);have n2_:=zm (Kd.R_elder' (by (with_reducible repeat (first|apply zo|apply zp|apply zq));exact HO166.out) (Kd.R_base ho33) hb);have n3_:=zm (Kd.R_elder' (by (with_reducible repeat (first|apply zo|apply zp|apply zq));exact HO169.out) (Kd.R_base ho33) hb);have n4_:=zm (Kd.R_elder' (by (with_reducible repeat (first|apply zo|apply zp|apply zq));exact HO173.out) (Kd.R_base ho33) hb);have n5_:=zm (Kd.R_elder' (by (with_reducible repeat (first|apply zo|apply zp|apply zq));exact HO176.out) (Kd.R_base ho33) hb);have n6_:=zm (Kd.R_elder' (by (with_reducible repeat (first|apply zo|apply zp|apply zq));exact HO180.out) (Kd.R_base ho33) hb);have n7_:=zm (Kd.R_lower (Kd.R_new' (Kd.R_new' (Kd.R_new' (Kd.R_new' (Kd.R_new' (Kd.R_new' (Kd.R_new' ho33 (Kd.R_lt (by (with_reducible repeat (first|apply zo|apply zp|apply zq));exact HO158.out))) (Kd.R_lt (by (with_reducible repeat (first|apply zo|apply zp|apply zq));exact HO162.out))) (Kd.R_lt (by (with_reducible repeat (first|apply zo|apply zp|apply zq));exact HO166.out))) (Kd.R_lt (by (with_reducible repeat (first|apply zo|apply zp|apply zq));exact HO169.out))) (Kd.R_lt (by (with_reducible repeat (first|apply zo|apply zp|apply zq));exact HO173.out))) (Kd.R_lt (by (with_reducible repeat (first|apply zo|apply zp|apply zq));exact HO176.out))) (Kd.R_lt (by (with_reducible repeat (first|apply zo|apply zp|apply zq));exact HO180.out))) (zE (by repeat (first|(with_reducible first|exact HB.out|apply ze|apply zd|apply zf)|exact HB.out))));have n8_:=zm (zJ (by repeat (first|(with_reducible first|exact HB.out|apply ze|apply zd|apply zf)|exact HB.out)) hb);clear HO158;clear HO162;clear HO166;clear HO169;clear HO173;clear HO176;clear HO180;clear HB;have HO158:=n0_;have HO162:=n1_;have HO166:=n2_;have HO169:=n3_;have HO173:=n4_;have HO176:=n5_;have HO180:=n6_;have HO184:=n7_;have HB:=n8_;clear n0_ n1_ n2_ n3_ n4_ n5_ n6_ n7_ n8_;clear hb ho33;obtain ⟨Ao34,co34,eo34⟩:=Kd.R_slice HO173.out;subst eo34;obtain ⟨Ao35,co35,eo35⟩:=Kd.R_slice HO184.out;subst eo35)|(go_at_call 14;(with_reducible refine (psalteryref07_Same.calls k _ _ t170 _ _ y182 true _ ?side1 ?side2 ?side3 ?side4 A10.out).mono ?_);(case side1=>repeat (first|exact (Kd.R_reads' HO173.out).2.2|(with_reducible refine Kd.C_alloc ?_ _)|(with_reducible refine Kd.C_drewN ?_ _)|(with_reducible refine Kd.C_drew ?_)));(case side2=>exact (Kd.R_reads' HO173.out).2.1);(case side3=>repeat (first|exact (Kd.R_reads' HO184.out).2.2|(with_reducible refine Kd.C_alloc ?_ _)|(with_reducible refine Kd.C_drewN ?_ _)|(with_reducible refine Kd.C_drew ?_)));(case side4=>exact (Kd.R_reads' HO184.out).2.1);rintro e w' ⟨rfl,⟨nd,rfl⟩⟩)|(go_at_call 13;(with_reducible refine (wave_Right.calls k _ _ t163 true _ ?side1 ?side2 A12.out).mono ?_);(case side1=>repeat (first|exact (Kd.R_reads' HO166.out).2.2|(with_reducible refine Kd.C_alloc ?_ _)|(with_reducible refine Kd.C_drewN ?_ _)|(with_reducible refine Kd.C_drew ?_)));(case side2=>exact (Kd.R_reads' HO166.out).2.1);rintro e w' ⟨rfl,⟨nd,rfl⟩⟩)|(go_at_call 13;(refine (wave_Right.calls k _ _ ([] : List Int) t187 _ ?side1 ?side2 A14.out).mono ?_);(case side1=>exact Kd.C_nil _ _);(case side2=>exact Nat.le_refl _);rintro e w' ⟨rfl,⟨nd,rfl⟩⟩))
       go_ret
       exact ⟨by first|rfl|(simp [errW_none,errW_some] <;> rfl)|(simp [*,errW_none,errW_some] <;> rfl),by repeat (first|(with_reducible first|exact HB.out|apply ze|apply zd|apply zf)|exact HB.out)⟩
      ·
       replace c13:=Bool.eq_false_iff.mpr c13
       subst c13
       have H1 : (none)=some r:=by rw [if_neg (show ¬ (false=true) by decide)] at H;exact H
       clear H;have H:=H1;clear H1
       exact absurd H (by simp)
     ·
      replace c11:=Bool.eq_false_iff.mpr c11
      subst c11
      have H1 : (none)=some r:=by rw [if_neg (show ¬ (false=true) by decide)] at H;exact H
      clear H;have H:=H1;clear H1
      exact absurd H (by simp)
    ·
     rw [if_neg c9] at H
     exact absurd H (by simp)
   ·
    replace c8:=Bool.eq_false_iff.mpr c8
    subst c8
    have H1 : (none)=some r:=by rw [if_neg (show ¬ (false=true) by decide)] at H;exact H
    clear H;have H:=H1;clear H1
    exact absurd H (by simp)
  ·
   rw [if_neg c6] at H
   exact absurd H (by simp)
 ·
  replace c5:=Bool.eq_false_iff.mpr c5
  subst c5
  have H1 : (none)=some r:=by rw [if_neg (show ¬ (false=true) by decide)] at H;exact H
  clear H;have H:=H1;clear H1
  exact absurd H (by simp)

end Go.Proofs.Ytiikcnbfdnadfaa.Prt

namespace Go.Proofs.Ytiikcnbfdnadfaa.Prt
open Go.RowKit Go.Proofs.YtiikcnbfdnadfaaW.PrintWords Go.Proofs.YtiikcnbfdnadfaaW.PrintLast Go.Proofs.YtiikcnbfdnadfaaW.PrintMore
attribute [local go_sem] max2_int min2_int max_two min_two max_three min_three max_four min_four   -- for this text's walks alone
set_option linter.unusedVariables false
set_option linter.unusedSimpArgs false

/-! ### psalterylaw08_WaveBounds: function 8 -/
mutual
def psalterylaw08_WaveBounds.j0 : Nat→List Int→List Int→Bool→Option (Bool)
 | 0,_,_,_=>none
 | k+1,x0,x3,x34=>if x34=true then (none) else (if 0 < (x0.length : Int) then (psalterylaw08_WaveBounds.l0 k x0 x3 (rd x0 0) (rd x0 0) 0) else (none))
def psalterylaw08_WaveBounds.l0 : Nat→List Int→List Int→Int→Int→Int→Option (Bool)
 | 0,_,_,_,_,_=>none
 | k+1,x0,x3,x5,x6,x7=>if x7 < (x0.length : Int) then (if 0≤x7 then (if (rd x0 x7) < x5 then (if (rd x0 x7) > x6 then (psalterylaw08_WaveBounds.l0 k x0 x3 (rd x0 x7) (rd x0 x7) (wrap64 (x7+1))) else (psalterylaw08_WaveBounds.l0 k x0 x3 (rd x0 x7) x6 (wrap64 (x7+1)))) else (if (rd x0 x7) > x6 then (psalterylaw08_WaveBounds.l0 k x0 x3 x5 (rd x0 x7) (wrap64 (x7+1))) else (psalterylaw08_WaveBounds.l0 k x0 x3 x5 x6 (wrap64 (x7+1))))) else (none)) else (if 0 < (x3.length : Int) then (if (rd x3 0) < x5 then (psalterylaw08_WaveBounds.j2 k x3 x5 x6 true) else (psalterylaw08_WaveBounds.j2 k x3 x5 x6 (decide ((rd x3 0) > x6)))) else (none))
def psalterylaw08_WaveBounds.j2 : Nat→List Int→Int→Int→Bool→Option (Bool)
 | 0,_,_,_,_=>none
 | k+1,x3,x5,x6,x78=>if x78=true then (none) else (psalterylaw08_WaveBounds.l1 k x3 x5 x6 1)
def psalterylaw08_WaveBounds.l1 : Nat→List Int→Int→Int→Int→Option (Bool)
 | 0,_,_,_,_=>none
 | k+1,x3,x5,x6,x8=>if x8 < (x3.length : Int) then (if 0≤x8 then (if (rd x3 x8) > (wrap64 (x6 - x5)) then (none) else (if (rd x3 x8) < (wrap64 (x5 - x6)) then (none) else (psalterylaw08_WaveBounds.l1 k x3 x5 x6 (wrap64 (x8+1))))) else (none)) else ((psalterylaw08_knows.f k).bind fun t311=>(some t311))
end
def psalterylaw08_WaveBounds.f (k : Nat) (l0 : List Int) : Option (Bool):=(psalterylaw08_great.f l0).bind fun t292=>(if t292=true then ((psalterylaw08_knows.f k).bind fun t293=>(some t293)) else ((wave_Forward.f k l0).bind fun bt294=>(if bt294.2=0 then (if (l0.length : Int)=0 then (psalterylaw08_WaveBounds.j0 k l0 bt294.1 true) else (psalterylaw08_WaveBounds.j0 k l0 bt294.1 ((bt294.1.length : Int) != (l0.length : Int)))) else (if (bt294.1.length : Int)=0 then ((psalterylaw08_knows.f k).bind fun t298=>(some t298)) else (none)))))
theorem psalterylaw08_WaveBounds.mono_l : ∀ k,(∀ y0 y1 y2,LeO (psalterylaw08_WaveBounds.j0 k y0 y1 y2) (psalterylaw08_WaveBounds.j0 (k+1) y0 y1 y2))∧(∀ y0 y1 y2 y3 y4,LeO (psalterylaw08_WaveBounds.l0 k y0 y1 y2 y3 y4) (psalterylaw08_WaveBounds.l0 (k+1) y0 y1 y2 y3 y4))∧(∀ y0 y1 y2 y3,LeO (psalterylaw08_WaveBounds.j2 k y0 y1 y2 y3) (psalterylaw08_WaveBounds.j2 (k+1) y0 y1 y2 y3))∧(∀ y0 y1 y2 y3,LeO (psalterylaw08_WaveBounds.l1 k y0 y1 y2 y3) (psalterylaw08_WaveBounds.l1 (k+1) y0 y1 y2 y3))
 | 0=>⟨fun _ _ _ r h=>by simp [psalterylaw08_WaveBounds.j0] at h,fun _ _ _ _ _ r h=>by simp [psalterylaw08_WaveBounds.l0] at h,fun _ _ _ _ r h=>by simp [psalterylaw08_WaveBounds.j2] at h,fun _ _ _ _ r h=>by simp [psalterylaw08_WaveBounds.l1] at h⟩
 | k+1=>by
  obtain ⟨ih0,ih1,ih2,ih3⟩:=psalterylaw08_WaveBounds.mono_l k
  refine ⟨?_, ?_, ?_, ?_⟩
  ·
   intro y0 y1 y2
   unfold psalterylaw08_WaveBounds.j0
   repeat' first
   | (with_reducible exact ih0 _ _ _)
   | (with_reducible exact ih1 _ _ _ _ _)
   | (with_reducible exact ih2 _ _ _ _)
   | (with_reducible exact ih3 _ _ _ _)
   | (with_reducible exact psalterylaw08_knows.mono _)
   | (with_reducible exact wave_Forward.mono _ _)
   | (with_reducible exact LeO.refl _)
   | (with_reducible exact LeO.none _)
   | (with_reducible refine LeO.ite ?_ ?_)
   | (with_reducible refine LeO.bind ?_ (fun _ => ?_))
   | exact ih0 _ _ _
   | exact ih1 _ _ _ _ _
   | exact ih2 _ _ _ _
   | exact ih3 _ _ _ _
   | exact psalterylaw08_knows.mono _
   | exact wave_Forward.mono _ _
   | exact LeO.none _
   | refine LeO.ite ?_ ?_
   | refine LeO.bind ?_ (fun _ => ?_)
  ·
   intro y0 y1 y2 y3 y4
   unfold psalterylaw08_WaveBounds.l0
   repeat' first
   | (with_reducible exact ih0 _ _ _)
   | (with_reducible exact ih1 _ _ _ _ _)
   | (with_reducible exact ih2 _ _ _ _)
   | (with_reducible exact ih3 _ _ _ _)
   | (with_reducible exact psalterylaw08_knows.mono _)
   | (with_reducible exact wave_Forward.mono _ _)
   | (with_reducible exact LeO.refl _)
   | (with_reducible exact LeO.none _)
   | (with_reducible refine LeO.ite ?_ ?_)
   | (with_reducible refine LeO.bind ?_ (fun _ => ?_))
   | exact ih0 _ _ _
   | exact ih1 _ _ _ _ _
   | exact ih2 _ _ _ _
   | exact ih3 _ _ _ _
   | exact psalterylaw08_knows.mono _
   | exact wave_Forward.mono _ _
   | exact LeO.none _
   | refine LeO.ite ?_ ?_
   | refine LeO.bind ?_ (fun _ => ?_)
  ·
   intro y0 y1 y2 y3
   unfold psalterylaw08_WaveBounds.j2
   repeat' first
   | (with_reducible exact ih0 _ _ _)
   | (with_reducible exact ih1 _ _ _ _ _)
   | (with_reducible exact ih2 _ _ _ _)
   | (with_reducible exact ih3 _ _ _ _)
   | (with_reducible exact psalterylaw08_knows.mono _)
   | (with_reducible exact wave_Forward.mono _ _)
   | (with_reducible exact LeO.refl _)
   | (with_reducible exact LeO.none _)
   | (with_reducible refine LeO.ite ?_ ?_)
   | (with_reducible refine LeO.bind ?_ (fun _ => ?_))
   | exact ih0 _ _ _
   | exact ih1 _ _ _ _ _
   | exact ih2 _ _ _ _
   | exact ih3 _ _ _ _
   | exact psalterylaw08_knows.mono _
   | exact wave_Forward.mono _ _
   | exact LeO.none _
   | refine LeO.ite ?_ ?_
   | refine LeO.bind ?_ (fun _ => ?_)
  ·
   intro y0 y1 y2 y3
   unfold psalterylaw08_WaveBounds.l1
   repeat' first
   | (with_reducible exact ih0 _ _ _)
   | (with_reducible exact ih1 _ _ _ _ _)
   | (with_reducible exact ih2 _ _ _ _)
   | (with_reducible exact ih3 _ _ _ _)
   | (with_reducible exact psalterylaw08_knows.mono _)
   | (with_reducible exact wave_Forward.mono _ _)
   | (with_reducible exact LeO.refl _)
   | (with_reducible exact LeO.none _)
   | (with_reducible refine LeO.ite ?_ ?_)
   | (with_reducible refine LeO.bind ?_ (fun _ => ?_))
   | exact ih0 _ _ _
   | exact ih1 _ _ _ _ _
   | exact ih2 _ _ _ _
   | exact ih3 _ _ _ _
   | exact psalterylaw08_knows.mono _
   | exact wave_Forward.mono _ _
   | exact LeO.none _
   | refine LeO.ite ?_ ?_
   | refine LeO.bind ?_ (fun _ => ?_)
theorem psalterylaw08_WaveBounds.mono : ∀ a0 k,LeO (psalterylaw08_WaveBounds.f k a0) (psalterylaw08_WaveBounds.f (k+1) a0):=by
 intro a0 k
 obtain ⟨ih0,ih1,ih2,ih3⟩:=psalterylaw08_WaveBounds.mono_l k
 unfold psalterylaw08_WaveBounds.f
 repeat' first
   | (with_reducible exact ih0 _ _ _)
   | (with_reducible exact ih1 _ _ _ _ _)
   | (with_reducible exact ih2 _ _ _ _)
   | (with_reducible exact ih3 _ _ _ _)
   | (with_reducible exact psalterylaw08_knows.mono _)
   | (with_reducible exact wave_Forward.mono _ _)
   | (with_reducible exact LeO.refl _)
   | (with_reducible exact LeO.none _)
   | (with_reducible refine LeO.ite ?_ ?_)
   | (with_reducible refine LeO.bind ?_ (fun _ => ?_))
   | exact ih0 _ _ _
   | exact ih1 _ _ _ _ _
   | exact ih2 _ _ _ _
   | exact ih3 _ _ _ _
   | exact psalterylaw08_knows.mono _
   | exact wave_Forward.mono _ _
   | exact LeO.none _
   | refine LeO.ite ?_ ?_
   | refine LeO.bind ?_ (fun _ => ?_)
set_option maxHeartbeats 8000000 in
set_option maxRecDepth 100000 in
theorem psalterylaw08_WaveBounds.calls (k : Nat) (A0 : Option Addr) (c0 : Nat) (l0 : List Int) (r : Bool) (w : World) (hr0 : Kd.C (Kd.int .i64) w A0 l0.length l0) (hc0 : l0.length≤c0) (h : psalterylaw08_WaveBounds.f k l0=some r) :
  Calls Try.prog 8 #[.slice A0 l0.length c0] w fun e w' => e=.returned (.bool r)∧Below w.heap.size w w' := by
 have HR0:=zm hr0;have HC0:=zm hc0;clear hr0 hc0;have HB:=zm (Below.refl w.heap.size w)
 have H : ((psalterylaw08_great.f l0).bind fun t292=>(if t292=true then ((psalterylaw08_knows.f k).bind fun t293=>(some t293)) else ((wave_Forward.f k l0).bind fun bt294=>(if bt294.2=0 then (if (l0.length : Int)=0 then (psalterylaw08_WaveBounds.j0 k l0 bt294.1 true) else (psalterylaw08_WaveBounds.j0 k l0 bt294.1 ((bt294.1.length : Int) != (l0.length : Int)))) else (if (bt294.1.length : Int)=0 then ((psalterylaw08_knows.f k).bind fun t298=>(some t298)) else (none))))))=some r:=h
 clear h
 replace H:=Option.bind_eq_some_iff.mp H
 obtain ⟨t292,A20,H⟩:=H
 replace H : (if t292=true then ((psalterylaw08_knows.f k).bind fun t293=>(some t293)) else ((wave_Forward.f k l0).bind fun bt294=>(if bt294.2=0 then (if (l0.length : Int)=0 then (psalterylaw08_WaveBounds.j0 k l0 bt294.1 true) else (psalterylaw08_WaveBounds.j0 k l0 bt294.1 ((bt294.1.length : Int) != (l0.length : Int)))) else (if (bt294.1.length : Int)=0 then ((psalterylaw08_knows.f k).bind fun t298=>(some t298)) else (none)))))=some r:=H
 have A2:=zm A20;clear A20
 by_cases c3 : t292=true
 ·
  subst c3
  have H1 : ((psalterylaw08_knows.f k).bind fun t293=>(some t293))=some r:=by rw [if_pos rfl] at H;exact H
  clear H;have H:=H1;clear H1
  replace H:=Option.bind_eq_some_iff.mp H
  obtain ⟨t293,A40,H⟩:=H
  replace H : (some t293)=some r:=H
  have A4:=zm A40;clear A40
  obtain rfl:=Option.some.inj H
  go_enter Try.func8,Try.ntmps8
  go_wp2_with (first|(go_at_call 9;(with_reducible refine (psalterylaw08_great.calls _ _ l0 true _ ?side1 ?side2 A2.out).mono ?_);(case side1=>repeat (first|exact HR0.out|(with_reducible refine Kd.C_alloc ?_ _)|(with_reducible refine Kd.C_drewN ?_ _)|(with_reducible refine Kd.C_drew ?_)));(case side2=>exact HC0.out);rintro e w' ⟨rfl,⟨nd,rfl⟩⟩;(try first|exact ⟨rfl,_,World.drewN_drewN _ _ _⟩|exact ⟨rfl,_,Eq.trans (World.drewN_drewN _ _ _) (congrArg (World.drewN _) (Nat.add_assoc _ _ _))⟩))|(go_at_call 10;(with_reducible refine (psalterylaw08_knows.calls k  t293 _ A4.out).mono ?_);rintro e w5 ⟨rfl,hb⟩;have n0_:=zm (zJ (by repeat (first|(with_reducible first|exact HB.out|apply ze|apply zd|apply zf)|exact HB.out)) hb);clear HB;have HB:=n0_;clear n0_;(try clear hb);(try clear hb2);(try clear hk);(try clear hi)))
  repeat (go_quiet (first|(go_at_call 9;(with_reducible refine (psalterylaw08_great.calls _ _ l0 true _ ?side1 ?side2 A2.out).mono ?_);(case side1=>repeat (first|exact HR0.out|(with_reducible refine Kd.C_alloc ?_ _)|(with_reducible refine Kd.C_drewN ?_ _)|(with_reducible refine Kd.C_drew ?_)));(case side2=>exact HC0.out);rintro e w' ⟨rfl,⟨nd,rfl⟩⟩;(try first|exact ⟨rfl,_,World.drewN_drewN _ _ _⟩|exact ⟨rfl,_,Eq.trans (World.drewN_drewN _ _ _) (congrArg (World.drewN _) (Nat.add_assoc _ _ _))⟩))|(go_at_call 10;(with_reducible refine (psalterylaw08_knows.calls k  t293 _ A4.out).mono ?_);rintro e w5 ⟨rfl,hb⟩;have n0_:=zm (zJ (by repeat (first|(with_reducible first|exact HB.out|apply ze|apply zd|apply zf)|exact HB.out)) hb);clear HB;have HB:=n0_;clear n0_;(try clear hb);(try clear hb2);(try clear hk);(try clear hi)));try go_wp2_with (first|(go_at_call 9;(with_reducible refine (psalterylaw08_great.calls _ _ l0 true _ ?side1 ?side2 A2.out).mono ?_);(case side1=>repeat (first|exact HR0.out|(with_reducible refine Kd.C_alloc ?_ _)|(with_reducible refine Kd.C_drewN ?_ _)|(with_reducible refine Kd.C_drew ?_)));(case side2=>exact HC0.out);rintro e w' ⟨rfl,⟨nd,rfl⟩⟩;(try first|exact ⟨rfl,_,World.drewN_drewN _ _ _⟩|exact ⟨rfl,_,Eq.trans (World.drewN_drewN _ _ _) (congrArg (World.drewN _) (Nat.add_assoc _ _ _))⟩))|(go_at_call 10;(with_reducible refine (psalterylaw08_knows.calls k  t293 _ A4.out).mono ?_);rintro e w5 ⟨rfl,hb⟩;have n0_:=zm (zJ (by repeat (first|(with_reducible first|exact HB.out|apply ze|apply zd|apply zf)|exact HB.out)) hb);clear HB;have HB:=n0_;clear n0_;(try clear hb);(try clear hb2);(try clear hk);(try clear hi))))
  go_ret
  exact ⟨by first|rfl|(simp [errW_none,errW_some] <;> rfl)|(simp [*,errW_none,errW_some] <;> rfl),by repeat (first|(with_reducible first|exact HB.out|apply ze|apply zd|apply zf)|exact HB.out)⟩
 ·
  replace c3:=Bool.eq_false_iff.mpr c3
  subst c3
  have H1 : ((wave_Forward.f k l0).bind fun bt294=>(if bt294.2=0 then (if (l0.length : Int)=0 then (psalterylaw08_WaveBounds.j0 k l0 bt294.1 true) else (psalterylaw08_WaveBounds.j0 k l0 bt294.1 ((bt294.1.length : Int) != (l0.length : Int)))) else (if (bt294.1.length : Int)=0 then ((psalterylaw08_knows.f k).bind fun t298=>(some t298)) else (none))))=some r:=by rw [if_neg (show ¬ (false=true) by decide)] at H;exact H
  clear H;have H:=H1;clear H1
  replace H:=Option.bind_eq_some_iff.mp H
  obtain ⟨⟨t294,t295⟩,A60,H⟩:=H
  replace H : (if t295=0 then (if (l0.length : Int)=0 then (psalterylaw08_WaveBounds.j0 k l0 t294 true) else (psalterylaw08_WaveBounds.j0 k l0 t294 ((t294.length : Int) != (l0.length : Int)))) else (if (t294.length : Int)=0 then ((psalterylaw08_knows.f k).bind fun t298=>(some t298)) else (none)))=some r:=H
  have A6:=zm A60;clear A60
  by_cases c7 : t295=0
  ·
   rw [if_pos c7] at H
   have c7b0 : (t295 == 0)=true:=beq_iff_eq.mpr c7
   have c7b1 : (t295 != 0)=false:=bne_eq_false_iff_eq.mpr c7
   clear c7;have HC8:=zm H;clear H
   go_enter Try.func8,Try.ntmps8
   go_upto_region 6 with (first|(go_at_call 9;(with_reducible refine (psalterylaw08_great.calls _ _ l0 false _ ?side1 ?side2 A2.out).mono ?_);(case side1=>repeat (first|exact HR0.out|(with_reducible refine Kd.C_alloc ?_ _)|(with_reducible refine Kd.C_drewN ?_ _)|(with_reducible refine Kd.C_drew ?_)));(case side2=>exact HC0.out);rintro e w' ⟨rfl,⟨nd,rfl⟩⟩;(try first|exact ⟨rfl,_,World.drewN_drewN _ _ _⟩|exact ⟨rfl,_,Eq.trans (World.drewN_drewN _ _ _) (congrArg (World.drewN _) (Nat.add_assoc _ _ _))⟩))|(go_at_call 11;(with_reducible refine (wave_Forward.calls k _ _ l0 t294 t295 _ ?side1 ?side2 A6.out).mono ?_);(case side1=>repeat (first|exact HR0.out|(with_reducible refine Kd.C_alloc ?_ _)|(with_reducible refine Kd.C_drewN ?_ _)|(with_reducible refine Kd.C_drew ?_)));(case side2=>exact HC0.out);rintro e w9 ⟨v296,rfl,ho0,hb⟩;have n0_:=zm (Kd.R_lower ho0 (zE (by repeat (first|(with_reducible first|exact HB.out|apply ze|apply zd|apply zf)|exact HB.out))));have n1_:=zm (zJ (by repeat (first|(with_reducible first|exact HB.out|apply ze|apply zd|apply zf)|exact HB.out)) hb);clear HB;have HO297:=n0_;have HB:=n1_;clear n0_ n1_;(try clear hb);(try clear hb2);(try clear hk);(try clear hi);(try clear ho0)))
   repeat (go_quiet (first|(go_at_call 9;(with_reducible refine (psalterylaw08_great.calls _ _ l0 false _ ?side1 ?side2 A2.out).mono ?_);(case side1=>repeat (first|exact HR0.out|(with_reducible refine Kd.C_alloc ?_ _)|(with_reducible refine Kd.C_drewN ?_ _)|(with_reducible refine Kd.C_drew ?_)));(case side2=>exact HC0.out);rintro e w' ⟨rfl,⟨nd,rfl⟩⟩;(try first|exact ⟨rfl,_,World.drewN_drewN _ _ _⟩|exact ⟨rfl,_,Eq.trans (World.drewN_drewN _ _ _) (congrArg (World.drewN _) (Nat.add_assoc _ _ _))⟩))|(go_at_call 11;(with_reducible refine (wave_Forward.calls k _ _ l0 t294 t295 _ ?side1 ?side2 A6.out).mono ?_);(case side1=>repeat (first|exact HR0.out|(with_reducible refine Kd.C_alloc ?_ _)|(with_reducible refine Kd.C_drewN ?_ _)|(with_reducible refine Kd.C_drew ?_)));(case side2=>exact HC0.out);rintro e w9 ⟨v296,rfl,ho0,hb⟩;have n0_:=zm (Kd.R_lower ho0 (zE (by repeat (first|(with_reducible first|exact HB.out|apply ze|apply zd|apply zf)|exact HB.out))));have n1_:=zm (zJ (by repeat (first|(with_reducible first|exact HB.out|apply ze|apply zd|apply zf)|exact HB.out)) hb);clear HB;have HO297:=n0_;have HB:=n1_;clear n0_ n1_;(try clear hb);(try clear hb2);(try clear hk);(try clear hi);(try clear ho0)));go_upto_region 6 with (first|(go_at_call 9;(with_reducible refine (psalterylaw08_great.calls _ _ l0 false _ ?side1 ?side2 A2.out).mono ?_);(case side1=>repeat (first|exact HR0.out|(with_reducible refine Kd.C_alloc ?_ _)|(with_reducible refine Kd.C_drewN ?_ _)|(with_reducible refine Kd.C_drew ?_)));(case side2=>exact HC0.out);rintro e w' ⟨rfl,⟨nd,rfl⟩⟩;(try first|exact ⟨rfl,_,World.drewN_drewN _ _ _⟩|exact ⟨rfl,_,Eq.trans (World.drewN_drewN _ _ _) (congrArg (World.drewN _) (Nat.add_assoc _ _ _))⟩))|(go_at_call 11;(with_reducible refine (wave_Forward.calls k _ _ l0 t294 t295 _ ?side1 ?side2 A6.out).mono ?_);(case side1=>repeat (first|exact HR0.out|(with_reducible refine Kd.C_alloc ?_ _)|(with_reducible refine Kd.C_drewN ?_ _)|(with_reducible refine Kd.C_drew ?_)));(case side2=>exact HC0.out);rintro e w9 ⟨v296,rfl,ho0,hb⟩;have n0_:=zm (Kd.R_lower ho0 (zE (by repeat (first|(with_reducible first|exact HB.out|apply ze|apply zd|apply zf)|exact HB.out))));have n1_:=zm (zJ (by repeat (first|(with_reducible first|exact HB.out|apply ze|apply zd|apply zf)|exact HB.out)) hb);clear HB;have HO297:=n0_;have HB:=n1_;clear n0_ n1_;(try clear hb);(try clear hb2);(try clear hk);(try clear hi);(try clear ho0))))
   (try simp only [Act.put,List.setIfInBounds_toArray,List.set_cons_zero,List.set_cons_succ])
   go_cut [34] (fun v34 wc => ∃ (kq : Nat) (x34_7 : Bool),v34=.bool x34_7∧Aside0 (psalterylaw08_WaveBounds.j0 kq l0 t294 x34_7=some r)∧Aside0 (kq≤k)∧Aside0 (Kd.R (Kd.int .i64) 2 wc w.heap.size (fun _=>True) v296 t294)∧Aside0 (Below w.heap.size w wc))
   case first =>
    have H:=HC8.out;clear HC8
    by_cases c10 : (l0.length : Int)=0
    ·
     rw [if_pos c10] at H
     have c10b0 : ((l0.length : Int) == 0)=true:=beq_iff_eq.mpr c10
     have c10b1 : ((l0.length : Int) != 0)=false:=bne_eq_false_iff_eq.mpr c10
     clear c10
     (first|rw [c10b0]|(simp only [i64_w,i32_w];rw [c10b0])|skip)
     have H' := zm H
     clear H
     go_wp2
     repeat (go_quiet (fail);try go_wp2)
     go_meet
     case rel=>exact ⟨_,(true),(by first|rfl|(simp;done)|(simp [*];done)),H',⟨by first|omega|exact Nat.le_refl _⟩,⟨by (with_reducible repeat (first|apply zo|apply zp|apply zq));exact HO297.out⟩,⟨by repeat (first|(with_reducible first|exact HB.out|apply ze|apply zd|apply zf)|exact HB.out)⟩⟩
    ·
     rw [if_neg c10] at H
     have c10b0 : ((l0.length : Int) == 0)=false:=beq_eq_false_iff_ne.mpr c10
     have c10b1 : ((l0.length : Int) != 0)=true:=bne_iff_ne.mpr c10
     have c10b2 : ¬ (l0 = []):=fun h_=>c10 (by rw [h_];rfl)
     (first|rw [c10b0]|(simp only [i64_w,i32_w];rw [c10b0])|skip)
     have H' := zm H
     clear H
     obtain ⟨Ao11,co11,eo11⟩:=Kd.R_slice HO297.out
     subst eo11
     go_wp2
     repeat (go_quiet (fail);try go_wp2)
     go_meet
     case rel=>exact ⟨_,(((t294.length : Int) != (l0.length : Int))),(by first|rfl|(simp;done)|(simp [*];done)),H',⟨by first|omega|exact Nat.le_refl _⟩,⟨by (with_reducible repeat (first|apply zo|apply zp|apply zq));exact HO297.out⟩,⟨by repeat (first|(with_reducible first|exact HB.out|apply ze|apply zd|apply zf)|exact HB.out)⟩⟩
   case rest =>
    clear HC8
    try clear c1
    try clear p2
    try clear c3
    try clear c7
    try clear c7b0
    try clear c7b1
    try clear c8
    try clear c10
    try clear c10b0
    try clear c10b1
    try clear c10b2
    obtain ⟨kq,x34_7,rfl,HA,HJ7,HO_3,HB⟩:=hcut
    cases kq with
    | zero=>exact absurd HA.out (by simp [psalterylaw08_WaveBounds.j0])
    | succ kj7 =>
     have H:=HA.out;clear HA
     simp only [psalterylaw08_WaveBounds.j0] at H
     by_cases c12 : x34_7=true
     ·
      subst c12
      have H1 : (none)=some r:=by rw [if_pos rfl] at H;exact H
      clear H;have H:=H1;clear H1
      exact absurd H (by simp)
     ·
      replace c12:=Bool.eq_false_iff.mpr c12
      subst c12
      have H1 : (if 0 < (l0.length : Int) then (psalterylaw08_WaveBounds.l0 kj7 l0 t294 (rd l0 0) (rd l0 0) 0) else (none))=some r:=by rw [if_neg (show ¬ (false=true) by decide)] at H;exact H
      clear H;have H:=H1;clear H1
      by_cases c13 : 0 < (l0.length : Int)
      ·
       rw [if_pos c13] at H
       have c13b0 : decide (0 < (l0.length : Int))=true:=decide_eq_true c13
       have c13b1 : decide (0 < l0.length)=true:=decide_eq_true (by omega)
       clear c13
       have H' := zm H
       clear H
       have p299 : 0≤(0 : Int):=(by omega)
       have q299 : 0 < (l0.length : Int):=of_decide_eq_true (by first|(with_reducible assumption)|assumption)
       obtain ⟨ad299,e299,hx299_0⟩:=Kd.at_int HR0.out 0 p299 q299
       cases e299
       have qi299 : (0 < l0.length)=True:=eq_true (by omega)
       (try rw [show ((0 : Int)).toNat=0 from rfl] at hx299_0)
       (try rw [Addr.add_zero'] at hx299_0)
       replace hx299_0:=(HB.out.cell (zb w _ hx299_0)).trans hx299_0
       replace p299:=eq_true p299
       replace q299:=eq_true q299
       have p300 : 0≤(0 : Int):=(by omega)
       have q300 : 0 < (l0.length : Int):=of_decide_eq_true (by first|(with_reducible assumption)|assumption)
       obtain ⟨ad300,e300,hx300_0⟩:=Kd.at_int HR0.out 0 p300 q300
       obtain rfl : ad299=ad300:=(by injection e300)
       have qi300 : (0 < l0.length)=True:=eq_true (by omega)
       (try rw [show ((0 : Int)).toNat=0 from rfl] at hx300_0)
       (try rw [Addr.add_zero'] at hx300_0)
       replace hx300_0:=(HB.out.cell (zb w _ hx300_0)).trans hx300_0
       replace p300:=eq_true p300
       replace q300:=eq_true q300
       go_wp2
       repeat (go_quiet (fail);try go_wp2)
       go_loopg [5,6,7] kj7 (fun kq v5 v6 v7 w' => ∃ (x5_2 : Int) (x6_2 : Int) (x7_2 : Int),v5=.int .i64 x5_2∧v6=.int .i64 x6_2∧v7=.int .i64 x7_2∧Aside0 (psalterylaw08_WaveBounds.l0 kq l0 t294 x5_2 x6_2 x7_2=some r)∧Aside0 (kq≤kj7)∧Aside0 (Kd.R (Kd.int .i64) 2 w' w.heap.size (fun _=>True) v296 t294)∧Aside0 (Below w.heap.size w w'))
       case atStart=>exact ⟨(rd l0 0),(rd l0 0),(0),(by first|rfl|(simp;done)|(simp [*];done)),(by first|rfl|(simp;done)|(simp [*];done)),(by first|rfl|(simp;done)|(simp [*];done)),H',⟨Nat.le_refl _⟩,⟨by (with_reducible repeat (first|apply zo|apply zp|apply zq));exact HO_3.out⟩,⟨by repeat (first|(with_reducible first|exact HB.out|apply ze|apply zd|apply zf)|exact HB.out)⟩⟩
       case round =>
        clear H'
        try clear c1
        try clear p2
        try clear q2
        try clear hx2
        try clear qi2
        try clear c3
        try clear p3
        try clear q3
        try clear hx3
        try clear qi3
        try clear c7
        try clear c7b0
        try clear c7b1
        try clear c8
        try clear c10
        try clear c10b0
        try clear c10b1
        try clear c10b2
        try clear c12
        try clear c13
        try clear c13b0
        try clear c13b1
        try clear hx299_0
        try clear hx300_0
        try clear p2
        try clear p299
        try clear p300
        try clear q299
        try clear q300
        obtain ⟨x5_2,x6_2,x7_2,rfl,rfl,rfl,HA,HK2,HO_3,HB⟩:=hrel
        cases gk with
        | zero=>exact absurd HA.out (by simp [psalterylaw08_WaveBounds.l0])
        | succ k2 =>
         have H:=HA.out;clear HA
         simp only [psalterylaw08_WaveBounds.l0] at H
         by_cases c14 : x7_2 < (l0.length : Int)
         ·
          rw [if_pos c14] at H
          have c14b0 : decide (x7_2 < (l0.length : Int))=true:=decide_eq_true c14
          clear c14
          by_cases c15 : 0≤x7_2
          ·
           rw [if_pos c15] at H
           have c15b0 : decide (0≤x7_2)=true:=decide_eq_true c15
           clear c15
           by_cases c16 : (rd l0 x7_2) < x5_2
           ·
            rw [if_pos c16] at H
            have c16b0 : decide ((rd l0 x7_2) < x5_2)=true:=decide_eq_true c16
            clear c16
            by_cases c17 : (rd l0 x7_2) > x6_2
            ·
             rw [if_pos c17] at H
             have c17b0 : decide (x6_2 < (rd l0 x7_2))=true:=decide_eq_true c17
             clear c17
             have H' := zm H
             clear H
             have p301 : 0≤(x7_2 : Int):=of_decide_eq_true (by first|(with_reducible assumption)|assumption)
             have q301 : x7_2 < (l0.length : Int):=of_decide_eq_true (by first|(with_reducible assumption)|assumption)
             obtain ⟨ad301,e301,hx301_0⟩:=Kd.at_int HR0.out x7_2 p301 q301
             obtain rfl : ad299=ad301:=(by injection e301)
             replace hx301_0:=(HB.out.cell (zb w _ hx301_0)).trans hx301_0
             replace p301:=eq_true p301
             replace q301:=eq_true q301
             have p302 : 0≤(x7_2 : Int):=of_decide_eq_true (by first|(with_reducible assumption)|assumption)
             have q302 : x7_2 < (l0.length : Int):=of_decide_eq_true (by first|(with_reducible assumption)|assumption)
             obtain ⟨ad302,e302,hx302_0⟩:=Kd.at_int HR0.out x7_2 p302 q302
             obtain rfl : ad299=ad302:=(by injection e302)
             replace hx302_0:=(HB.out.cell (zb w _ hx302_0)).trans hx302_0
             replace p302:=eq_true p302
             replace q302:=eq_true q302
             have p303 : 0≤(x7_2 : Int):=of_decide_eq_true (by first|(with_reducible assumption)|assumption)
             have q303 : x7_2 < (l0.length : Int):=of_decide_eq_true (by first|(with_reducible assumption)|assumption)
             obtain ⟨ad303,e303,hx303_0⟩:=Kd.at_int HR0.out x7_2 p303 q303
             obtain rfl : ad299=ad303:=(by injection e303)
             replace hx303_0:=(HB.out.cell (zb w _ hx303_0)).trans hx303_0
             replace p303:=eq_true p303
             replace q303:=eq_true q303
             have p304 : 0≤(x7_2 : Int):=of_decide_eq_true (by first|(with_reducible assumption)|assumption)
             have q304 : x7_2 < (l0.length : Int):=of_decide_eq_true (by first|(with_reducible assumption)|assumption)
             obtain ⟨ad304,e304,hx304_0⟩:=Kd.at_int HR0.out x7_2 p304 q304
             obtain rfl : ad299=ad304:=(by injection e304)
             replace hx304_0:=(HB.out.cell (zb w _ hx304_0)).trans hx304_0
             replace p304:=eq_true p304
             replace q304:=eq_true q304
             go_wp2
             repeat (go_quiet (fail);try go_wp2)
             go_roundg k2
             case measure=>have:=HJ7.out;have:=HK2.out;omega
             case rel=>exact ⟨(rd l0 x7_2),(rd l0 x7_2),(wrap64 (x7_2+1)),(by first|rfl|(simp;done)|(simp [*];done)),(by first|rfl|(simp;done)|(simp [*];done)),(by first|rfl|(simp;done)|(simp [*];done)),H',⟨by have:=HJ7.out;have:=HK2.out;omega⟩,⟨by (with_reducible repeat (first|apply zo|apply zp|apply zq));exact HO_3.out⟩,⟨by repeat (first|(with_reducible first|exact HB.out|apply ze|apply zd|apply zf)|exact HB.out)⟩⟩
            ·
             rw [if_neg c17] at H
             have c17b0 : decide (x6_2 < (rd l0 x7_2))=false:=decide_eq_false c17
             clear c17
             have H' := zm H
             clear H
             have p301 : 0≤(x7_2 : Int):=of_decide_eq_true (by first|(with_reducible assumption)|assumption)
             have q301 : x7_2 < (l0.length : Int):=of_decide_eq_true (by first|(with_reducible assumption)|assumption)
             obtain ⟨ad301,e301,hx301_0⟩:=Kd.at_int HR0.out x7_2 p301 q301
             obtain rfl : ad299=ad301:=(by injection e301)
             replace hx301_0:=(HB.out.cell (zb w _ hx301_0)).trans hx301_0
             replace p301:=eq_true p301
             replace q301:=eq_true q301
             have p302 : 0≤(x7_2 : Int):=of_decide_eq_true (by first|(with_reducible assumption)|assumption)
             have q302 : x7_2 < (l0.length : Int):=of_decide_eq_true (by first|(with_reducible assumption)|assumption)
             obtain ⟨ad302,e302,hx302_0⟩:=Kd.at_int HR0.out x7_2 p302 q302
             obtain rfl : ad299=ad302:=(by injection e302)
             replace hx302_0:=(HB.out.cell (zb w _ hx302_0)).trans hx302_0
             replace p302:=eq_true p302
             replace q302:=eq_true q302
             have p303 : 0≤(x7_2 : Int):=of_decide_eq_true (by first|(with_reducible assumption)|assumption)
             have q303 : x7_2 < (l0.length : Int):=of_decide_eq_true (by first|(with_reducible assumption)|assumption)
             obtain ⟨ad303,e303,hx303_0⟩:=Kd.at_int HR0.out x7_2 p303 q303
             obtain rfl : ad299=ad303:=(by injection e303)
             replace hx303_0:=(HB.out.cell (zb w _ hx303_0)).trans hx303_0
             replace p303:=eq_true p303
             replace q303:=eq_true q303
             go_wp2
             repeat (go_quiet (fail);try go_wp2)
             go_roundg k2
             case measure=>have:=HJ7.out;have:=HK2.out;omega
             case rel=>exact ⟨(rd l0 x7_2),(x6_2),(wrap64 (x7_2+1)),(by first|rfl|(simp;done)|(simp [*];done)),(by first|rfl|(simp;done)|(simp [*];done)),(by first|rfl|(simp;done)|(simp [*];done)),H',⟨by have:=HJ7.out;have:=HK2.out;omega⟩,⟨by (with_reducible repeat (first|apply zo|apply zp|apply zq));exact HO_3.out⟩,⟨by repeat (first|(with_reducible first|exact HB.out|apply ze|apply zd|apply zf)|exact HB.out)⟩⟩
           ·
            rw [if_neg c16] at H
            have c16b0 : decide ((rd l0 x7_2) < x5_2)=false:=decide_eq_false c16
            clear c16
            by_cases c18 : (rd l0 x7_2) > x6_2
            ·
             rw [if_pos c18] at H
             have c18b0 : decide (x6_2 < (rd l0 x7_2))=true:=decide_eq_true c18
             clear c18
             have H' := zm H
             clear H
             have p301 : 0≤(x7_2 : Int):=of_decide_eq_true (by first|(with_reducible assumption)|assumption)
             have q301 : x7_2 < (l0.length : Int):=of_decide_eq_true (by first|(with_reducible assumption)|assumption)
             obtain ⟨ad301,e301,hx301_0⟩:=Kd.at_int HR0.out x7_2 p301 q301
             obtain rfl : ad299=ad301:=(by injection e301)
             replace hx301_0:=(HB.out.cell (zb w _ hx301_0)).trans hx301_0
             replace p301:=eq_true p301
             replace q301:=eq_true q301
             have p305 : 0≤(x7_2 : Int):=of_decide_eq_true (by first|(with_reducible assumption)|assumption)
             have q305 : x7_2 < (l0.length : Int):=of_decide_eq_true (by first|(with_reducible assumption)|assumption)
             obtain ⟨ad305,e305,hx305_0⟩:=Kd.at_int HR0.out x7_2 p305 q305
             obtain rfl : ad299=ad305:=(by injection e305)
             replace hx305_0:=(HB.out.cell (zb w _ hx305_0)).trans hx305_0
             replace p305:=eq_true p305
             replace q305:=eq_true q305
             have p306 : 0≤(x7_2 : Int):=of_decide_eq_true (by first|(with_reducible assumption)|assumption)
             have q306 : x7_2 < (l0.length : Int):=of_decide_eq_true (by first|(with_reducible assumption)|assumption)
             obtain ⟨ad306,e306,hx306_0⟩:=Kd.at_int HR0.out x7_2 p306 q306
             obtain rfl : ad299=ad306:=(by injection e306)
             replace hx306_0:=(HB.out.cell (zb w _ hx306_0)).trans hx306_0
             replace p306:=eq_true p306
             replace q306:=eq_true q306
             go_wp2
             repeat (go_quiet (fail);try go_wp2)
             go_roundg k2
             case measure=>have:=HJ7.out;have:=HK2.out;omega
             case rel=>exact ⟨(x5_2),(rd l0 x7_2),(wrap64 (x7_2+1)),(by first|rfl|(simp;done)|(simp [*];done)),(by first|rfl|(simp;done)|(simp [*];done)),(by first|rfl|(simp;done)|(simp [*];done)),H',⟨by have:=HJ7.out;have:=HK2.out;omega⟩,⟨by (with_reducible repeat (first|apply zo|apply zp|apply zq));exact HO_3.out⟩,⟨by repeat (first|(with_reducible first|exact HB.out|apply ze|apply zd|apply zf)|exact HB.out)⟩⟩
            ·
             rw [if_neg c18] at H
             have c18b0 : decide (x6_2 < (rd l0 x7_2))=false:=decide_eq_false c18
             clear c18
             have H' := zm H
             clear H
             have p301 : 0≤(x7_2 : Int):=of_decide_eq_true (by first|(with_reducible assumption)|assumption)
             have q301 : x7_2 < (l0.length : Int):=of_decide_eq_true (by first|(with_reducible assumption)|assumption)
             obtain ⟨ad301,e301,hx301_0⟩:=Kd.at_int HR0.out x7_2 p301 q301
             obtain rfl : ad299=ad301:=(by injection e301)
             replace hx301_0:=(HB.out.cell (zb w _ hx301_0)).trans hx301_0
             replace p301:=eq_true p301
             replace q301:=eq_true q301
             have p305 : 0≤(x7_2 : Int):=of_decide_eq_true (by first|(with_reducible assumption)|assumption)
             have q305 : x7_2 < (l0.length : Int):=of_decide_eq_true (by first|(with_reducible assumption)|assumption)
             obtain ⟨ad305,e305,hx305_0⟩:=Kd.at_int HR0.out x7_2 p305 q305
             obtain rfl : ad299=ad305:=(by injection e305)
             replace hx305_0:=(HB.out.cell (zb w _ hx305_0)).trans hx305_0
             replace p305:=eq_true p305
             replace q305:=eq_true q305
             go_wp2
             repeat (go_quiet (fail);try go_wp2)
             go_roundg k2
             case measure=>have:=HJ7.out;have:=HK2.out;omega
             case rel=>exact ⟨(x5_2),(x6_2),(wrap64 (x7_2+1)),(by first|rfl|(simp;done)|(simp [*];done)),(by first|rfl|(simp;done)|(simp [*];done)),(by first|rfl|(simp;done)|(simp [*];done)),H',⟨by have:=HJ7.out;have:=HK2.out;omega⟩,⟨by (with_reducible repeat (first|apply zo|apply zp|apply zq));exact HO_3.out⟩,⟨by repeat (first|(with_reducible first|exact HB.out|apply ze|apply zd|apply zf)|exact HB.out)⟩⟩
          ·
           rw [if_neg c15] at H
           exact absurd H (by simp)
         ·
          rw [if_neg c14] at H
          have c14b0 : decide (x7_2 < (l0.length : Int))=false:=decide_eq_false c14
          clear c14;have HC19:=zm H;clear H
          go_upto_region 16 with (fail)
          repeat (go_quiet (fail);go_upto_region 16 with (fail))
          go_cut [78] (fun v78 wc => ∃ (kq : Nat) (x78_18 : Bool),v78=.bool x78_18∧Aside0 (psalterylaw08_WaveBounds.j2 kq t294 x5_2 x6_2 x78_18=some r)∧Aside0 (kq≤k2)∧Aside0 (Kd.R (Kd.int .i64) 2 wc w.heap.size (fun _=>True) v296 t294)∧Aside0 (Below w.heap.size w wc))
          case first =>
           have H:=HC19.out;clear HC19
           by_cases c20 : 0 < (t294.length : Int)
           ·
            rw [if_pos c20] at H
            have c20b0 : decide (0 < (t294.length : Int))=true:=decide_eq_true c20
            have c20b1 : decide (0 < t294.length)=true:=decide_eq_true (by omega)
            clear c20
            (first|rw [c20b0]|(simp only [i64_w,i32_w];rw [c20b0])|skip)
            by_cases c21 : (rd t294 0) < x5_2
            ·
             rw [if_pos c21] at H
             have c21b0 : decide ((rd t294 0) < x5_2)=true:=decide_eq_true c21
             clear c21
             have H' := zm H
             clear H
             obtain ⟨Ao22,co22,eo22⟩:=Kd.R_slice HO_3.out
             subst eo22
             have p307 : 0≤(0 : Int):=(by omega)
             have q307 : 0 < (t294.length : Int):=of_decide_eq_true (by first|(with_reducible assumption)|assumption)
             obtain ⟨ad307,e307,hx307_0⟩:=Kd.at_int (Kd.R_reads' HO_3.out).2.2 0 p307 q307
             cases e307
             have qi307 : (0 < t294.length)=True:=eq_true (by omega)
             (try rw [show ((0 : Int)).toNat=0 from rfl] at hx307_0)
             (try rw [Addr.add_zero'] at hx307_0)
             replace p307:=eq_true p307
             replace q307:=eq_true q307
             go_wp2
             repeat (go_quiet (fail);try go_wp2)
             go_meet
             case rel=>exact ⟨_,(true),(by first|rfl|(simp;done)|(simp [*];done)),H',⟨by have:=HJ7.out;have:=HK2.out;first|omega|exact Nat.le_refl _⟩,⟨by (with_reducible repeat (first|apply zo|apply zp|apply zq));exact HO_3.out⟩,⟨by repeat (first|(with_reducible first|exact HB.out|apply ze|apply zd|apply zf)|exact HB.out)⟩⟩
            ·
             rw [if_neg c21] at H
             have c21b0 : decide ((rd t294 0) < x5_2)=false:=decide_eq_false c21
             clear c21
             have H' := zm H
             clear H
             obtain ⟨Ao23,co23,eo23⟩:=Kd.R_slice HO_3.out
             subst eo23
             have p307 : 0≤(0 : Int):=(by omega)
             have q307 : 0 < (t294.length : Int):=of_decide_eq_true (by first|(with_reducible assumption)|assumption)
             obtain ⟨ad307,e307,hx307_0⟩:=Kd.at_int (Kd.R_reads' HO_3.out).2.2 0 p307 q307
             cases e307
             have qi307 : (0 < t294.length)=True:=eq_true (by omega)
             (try rw [show ((0 : Int)).toNat=0 from rfl] at hx307_0)
             (try rw [Addr.add_zero'] at hx307_0)
             replace p307:=eq_true p307
             replace q307:=eq_true q307
             have p308 : 0≤(0 : Int):=(by omega)
             have q308 : 0 < (t294.length : Int):=of_decide_eq_true (by first|(with_reducible assumption)|assumption)
             obtain ⟨ad308,e308,hx308_0⟩:=Kd.at_int (Kd.R_reads' HO_3.out).2.2 0 p308 q308
             obtain rfl : ad307=ad308:=(by injection e308)
             have qi308 : (0 < t294.length)=True:=eq_true (by omega)
             (try rw [show ((0 : Int)).toNat=0 from rfl] at hx308_0)
             (try rw [Addr.add_zero'] at hx308_0)
             replace p308:=eq_true p308
             replace q308:=eq_true q308
             go_wp2
             repeat (go_quiet (fail);try go_wp2)
             go_meet
             case rel=>exact ⟨_,(decide ((rd t294 0) > x6_2)),(by first|rfl|(simp;done)|(simp [*];done)),H',⟨by have:=HJ7.out;have:=HK2.out;first|omega|exact Nat.le_refl _⟩,⟨by (with_reducible repeat (first|apply zo|apply zp|apply zq));exact HO_3.out⟩,⟨by repeat (first|(with_reducible first|exact HB.out|apply ze|apply zd|apply zf)|exact HB.out)⟩⟩
           ·
            rw [if_neg c20] at H
            exact absurd H (by simp)
          case rest =>
           clear HC19
           try clear c1
           try clear c2
           try clear p2
           try clear q2
           try clear hx2
           try clear qi2
           try clear c3
           try clear p3
           try clear q3
           try clear hx3
           try clear qi3
           try clear p6
           try clear c7
           try clear c7b0
           try clear c7b1
           try clear c8
           try clear c10
           try clear c10b0
           try clear c10b1
           try clear c10b2
           try clear c12
           try clear c13
           try clear c13b0
           try clear c13b1
           try clear c14
           try clear c14b0
           try clear c15
           try clear c15b0
           try clear c16
           try clear c16b0
           try clear c17
           try clear c17b0
           try clear c18
           try clear c18b0
           try clear c20
           try clear c20b0
           try clear c20b1
           try clear c21
           try clear c21b0
           try clear hx299_0
           try clear hx300_0
           try clear hx301_0
           try clear hx302_0
           try clear hx303_0
           try clear hx304_0
           try clear hx305_0
           try clear hx306_0
           try clear hx307_0
           try clear hx308_0
           try clear p2
           try clear p299
           try clear p3
           try clear p300
           try clear p301
           try clear p302
           try clear p303
           try clear p304
           try clear p305
           try clear p306
           try clear p307
           try clear p308
           try clear q2
           try clear q299
           try clear q3
           try clear q300
           try clear q301
           try clear q302
           try clear q303
           try clear q304
           try clear q305
           try clear q306
           try clear q307
           try clear q308
           obtain ⟨kq,x78_18,rfl,HA,HJ18,HO_3,HB⟩:=hcut
           cases kq with
           | zero=>exact absurd HA.out (by simp [psalterylaw08_WaveBounds.j2])
           | succ kj18 =>
            have H:=HA.out;clear HA
            simp only [psalterylaw08_WaveBounds.j2] at H
            by_cases c24 : x78_18=true
            ·
             subst c24
             have H1 : (none)=some r:=by rw [if_pos rfl] at H;exact H
             clear H;have H:=H1;clear H1
             exact absurd H (by simp)
            ·
             replace c24:=Bool.eq_false_iff.mpr c24
             subst c24
             have H1 : (psalterylaw08_WaveBounds.l1 kj18 t294 x5_2 x6_2 1)=some r:=by rw [if_neg (show ¬ (false=true) by decide)] at H;exact H
             clear H;have H:=H1;clear H1
             have H' := zm H
             clear H
             go_wp2
             repeat (go_quiet (fail);try go_wp2)
             go_loopg [8] kj18 (fun kq v8 w' => ∃ (x8_4 : Int),v8=.int .i64 x8_4∧Aside0 (psalterylaw08_WaveBounds.l1 kq t294 x5_2 x6_2 x8_4=some r)∧Aside0 (kq≤kj18)∧Aside0 (Kd.R (Kd.int .i64) 2 w' w.heap.size (fun _=>True) v296 t294)∧Aside0 (Below w.heap.size w w'))
             case atStart=>exact ⟨(1),(by first|rfl|(simp;done)|(simp [*];done)),H',⟨Nat.le_refl _⟩,⟨by (with_reducible repeat (first|apply zo|apply zp|apply zq));exact HO_3.out⟩,⟨by repeat (first|(with_reducible first|exact HB.out|apply ze|apply zd|apply zf)|exact HB.out)⟩⟩
             case round =>
              clear H'
              try clear c1
              try clear c2
              try clear p2
              try clear q2
              try clear hx2
              try clear qi2
              try clear c3
              try clear p3
              try clear q3
              try clear hx3
              try clear qi3
              try clear p6
              try clear c7
              try clear c7b0
              try clear c7b1
              try clear c8
              try clear c10
              try clear c10b0
              try clear c10b1
              try clear c10b2
              try clear c12
              try clear c13
              try clear c13b0
              try clear c13b1
              try clear c14
              try clear c14b0
              try clear c15
              try clear c15b0
              try clear c16
              try clear c16b0
              try clear c17
              try clear c17b0
              try clear c18
              try clear c18b0
              try clear c20
              try clear c20b0
              try clear c20b1
              try clear c21
              try clear c21b0
              try clear c24
              try clear hx299_0
              try clear hx300_0
              try clear hx301_0
              try clear hx302_0
              try clear hx303_0
              try clear hx304_0
              try clear hx305_0
              try clear hx306_0
              try clear hx307_0
              try clear hx308_0
              try clear p2
              try clear p299
              try clear p3
              try clear p300
              try clear p301
              try clear p302
              try clear p303
              try clear p304
              try clear p305
              try clear p306
              try clear p307
              try clear p308
              try clear p6
              try clear q2
              try clear q299
              try clear q3
              try clear q300
              try clear q301
              try clear q302
              try clear q303
              try clear q304
              try clear q305
              try clear q306
              try clear q307
              try clear q308
              obtain ⟨x8_4,rfl,HA,HK4,HO_3,HB⟩:=hrel
              cases gk with
              | zero=>exact absurd HA.out (by simp [psalterylaw08_WaveBounds.l1])
              | succ k4 =>
               have H:=HA.out;clear HA
               simp only [psalterylaw08_WaveBounds.l1] at H
               by_cases c25 : x8_4 < (t294.length : Int)
               ·
                rw [if_pos c25] at H
                have c25b0 : decide (x8_4 < (t294.length : Int))=true:=decide_eq_true c25
                clear c25
                by_cases c26 : 0≤x8_4
                ·
                 rw [if_pos c26] at H
                 have c26b0 : decide (0≤x8_4)=true:=decide_eq_true c26
                 clear c26
                 by_cases c27 : (rd t294 x8_4) > (wrap64 (x6_2 - x5_2))
                 ·
                  rw [if_pos c27] at H
                  exact absurd H (by simp)
                 ·
                  rw [if_neg c27] at H
                  have c27b0 : decide ((wrap64 (x6_2 - x5_2)) < (rd t294 x8_4))=false:=decide_eq_false c27
                  clear c27
                  by_cases c28 : (rd t294 x8_4) < (wrap64 (x5_2 - x6_2))
                  ·
                   rw [if_pos c28] at H
                   exact absurd H (by simp)
                  ·
                   rw [if_neg c28] at H
                   have c28b0 : decide ((rd t294 x8_4) < (wrap64 (x5_2 - x6_2)))=false:=decide_eq_false c28
                   clear c28
                   have H' := zm H
                   clear H
                   obtain ⟨Ao29,co29,eo29⟩:=Kd.R_slice HO_3.out
                   subst eo29
                   have p309 : 0≤(x8_4 : Int):=of_decide_eq_true (by first|(with_reducible assumption)|assumption)
                   have q309 : x8_4 < (t294.length : Int):=of_decide_eq_true (by first|(with_reducible assumption)|assumption)
                   obtain ⟨ad309,e309,hx309_0⟩:=Kd.at_int (Kd.R_reads' HO_3.out).2.2 x8_4 p309 q309
                   cases e309
                   replace p309:=eq_true p309
                   replace q309:=eq_true q309
                   have p310 : 0≤(x8_4 : Int):=of_decide_eq_true (by first|(with_reducible assumption)|assumption)
                   have q310 : x8_4 < (t294.length : Int):=of_decide_eq_true (by first|(with_reducible assumption)|assumption)
                   obtain ⟨ad310,e310,hx310_0⟩:=Kd.at_int (Kd.R_reads' HO_3.out).2.2 x8_4 p310 q310
                   obtain rfl : ad309=ad310:=(by injection e310)
                   replace p310:=eq_true p310
                   replace q310:=eq_true q310
                   go_wp2
                   repeat (go_quiet (fail);try go_wp2)
                   go_roundg k4
                   case measure=>have:=HJ7.out;have:=HK2.out;have:=HJ18.out;have:=HK4.out;omega
                   case rel=>exact ⟨(wrap64 (x8_4+1)),(by first|rfl|(simp;done)|(simp [*];done)),H',⟨by have:=HJ7.out;have:=HK2.out;have:=HJ18.out;have:=HK4.out;omega⟩,⟨by (with_reducible repeat (first|apply zo|apply zp|apply zq));exact HO_3.out⟩,⟨by repeat (first|(with_reducible first|exact HB.out|apply ze|apply zd|apply zf)|exact HB.out)⟩⟩
                ·
                 rw [if_neg c26] at H
                 exact absurd H (by simp)
               ·
                rw [if_neg c25] at H
                have c25b0 : decide (x8_4 < (t294.length : Int))=false:=decide_eq_false c25
                clear c25
                replace H:=Option.bind_eq_some_iff.mp H
                obtain ⟨t311,A300,H⟩:=H
                replace H : (some t311)=some r:=H
                have A30:=zm A300;clear A300
                obtain rfl:=Option.some.inj H
                obtain ⟨Ao31,co31,eo31⟩:=Kd.R_slice HO_3.out
                subst eo31
                go_wp2_with (first|(go_at_call 10;(with_reducible refine (psalterylaw08_knows.calls k4  t311 _ A30.out).mono ?_);rintro e w32 ⟨rfl,hb⟩;have n0_:=zm (Kd.R_below (by (with_reducible repeat (first|apply zo|apply zp|apply zq));exact HO_3.out) hb);have n1_:=zm (zJ (by repeat (first|(with_reducible first|exact HB.out|apply ze|apply zd|apply zf)|exact HB.out)) hb);clear HO_3;clear HB;have HO_3:=n0_;have HB:=n1_;clear n0_ n1_;(try clear hb);(try clear hb2);(try clear hk);(try clear hi)))
                repeat (go_quiet (first|(go_at_call 10;(with_reducible refine (psalterylaw08_knows.calls k4  t311 _ A30.out).mono ?_);rintro e w32 ⟨rfl,hb⟩;have n0_:=zm (Kd.R_below (by (with_reducible repeat (first|apply zo|apply zp|apply zq));exact HO_3.out) hb);have n1_:=zm (zJ (by repeat (first|(with_reducible first|exact HB.out|apply ze|apply zd|apply zf)|exact HB.out)) hb);clear HO_3;clear HB;have HO_3:=n0_;have HB:=n1_;clear n0_ n1_;(try clear hb);(try clear hb2);(try clear hk);(try clear hi)));try go_wp2_with (first|(go_at_call 10;(with_reducible refine (psalterylaw08_knows.calls k4  t311 _ A30.out).mono ?_);rintro e w32 ⟨rfl,hb⟩;have n0_:=zm (Kd.R_below (by (with_reducible repeat (first|apply zo|apply zp|apply zq));exact HO_3.out) hb);have n1_:=zm (zJ (by repeat (first|(with_reducible first|exact HB.out|apply ze|apply zd|apply zf)|exact HB.out)) hb);clear HO_3;clear HB;have HO_3:=n0_;have HB:=n1_;clear n0_ n1_;(try clear hb);(try clear hb2);(try clear hk);(try clear hi))))
                go_ret
                exact ⟨by first|rfl|(simp [errW_none,errW_some] <;> rfl)|(simp [*,errW_none,errW_some] <;> rfl),by repeat (first|(with_reducible first|exact HB.out|apply ze|apply zd|apply zf)|exact HB.out)⟩
      ·
       rw [if_neg c13] at H
       exact absurd H (by simp)
  ·
   rw [if_neg c7] at H
   have c7b0 : (t295 == 0)=false:=beq_eq_false_iff_ne.mpr c7
   have c7b1 : (t295 != 0)=true:=bne_iff_ne.mpr c7
   by_cases c33 : (t294.length : Int)=0
   ·
    rw [if_pos c33] at H
    have c33b0 : ((t294.length : Int) == 0)=true:=beq_iff_eq.mpr c33
    have c33b1 : ((t294.length : Int) != 0)=false:=bne_eq_false_iff_eq.mpr c33
    clear c33
    replace H:=Option.bind_eq_some_iff.mp H
    obtain ⟨t298,A340,H⟩:=H
    replace H : (some t298)=some r:=H
    have A34:=zm A340;clear A340
    obtain rfl:=Option.some.inj H
    go_enter Try.func8,Try.ntmps8
    go_wp2_with (first|(go_at_call 9;(with_reducible refine (psalterylaw08_great.calls _ _ l0 false _ ?side1 ?side2 A2.out).mono ?_);(case side1=>repeat (first|exact HR0.out|(with_reducible refine Kd.C_alloc ?_ _)|(with_reducible refine Kd.C_drewN ?_ _)|(with_reducible refine Kd.C_drew ?_)));(case side2=>exact HC0.out);rintro e w' ⟨rfl,⟨nd,rfl⟩⟩;(try first|exact ⟨rfl,_,World.drewN_drewN _ _ _⟩|exact ⟨rfl,_,Eq.trans (World.drewN_drewN _ _ _) (congrArg (World.drewN _) (Nat.add_assoc _ _ _))⟩))|(go_at_call 11;(with_reducible refine (wave_Forward.calls k _ _ l0 t294 t295 _ ?side1 ?side2 A6.out).mono ?_);(case side1=>repeat (first|exact HR0.out|(with_reducible refine Kd.C_alloc ?_ _)|(with_reducible refine Kd.C_drewN ?_ _)|(with_reducible refine Kd.C_drew ?_)));(case side2=>exact HC0.out);rintro e w35 ⟨v296,rfl,ho0,hb⟩;have n0_:=zm (Kd.R_lower ho0 (zE (by repeat (first|(with_reducible first|exact HB.out|apply ze|apply zd|apply zf)|exact HB.out))));have n1_:=zm (zJ (by repeat (first|(with_reducible first|exact HB.out|apply ze|apply zd|apply zf)|exact HB.out)) hb);clear HB;have HO297:=n0_;have HB:=n1_;clear n0_ n1_;(try clear hb);(try clear hb2);(try clear hk);(try clear hi);(try clear ho0);obtain ⟨Ao36,co36,eo36⟩:=Kd.R_slice HO297.out;subst eo36)|(go_at_call 10;(with_reducible refine (psalterylaw08_knows.calls k  t298 _ A34.out).mono ?_);rintro e w37 ⟨rfl,hb⟩;have n0_:=zm (Kd.R_below (by (with_reducible repeat (first|apply zo|apply zp|apply zq));exact HO297.out) hb);have n1_:=zm (zJ (by repeat (first|(with_reducible first|exact HB.out|apply ze|apply zd|apply zf)|exact HB.out)) hb);clear HO297;clear HB;have HO297:=n0_;have HB:=n1_;clear n0_ n1_;(try clear hb);(try clear hb2);(try clear hk);(try clear hi)))
    repeat (go_quiet (first|(go_at_call 9;(with_reducible refine (psalterylaw08_great.calls _ _ l0 false _ ?side1 ?side2 A2.out).mono ?_);(case side1=>repeat (first|exact HR0.out|(with_reducible refine Kd.C_alloc ?_ _)|(with_reducible refine Kd.C_drewN ?_ _)|(with_reducible refine Kd.C_drew ?_)));(case side2=>exact HC0.out);rintro e w' ⟨rfl,⟨nd,rfl⟩⟩;(try first|exact ⟨rfl,_,World.drewN_drewN _ _ _⟩|exact ⟨rfl,_,Eq.trans (World.drewN_drewN _ _ _) (congrArg (World.drewN _) (Nat.add_assoc _ _ _))⟩))|(go_at_call 11;(with_reducible refine (wave_Forward.calls k _ _ l0 t294 t295 _ ?side1 ?side2 A6.out).mono ?_);(case side1=>repeat (first|exact HR0.out|(with_reducible refine Kd.C_alloc ?_ _)|(with_reducible refine Kd.C_drewN ?_ _)|(with_reducible refine Kd.C_drew ?_)));(case side2=>exact HC0.out);rintro e w35 ⟨v296,rfl,ho0,hb⟩;have n0_:=zm (Kd.R_lower ho0 (zE (by repeat (first|(with_reducible first|exact HB.out|apply ze|apply zd|apply zf)|exact HB.out))));have n1_:=zm (zJ (by repeat (first|(with_reducible first|exact HB.out|apply ze|apply zd|apply zf)|exact HB.out)) hb);clear HB;have HO297:=n0_;have HB:=n1_;clear n0_ n1_;(try clear hb);(try clear hb2);(try clear hk);(try clear hi);(try clear ho0);obtain ⟨Ao36,co36,eo36⟩:=Kd.R_slice HO297.out;subst eo36)|(go_at_call 10;(with_reducible refine (psalterylaw08_knows.calls k  t298 _ A34.out).mono ?_);rintro e w37 ⟨rfl,hb⟩;have n0_:=zm (Kd.R_below (by (with_reducible repeat (first|apply zo|apply zp|apply zq));exact HO297.out) hb);have n1_:=zm (zJ (by repeat (first|(with_reducible first|exact HB.out|apply ze|apply zd|apply zf)|exact HB.out)) hb);clear HO297;clear HB;have HO297:=n0_;have HB:=n1_;clear n0_ n1_;(try clear hb);(try clear hb2);(try clear hk);(try clear hi)));try go_wp2_with (first|(go_at_call 9;(with_reducible refine (psalterylaw08_great.calls _ _ l0 false _ ?side1 ?side2 A2.out).mono ?_);(case side1=>repeat (first|exact HR0.out|(with_reducible refine Kd.C_alloc ?_ _)|(with_reducible refine Kd.C_drewN ?_ _)|(with_reducible refine Kd.C_drew ?_)));(case side2=>exact HC0.out);rintro e w' ⟨rfl,⟨nd,rfl⟩⟩;(try first|exact ⟨rfl,_,World.drewN_drewN _ _ _⟩|exact ⟨rfl,_,Eq.trans (World.drewN_drewN _ _ _) (congrArg (World.drewN _) (Nat.add_assoc _ _ _))⟩))|(go_at_call 11;(with_reducible refine (wave_Forward.calls k _ _ l0 t294 t295 _ ?side1 ?side2 A6.out).mono ?_);(case side1=>repeat (first|exact HR0.out|(with_reducible refine Kd.C_alloc ?_ _)|(with_reducible refine Kd.C_drewN ?_ _)|(with_reducible refine Kd.C_drew ?_)));(case side2=>exact HC0.out);rintro e w35 ⟨v296,rfl,ho0,hb⟩;have n0_:=zm (Kd.R_lower ho0 (zE (by repeat (first|(with_reducible first|exact HB.out|apply ze|apply zd|apply zf)|exact HB.out))));have n1_:=zm (zJ (by repeat (first|(with_reducible first|exact HB.out|apply ze|apply zd|apply zf)|exact HB.out)) hb);clear HB;have HO297:=n0_;have HB:=n1_;clear n0_ n1_;(try clear hb);(try clear hb2);(try clear hk);(try clear hi);(try clear ho0);obtain ⟨Ao36,co36,eo36⟩:=Kd.R_slice HO297.out;subst eo36)|(go_at_call 10;(with_reducible refine (psalterylaw08_knows.calls k  t298 _ A34.out).mono ?_);rintro e w37 ⟨rfl,hb⟩;have n0_:=zm (Kd.R_below (by (with_reducible repeat (first|apply zo|apply zp|apply zq));exact HO297.out) hb);have n1_:=zm (zJ (by repeat (first|(with_reducible first|exact HB.out|apply ze|apply zd|apply zf)|exact HB.out)) hb);clear HO297;clear HB;have HO297:=n0_;have HB:=n1_;clear n0_ n1_;(try clear hb);(try clear hb2);(try clear hk);(try clear hi))))
    go_ret
    exact ⟨by first|rfl|(simp [errW_none,errW_some] <;> rfl)|(simp [*,errW_none,errW_some] <;> rfl),by repeat (first|(with_reducible first|exact HB.out|apply ze|apply zd|apply zf)|exact HB.out)⟩
   ·
    rw [if_neg c33] at H
    exact absurd H (by simp)

/-- THE ONE PURE STATEMENT of psalterylaw08_WaveBounds: yours. -/
def psalterylaw08_WaveBounds.Pure : Prop := ∀ (l0 : List Int),l0.length≤maxLen→l0.length * 8≤140737488351232→(∀ x ∈ l0,(Lit.int .i64 x).wf=true)→∃ k,psalterylaw08_WaveBounds.f k l0=some true
theorem psalterylaw08_WaveBounds.walk (P : psalterylaw08_WaveBounds.Pure) (a0 : Option Addr) (len0 cap0 : Nat) (z0 : List Int) (w : World) (w0 : (a0=none∧len0=0∧cap0=0∧z0 = [])∨∃ x,a0=some x∧len0≤cap0∧cap0≤maxLen∧z0.length=cap0∧(∀ i,i < z0.length→w.cell? (x.add i)=some (.int .i64 (z0.getD i 0)))∧∀ n ∈ z0,(Lit.int .i64 n).wf=true) (y0 : len0 * 8≤140737488351232) :
  Calls Try.prog 8 #[.slice a0 len0 cap0] w fun e w' => e=.returned (.bool true)∧Below w.heap.size w w' := by
 obtain ⟨l0,rfl,hr0,hm0,hw0,hc0⟩:=ReadsInt.ofRowC w0
 obtain ⟨k,h⟩:=P l0 hm0 y0 hw0
 refine (psalterylaw08_WaveBounds.calls k _ _ l0 true w (Kd.C_of_reads (d:=(0 : Int)) (h1:=fun _=>rfl) hr0) hc0 h).mono ?_
 rintro e w' ⟨rfl,hd⟩
 exact ⟨rfl,hd⟩

end Go.Proofs.Ytiikcnbfdnadfaa.Prt
