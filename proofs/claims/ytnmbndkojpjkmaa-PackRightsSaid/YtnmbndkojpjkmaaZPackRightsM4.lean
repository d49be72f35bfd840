-- Functions of the program and of the document as plain Lean, each with the proof that the code comes to it. Written by a program of this session (wip/tools/myprint.py, pack.py) over the kit's printer; Lean checks it.
import Derived.Test.YtnmbndkojpjkmaaZPackRightsPrt0
import Derived.Test.YtnmbndkojpjkmaaZPackRightsM3
import Derived.Test.YtnmbndkojpjkmaaZPackRightsSh
import Derived.Test.YtnmbndkojpjkmaaZPackRightsM1
namespace Go.Proofs.Ytnmbndkojpjkmaa.Prt
open Go.RowKit Go.Proofs.YtnmbndkojpjkmaaW.PrintWords Go.Proofs.YtnmbndkojpjkmaaW.PrintLast Go.Proofs.YtnmbndkojpjkmaaW.PrintMore
attribute [local go_sem] max2_int min2_int max_two min_two max_three min_three max_four min_four   -- for this text's walks alone
set_option linter.unusedVariables false
set_option linter.unusedSimpArgs false


def psalteryref12_Spent.l0 : Nat→List Int→Int→Int→Option (Int)
 | 0,_,_,_=>none
 | k+1,x0,x3,x4=>if x4 < 5 then ((psalteryref10_Width.f k x4).bind fun t704=>(if 0≤x4 then (if x4 < (x0.length : Int) then ((psalteryref06_Cost.f k t704 (rd x0 x4)).bind fun t706=>(psalteryref12_Spent.l0 k x0 (wrap64 (x3+t706)) (wrap64 (x4+1)))) else (none)) else (none))) else (some x3)
def psalteryref12_Spent.f (k : Nat) (l0 : List Int) : Option (Int):=psalteryref12_Spent.l0 k l0 0 0
theorem psalteryref12_Spent.mono_l : ∀ k,(∀ y0 y1 y2,LeO (psalteryref12_Spent.l0 k y0 y1 y2) (psalteryref12_Spent.l0 (k+1) y0 y1 y2))
 | 0=>fun _ _ _ r h=>by simp [psalteryref12_Spent.l0] at h
 | k+1=>by
  have ih0:=psalteryref12_Spent.mono_l k
  ·
   intro y0 y1 y2
   unfold psalteryref12_Spent.l0
   repeat' with_reducible first|apply ih0|apply psalteryref06_Cost.mono|apply psalteryref10_Width.mono|apply yLr|apply yLn|apply yLi|apply yLb|intro _
theorem psalteryref12_Spent.mono : ∀ a0 k,LeO (psalteryref12_Spent.f k a0) (psalteryref12_Spent.f (k+1) a0):=by
 intro a0 k
 have ih0:=psalteryref12_Spent.mono_l k
 unfold psalteryref12_Spent.f
 repeat' with_reducible first|apply ih0|apply psalteryref06_Cost.mono|apply psalteryref10_Width.mono|apply yLr|apply yLn|apply yLi|apply yLb|intro _
def psalteryref12_Spent.T5 : Bool × List (List Nat × List Nat):=(true, [([], []),([], []),([1], [1]),([], []),([], []),([3,4], [3,4]),([5], [5]),([2,6,2], [2,6]),([0,7], [0,7]),([8,7,0,1,2,3,4,5,6,7,8], [0,8])])
def psalteryref12_Spent.B5 : List Nat := [0,0,2,0,0,24,56,126,255,511]
theorem psalteryref12_Spent.tab5 : rtab .any (opsOf Try.f99 5)=psalteryref12_Spent.T5:=by kernel_rfl
theorem psalteryref12_Spent.bits5 : waitsOk psalteryref12_Spent.T5.2 psalteryref12_Spent.B5=true:=by kernel_rfl
set_option maxHeartbeats 8000000 in
set_option maxRecDepth 100000 in
theorem psalteryref12_Spent.calls (k : Nat) (A0 : Option Addr) (c0 : Nat) (l0 : List Int) (r : Int) (w : World) (hr0 : Kd.C (Kd.int .i64) w A0 l0.length l0) (hc0 : l0.length≤c0) (h : psalteryref12_Spent.f k l0=some r) :
  Calls Try.prog 99 #[.slice A0 l0.length c0] w fun e w' => e=.returned (.int .i64 r)∧Below w.heap.size w w' := by
 have HR0:=zm hr0;have HC0:=zm hc0;clear hr0 hc0;have HB:=zm (Below.refl w.heap.size w)
 have H : (psalteryref12_Spent.l0 k l0 0 0)=some r:=h
 clear h
 have H' := zm H
 clear H
 go_enter Try.func99,Try.ntmps99
 go_wp2
 go_loopg [3,4] k (fun kq v3 v4 w' => ∃ (x3_1 : Int) (x4_1 : Int),v3=.int .i64 x3_1∧v4=.int .i64 x4_1∧Aside0 (psalteryref12_Spent.l0 kq l0 x3_1 x4_1=some r)∧Aside0 (kq≤k)∧Aside0 (Below w.heap.size w w'))
 case atStart=>exact ⟨(0),(0),yq,yq,H',⟨Nat.le_refl _⟩,⟨yhb⟩⟩
 case round =>
  clear H'
  obtain ⟨x3_1,x4_1,rfl,rfl,HA,HK1,HB⟩:=hrel
  obtain ⟨k1,rfl⟩:=ysu gk (fun h=>by subst h;exact absurd HA.out (by simp [psalteryref12_Spent.l0]))
  have H:=HA.out;clear HA
  simp only [psalteryref12_Spent.l0] at H
  by_cases c2 : x4_1 < 5
  ·
   rw [if_pos c2] at H
   have c2b0 : decide (x4_1 < 5)=true:=decide_eq_true c2
   clear c2
   obtain ⟨t704,A3,H⟩:=ybi H
   obtain ⟨c4,H⟩:=yif H
   have c4b0 : decide (0≤x4_1)=true:=decide_eq_true c4
   clear c4
   obtain ⟨c5,H⟩:=yif H
   have c5b0 : decide (x4_1 < (l0.length : Int))=true:=decide_eq_true c5
   clear c5
   obtain ⟨t706,A6,H⟩:=ybi H
   have H' := zm H
   clear H
   try go_wp2
   replace HB:=zm (zf HB.out)
   have p705 : 0≤(x4_1 : Int):=yt
   have q705 : x4_1 < (l0.length : Int):=yt
   obtain ⟨ad705,e705,hx705_0⟩:=Kd.at_int HR0.out x4_1 p705 q705
   have hw705_0:=hx705_0
   cases e705
   replace hx705_0:=yhx HB hx705_0
   replace p705:=eq_true p705
   replace q705:=eq_true q705
   refine start_ (n:=10) (S:=fun w' => w'.cell? (ad705.add (x4_1).toNat)=some (.int .i64 (rd l0 x4_1))) (ds := []) #[false,false,false,false,false,false,false,false,false,false] (by kernel_rfl) rfl rfl ((yhx HB hw705_0 :)) (fun hHeld => ?_);refine with_tabW psalteryref12_Spent.tab5 psalteryref12_Spent.bits5 (fun HT_ HW_ => ?_)
   generalize wr.drew=w7 at HB hx705_0 hHeld ⊢
   refine yp 0 9 HT_ ?_
   refine yp 1 10 HT_ ?_
   refine yp 3 12 HT_ ?_
   refine yp 4 13 HT_ ?_
   refine yp 5 14 HT_ ?_
   refine yl 6 15 HT_ HW_ hHeld ?_
   refine yw 2 11 HT_ (fun K hK => ?_)
   refine ygs Try.func46 #[.int .i64 x4_1] ?_
   with_reducible refine (psalteryref10_Width.calls k1 x4_1 t704 _ A3.out).mono ?_
   rintro e w' ⟨rfl,⟨nd,rfl⟩⟩
   refine ⟨_,rfl, ?_⟩
   refine hK.out _ _ ((yhx HB hw705_0 :)) (fun hHeld => ?_)
   clear hK K
   refine ym (some 11) ?_
   refine yw 7 16 HT_ (fun K hK => ?_)
   refine ygs Try.func101 #[.int .i64 t704, .int .i64 (rd l0 x4_1)] ?_
   with_reducible refine (psalteryref06_Cost.calls k1 t704 (rd l0 x4_1) t706 _ A6.out).mono ?_
   rintro e w8 ⟨rfl,hb⟩
   refine ⟨_,rfl, ?_⟩
   replace HB:=ybs hb
   (try clear hb)
   refine hK.out _ _ ((yhx HB hw705_0 :)) (fun hHeld => ?_)
   clear hK K
   refine ym (some 16) ?_
   refine yp 8 17 HT_ ?_
   refine yp 9 3 HT_ ?_
   refine done_ (done_of HT_.out (by kernel_rfl)) ?_
   try go_wp2
   go_roundg k1
   case measure=>exact yom1 HK1
   case rel=>exact ⟨(wrap64 (x3_1+t706)),(wrap64 (x4_1+1)),yq,yq,H',⟨yom1 HK1⟩,⟨yhb⟩⟩
  ·
   rw [if_neg c2] at H
   have c2b0 : decide (x4_1 < 5)=false:=decide_eq_false c2
   clear c2
   obtain rfl:=Option.some.inj H
   go_wp2
   go_ret
   exact ⟨ye,yhb⟩
def psalteryref12_May.j0 : Nat→List Int→Int→Int→Bool→Option (Bool)
 | 0,_,_,_,_=>none
 | k+1,x1,x2,x3,x32=>if x32=true then (some false) else ((psalteryref12_More.f x1 x2).bind fun t711=>((psalteryref12_Spent.f k t711).bind fun t714=>(some (decide (t714≤x3)))))
def psalteryref12_May.f (k : Nat) (l0 : List Int) (l1 : List Int) (a2 : Int) (a3 : Int) : Option (Bool):=if 0≤a2 then (if a2 < (l0.length : Int) then (if (rd l0 a2) < 1 then (psalteryref12_May.j0 k l1 a2 a3 true) else (if a2 < (l1.length : Int) then (if (rd l1 a2) ≥ 12 then (psalteryref12_May.j0 k l1 a2 a3 true) else ((psalteryref10_Width.f k a2).bind fun t709=>(if t709=1 then (psalteryref12_May.j0 k l1 a2 a3 (decide ((rd l1 a2) > 0))) else (psalteryref12_May.j0 k l1 a2 a3 false)))) else (none))) else (none)) else (none)
theorem psalteryref12_May.mono_l : ∀ k,(∀ y0 y1 y2 y3,LeO (psalteryref12_May.j0 k y0 y1 y2 y3) (psalteryref12_May.j0 (k+1) y0 y1 y2 y3))
 | 0=>fun _ _ _ _ r h=>by simp [psalteryref12_May.j0] at h
 | k+1=>by
  have ih0:=psalteryref12_May.mono_l k
  ·
   intro y0 y1 y2 y3
   unfold psalteryref12_May.j0
   repeat' with_reducible first|apply ih0|apply psalteryref10_Width.mono|apply psalteryref12_Spent.mono|apply yLr|apply yLn|apply yLi|apply yLb|intro _
theorem psalteryref12_May.mono : ∀ a0 a1 a2 a3 k,LeO (psalteryref12_May.f k a0 a1 a2 a3) (psalteryref12_May.f (k+1) a0 a1 a2 a3):=by
 intro a0 a1 a2 a3 k
 have ih0:=psalteryref12_May.mono_l k
 unfold psalteryref12_May.f
 repeat' with_reducible first|apply ih0|apply psalteryref10_Width.mono|apply psalteryref12_Spent.mono|apply yLr|apply yLn|apply yLi|apply yLb|intro _
set_option maxHeartbeats 8000000 in
set_option maxRecDepth 100000 in
theorem psalteryref12_May.calls (k : Nat) (A0 : Option Addr) (c0 : Nat) (l0 : List Int) (A1 : Option Addr) (c1 : Nat) (l1 : List Int) (a2 : Int) (a3 : Int) (r : Bool) (w : World) (hr0 : Kd.C (Kd.int .i64) w A0 l0.length l0) (hc0 : l0.length≤c0) (hr1 : Kd.C (Kd.int .i64) w A1 l1.length l1) (hc1 : l1.length≤c1) (h : psalteryref12_May.f k l0 l1 a2 a3=some r) :
  Calls Try.prog 95 #[.slice A0 l0.length c0, .slice A1 l1.length c1, .int .i64 a2, .int .i64 a3] w fun e w' => e=.returned (.bool r)∧Below w.heap.size w w' := by
 have HR0:=zm hr0;have HC0:=zm hc0;clear hr0 hc0;have HR1:=zm hr1;have HC1:=zm hc1;clear hr1 hc1;have HB:=zm (Below.refl w.heap.size w)
 have H : (if 0≤a2 then (if a2 < (l0.length : Int) then (if (rd l0 a2) < 1 then (psalteryref12_May.j0 k l1 a2 a3 true) else (if a2 < (l1.length : Int) then (if (rd l1 a2) ≥ 12 then (psalteryref12_May.j0 k l1 a2 a3 true) else ((psalteryref10_Width.f k a2).bind fun t709=>(if t709=1 then (psalteryref12_May.j0 k l1 a2 a3 (decide ((rd l1 a2) > 0))) else (psalteryref12_May.j0 k l1 a2 a3 false)))) else (none))) else (none)) else (none))=some r:=h
 clear h;have HC5:=zm H;clear H
 go_enter Try.func95,Try.ntmps95
 go_upto_region 1 with (fail)
 go_cut [32] (fun v32 wc => ∃ (kq : Nat) (x32_4 : Bool),v32=.bool x32_4∧Aside0 (psalteryref12_May.j0 kq l1 a2 a3 x32_4=some r)∧Aside0 (kq≤k)∧Aside0 (Below w.heap.size w wc))
 case first =>
  have H:=HC5.out;clear HC5
  obtain ⟨c6,H⟩:=yif H
  have c6b0 : decide (0≤a2)=true:=decide_eq_true c6
  clear c6
  (first|rw [c6b0]|(simp only [i64_w,i32_w];rw [c6b0])|skip)
  obtain ⟨c7,H⟩:=yif H
  have c7b0 : decide (a2 < (l0.length : Int))=true:=decide_eq_true c7
  clear c7
  by_cases c8 : (rd l0 a2) < 1
  ·
   rw [if_pos c8] at H
   have c8b0 : decide ((rd l0 a2) < 1)=true:=decide_eq_true c8
   clear c8
   have H' := zm H
   clear H
   have p707 : 0≤(a2 : Int):=yt
   have q707 : a2 < (l0.length : Int):=yt
   obtain ⟨ad707,e707,hx707_0⟩:=Kd.at_int HR0.out a2 p707 q707
   cases e707
   replace hx707_0:=yhx HB hx707_0
   replace p707:=eq_true p707
   replace q707:=eq_true q707
   go_wp2
   go_meet
   case rel=>exact ⟨_,(true),yq,H',⟨yo⟩,⟨yhb⟩⟩
  ·
   rw [if_neg c8] at H
   have c8b0 : decide ((rd l0 a2) < 1)=false:=decide_eq_false c8
   clear c8
   obtain ⟨c9,H⟩:=yif H
   have c9b0 : decide (a2 < (l1.length : Int))=true:=decide_eq_true c9
   clear c9
   by_cases c10 : (rd l1 a2) ≥ 12
   ·
    rw [if_pos c10] at H
    have c10b0 : decide (12≤(rd l1 a2))=true:=decide_eq_true c10
    clear c10
    have H' := zm H
    clear H
    have p707 : 0≤(a2 : Int):=yt
    have q707 : a2 < (l0.length : Int):=yt
    obtain ⟨ad707,e707,hx707_0⟩:=Kd.at_int HR0.out a2 p707 q707
    cases e707
    replace hx707_0:=yhx HB hx707_0
    replace p707:=eq_true p707
    replace q707:=eq_true q707
    have p708 : 0≤(a2 : Int):=yt
    have q708 : a2 < (l1.length : Int):=yt
    obtain ⟨ad708,e708,hx708_0⟩:=Kd.at_int HR1.out a2 p708 q708
    cases e708
    replace hx708_0:=yhx HB hx708_0
    replace p708:=eq_true p708
    replace q708:=eq_true q708
    go_wp2
    go_meet
    case rel=>exact ⟨_,(true),yq,H',⟨yo⟩,⟨yhb⟩⟩
   ·
    rw [if_neg c10] at H
    have c10b0 : decide (12≤(rd l1 a2))=false:=decide_eq_false c10
    clear c10
    obtain ⟨t709,A11,H⟩:=ybi H
    by_cases c12 : t709=1
    ·
     rw [if_pos c12] at H
     have c12b0 : (t709 == 1)=true:=beq_iff_eq.mpr c12
     have c12b1 : (t709 != 1)=false:=bne_eq_false_iff_eq.mpr c12
     clear c12
     have H' := zm H
     clear H
     have p707 : 0≤(a2 : Int):=yt
     have q707 : a2 < (l0.length : Int):=yt
     obtain ⟨ad707,e707,hx707_0⟩:=Kd.at_int HR0.out a2 p707 q707
     cases e707
     replace hx707_0:=yhx HB hx707_0
     replace p707:=eq_true p707
     replace q707:=eq_true q707
     have p708 : 0≤(a2 : Int):=yt
     have q708 : a2 < (l1.length : Int):=yt
     obtain ⟨ad708,e708,hx708_0⟩:=Kd.at_int HR1.out a2 p708 q708
     cases e708
     replace hx708_0:=yhx HB hx708_0
     replace p708:=eq_true p708
     replace q708:=eq_true q708
     go_wp2_with (first|(go_at_call 46;(with_reducible refine (psalteryref10_Width.calls k a2 t709 _ A11.out).mono ?_);rintro e w' ⟨rfl,⟨nd,rfl⟩⟩;have p710 : 0≤(a2 : Int):=yt;have q710 : a2 < (l1.length : Int):=yt;obtain ⟨ad710,e710,hx710_0⟩:=Kd.at_int HR1.out a2 p710 q710;obtain rfl : ad708=ad710:=(by injection e710);replace hx710_0:=yhx HB hx710_0;replace p710:=eq_true p710;replace q710:=eq_true q710))
     go_meet
     case rel=>exact ⟨_,(decide ((rd l1 a2) > 0)),yq,H',⟨yo⟩,⟨yhb⟩⟩
    ·
     rw [if_neg c12] at H
     have c12b0 : (t709 == 1)=false:=beq_eq_false_iff_ne.mpr c12
     have c12b1 : (t709 != 1)=true:=bne_iff_ne.mpr c12
     have H' := zm H
     clear H
     have p707 : 0≤(a2 : Int):=yt
     have q707 : a2 < (l0.length : Int):=yt
     obtain ⟨ad707,e707,hx707_0⟩:=Kd.at_int HR0.out a2 p707 q707
     cases e707
     replace hx707_0:=yhx HB hx707_0
     replace p707:=eq_true p707
     replace q707:=eq_true q707
     have p708 : 0≤(a2 : Int):=yt
     have q708 : a2 < (l1.length : Int):=yt
     obtain ⟨ad708,e708,hx708_0⟩:=Kd.at_int HR1.out a2 p708 q708
     cases e708
     replace hx708_0:=yhx HB hx708_0
     replace p708:=eq_true p708
     replace q708:=eq_true q708
     go_wp2_with (first|(go_at_call 46;(with_reducible refine (psalteryref10_Width.calls k a2 t709 _ A11.out).mono ?_);rintro e w' ⟨rfl,⟨nd,rfl⟩⟩))
     go_meet
     case rel=>exact ⟨_,(false),yq,H',⟨yo⟩,⟨yhb⟩⟩
 case rest =>
  clear HC5
  try clear c1
  obtain ⟨kq,x32_4,rfl,HA,HJ4,HB⟩:=hcut
  obtain ⟨kj4,rfl⟩:=ysu kq (fun h=>by subst h;exact absurd HA.out (by simp [psalteryref12_May.j0]))
  have H:=HA.out;clear HA
  simp only [psalteryref12_May.j0] at H
  by_cases c13 : x32_4=true
  ·
   subst c13
   rw [if_pos rfl] at H
   obtain rfl:=Option.some.inj H
   go_wp2
   go_ret
   exact ⟨ye,yhb⟩
  ·
   replace c13:=Bool.eq_false_iff.mpr c13
   subst c13
   rw [ynf] at H
   obtain ⟨t711,A14,H⟩:=ybi H
   obtain ⟨t714,A15,H⟩:=ybi H
   obtain rfl:=Option.some.inj H
   go_wp2_with (first|((with_reducible refine gate_callee (f:=96) rfl ?_);refine ygl 35 Try.func96 #[.slice A1 l1.length c1, .int .i64 a2] ?_;(with_reducible refine (psalteryref12_More.calls _ _ l1 a2 t711 _ ?side1 HC1.out A14.out).mono ?_);(case side1=>exact ycb HR1);rintro e w16 ⟨v712,rfl,ho0,hb⟩;refine ⟨_,rfl, ?_⟩;have HO713:=zm (Kd.R_lower ho0 (zE yhb));replace HB:=ybs hb;(try clear hb);(try clear ho0);obtain ⟨Ao17,co17,eo17⟩:=Kd.R_slice HO713.out;subst eo17)|((with_reducible refine gate_callee (f:=99) rfl ?_);refine ygl 36 Try.func99 #[.slice Ao17 t711.length co17] ?_;(with_reducible refine (psalteryref12_Spent.calls kj4 _ _ t711 t714 _ ?side1 ?side2 A15.out).mono ?_);(case side1=>exact yce (Kd.R_reads' HO713.out).2.2);(case side2=>exact (Kd.R_reads' HO713.out).2.1);rintro e w18 ⟨rfl,hb⟩;refine ⟨_,rfl, ?_⟩;replace HO713:=yRb HO713 hb;replace HB:=ybs hb;(try clear hb)))
   go_ret
   exact ⟨ye,yhb⟩
mutual
def psalteryref12_Channel.l0 : Nat→List Int→Int→List Int→Option (List Int)
 | 0,_,_,_=>none
 | k+1,x0,x1,x5=>psalteryref12_Channel.l1 k x0 x1 x5 (-1) 0 0
def psalteryref12_Channel.l1 : Nat→List Int→Int→List Int→Int→Int→Int→Option (List Int)
 | 0,_,_,_,_,_,_=>none
 | k+1,x0,x1,x5,x6,x7,x8=>if x8 < 5 then (if 0≤x8 then (if x8 < (x0.length : Int) then (if x8 < (x5.length : Int) then ((psalteryref10_Width.f k x8).bind fun t723=>(if t723=0 then (none) else ((psalteryref12_May.f k x0 x5 x8 x1).bind fun t724=>(if t724=true then (if x6 < 0 then (psalteryref12_Channel.l1 k x0 x1 x5 x8 (wrap64 ((wrap64 (8 * (rd x0 x8))) - (wrap64 (Int.tdiv (wrap64 (16 * (rd x5 x8))) t723)))) (wrap64 (x8+1))) else (if (wrap64 ((wrap64 (8 * (rd x0 x8))) - (wrap64 (Int.tdiv (wrap64 (16 * (rd x5 x8))) t723)))) > x7 then (psalteryref12_Channel.l1 k x0 x1 x5 x8 (wrap64 ((wrap64 (8 * (rd x0 x8))) - (wrap64 (Int.tdiv (wrap64 (16 * (rd x5 x8))) t723)))) (wrap64 (x8+1))) else (psalteryref12_Channel.l1 k x0 x1 x5 x6 x7 (wrap64 (x8+1))))) else (psalteryref12_Channel.l1 k x0 x1 x5 x6 x7 (wrap64 (x8+1))))))) else (none)) else (none)) else (none)) else (if x6 < 0 then (some x5) else ((psalteryref12_More.f x5 x6).bind fun t718=>(psalteryref12_Channel.l0 k x0 x1 t718)))
end
def psalteryref12_Channel.f (k : Nat) (l0 : List Int) (a1 : Int) : Option (List Int):=psalteryref12_Channel.l0 k l0 a1 (([0,0,0,0,0] : List Int))
theorem psalteryref12_Channel.mono_l : ∀ k,(∀ y0 y1 y2,LeO (psalteryref12_Channel.l0 k y0 y1 y2) (psalteryref12_Channel.l0 (k+1) y0 y1 y2))∧(∀ y0 y1 y2 y3 y4 y5,LeO (psalteryref12_Channel.l1 k y0 y1 y2 y3 y4 y5) (psalteryref12_Channel.l1 (k+1) y0 y1 y2 y3 y4 y5))
 | 0=>⟨fun _ _ _ r h=>by simp [psalteryref12_Channel.l0] at h,fun _ _ _ _ _ _ r h=>by simp [psalteryref12_Channel.l1] at h⟩
 | k+1=>by
  obtain ⟨ih0,ih1⟩:=psalteryref12_Channel.mono_l k
  refine ⟨?_, ?_⟩
  ·
   intro y0 y1 y2
   unfold psalteryref12_Channel.l0
   repeat' with_reducible first|apply ih0|apply ih1|apply psalteryref10_Width.mono|apply psalteryref12_May.mono|apply yLr|apply yLn|apply yLi|apply yLb|intro _
  ·
   intro y0 y1 y2 y3 y4 y5
   unfold psalteryref12_Channel.l1
   repeat' with_reducible first|apply ih0|apply ih1|apply psalteryref10_Width.mono|apply psalteryref12_May.mono|apply yLr|apply yLn|apply yLi|apply yLb|intro _
theorem psalteryref12_Channel.mono : ∀ a0 a1 k,LeO (psalteryref12_Channel.f k a0 a1) (psalteryref12_Channel.f (k+1) a0 a1):=by
 intro a0 a1 k
 obtain ⟨ih0,ih1⟩:=psalteryref12_Channel.mono_l k
 unfold psalteryref12_Channel.f
 repeat' with_reducible first|apply ih0|apply ih1|apply psalteryref10_Width.mono|apply psalteryref12_May.mono|apply yLr|apply yLn|apply yLi|apply yLb|intro _
set_option maxHeartbeats 8000000 in
set_option maxRecDepth 100000 in
theorem psalteryref12_Channel.calls (k : Nat) (A0 : Option Addr) (c0 : Nat) (l0 : List Int) (a1 : Int) (r : List Int) (w : World) (hr0 : Kd.C (Kd.int .i64) w A0 l0.length l0) (hc0 : l0.length≤c0) (h : psalteryref12_Channel.f k l0 a1=some r) :
  Calls Try.prog 83 #[.slice A0 l0.length c0, .int .i64 a1] w fun e w' => ∃ v0_ : Value,e=.returned (v0_)∧Kd.R (Kd.int .i64) 3 w' w.heap.size (fun _=>True) v0_ r∧Below w.heap.size w w' := by
 have HR0:=zm hr0;have HC0:=zm hc0;clear hr0 hc0;have HB:=zm (Below.refl w.heap.size w)
 have H : (psalteryref12_Channel.l0 k l0 a1 (([0,0,0,0,0] : List Int)))=some r:=h
 clear h
 obtain ⟨y715,hy715⟩ : ∃ y_ : List Int,y_=(([0,0,0,0,0] : List Int)):=⟨_,rfl⟩
 replace H : (psalteryref12_Channel.l0 k l0 a1 y715)=some r:=yrw hy715 H
 have Ny715:=zm hy715;clear hy715
 have H' := zm H
 clear H
 go_enter Try.func83,Try.ntmps83
 go_wp2_with (first|((with_reducible refine gate_dst (N:=10) rfl ?_);refine Kd.R_lit (Kd.int .i64) _ 3 ?hg (N:=10) ?hd (xs:=([0,0,0,0,0] : List Int)) (inner := [.int .i64 0, .int .i64 0, .int .i64 0, .int .i64 0, .int .i64 0]) (ok:=fun _=>True) (okp:=fun _=>True) ?hr ?hp (fun _ hk=>hk) trivial (Below.refl _ _) (Nat.le_refl _) (by simp) ?_;(case hd=>rfl);(case hg=>rfl);(case hr=>first|(go_simp;done)|(go_simp;rfl));(case hp=>exact (Reps.one (show Kd.M (Kd.int .i64) _ _ _ 0 [.int .i64 0] from rfl) (Reps.one (show Kd.M (Kd.int .i64) _ _ _ 0 [.int .i64 0] from rfl) (Reps.one (show Kd.M (Kd.int .i64) _ _ _ 0 [.int .i64 0] from rfl) (Reps.one (show Kd.M (Kd.int .i64) _ _ _ 0 [.int .i64 0] from rfl) (Reps.one (show Kd.M (Kd.int .i64) _ _ _ 0 [.int .i64 0] from rfl) (Reps.none _ _)))))));intro v716 w3 ho4 hb hg_ hnew_;clear hg_ hnew_;(first|rw [← Ny715.out] at ho4|(simp only [Int.reduceToNat] at ho4;rw [← Ny715.out] at ho4));have HO717:=zm (Kd.R_lower ho4 (zE yhb));replace HB:=ybs hb;clear hb ho4))
 repeat (go_quiet (first|((with_reducible refine gate_dst (N:=10) rfl ?_);refine Kd.R_lit (Kd.int .i64) _ 3 ?hg (N:=10) ?hd (xs:=([0,0,0,0,0] : List Int)) (inner := [.int .i64 0, .int .i64 0, .int .i64 0, .int .i64 0, .int .i64 0]) (ok:=fun _=>True) (okp:=fun _=>True) ?hr ?hp (fun _ hk=>hk) trivial (Below.refl _ _) (Nat.le_refl _) (by simp) ?_;(case hd=>rfl);(case hg=>rfl);(case hr=>first|(go_simp;done)|(go_simp;rfl));(case hp=>exact (Reps.one (show Kd.M (Kd.int .i64) _ _ _ 0 [.int .i64 0] from rfl) (Reps.one (show Kd.M (Kd.int .i64) _ _ _ 0 [.int .i64 0] from rfl) (Reps.one (show Kd.M (Kd.int .i64) _ _ _ 0 [.int .i64 0] from rfl) (Reps.one (show Kd.M (Kd.int .i64) _ _ _ 0 [.int .i64 0] from rfl) (Reps.one (show Kd.M (Kd.int .i64) _ _ _ 0 [.int .i64 0] from rfl) (Reps.none _ _)))))));intro v716 w3 ho4 hb hg_ hnew_;clear hg_ hnew_;(first|rw [← Ny715.out] at ho4|(simp only [Int.reduceToNat] at ho4;rw [← Ny715.out] at ho4));have HO717:=zm (Kd.R_lower ho4 (zE yhb));replace HB:=ybs hb;clear hb ho4));try go_wp2_with (first|((with_reducible refine gate_dst (N:=10) rfl ?_);refine Kd.R_lit (Kd.int .i64) _ 3 ?hg (N:=10) ?hd (xs:=([0,0,0,0,0] : List Int)) (inner := [.int .i64 0, .int .i64 0, .int .i64 0, .int .i64 0, .int .i64 0]) (ok:=fun _=>True) (okp:=fun _=>True) ?hr ?hp (fun _ hk=>hk) trivial (Below.refl _ _) (Nat.le_refl _) (by simp) ?_;(case hd=>rfl);(case hg=>rfl);(case hr=>first|(go_simp;done)|(go_simp;rfl));(case hp=>exact (Reps.one (show Kd.M (Kd.int .i64) _ _ _ 0 [.int .i64 0] from rfl) (Reps.one (show Kd.M (Kd.int .i64) _ _ _ 0 [.int .i64 0] from rfl) (Reps.one (show Kd.M (Kd.int .i64) _ _ _ 0 [.int .i64 0] from rfl) (Reps.one (show Kd.M (Kd.int .i64) _ _ _ 0 [.int .i64 0] from rfl) (Reps.one (show Kd.M (Kd.int .i64) _ _ _ 0 [.int .i64 0] from rfl) (Reps.none _ _)))))));intro v716 w3 ho4 hb hg_ hnew_;clear hg_ hnew_;(first|rw [← Ny715.out] at ho4|(simp only [Int.reduceToNat] at ho4;rw [← Ny715.out] at ho4));have HO717:=zm (Kd.R_lower ho4 (zE yhb));replace HB:=ybs hb;clear hb ho4)))
 go_loopg [5] k (fun kq v5 w' => ∃ (x5_1 : List Int),Aside0 (psalteryref12_Channel.l0 kq l0 a1 x5_1=some r)∧Aside0 (kq≤k)∧Aside0 (Kd.R (Kd.int .i64) 3 w' w.heap.size (fun _=>True) v5 x5_1)∧Aside0 (Below w.heap.size w w'))
 case atStart=>exact ⟨(y715),H',⟨Nat.le_refl _⟩,⟨yr HO717⟩,⟨yhb⟩⟩
 case round =>
  clear H'
  obtain ⟨x5_1,HA,HK1,HO_5,HB⟩:=hrel
  obtain ⟨k1,rfl⟩:=ysu gk (fun h=>by subst h;exact absurd HA.out (by simp [psalteryref12_Channel.l0]))
  have H:=HA.out;clear HA
  simp only [psalteryref12_Channel.l0] at H
  have H' := zm H
  clear H
  go_wp2
  repeat (go_quiet (fail);try go_wp2)
  go_loopg [6,7,8] k1 (fun kq v6 v7 v8 w' => ∃ (x6_2 : Int) (x7_2 : Int) (x8_2 : Int),v6=.int .i64 x6_2∧v7=.int .i64 x7_2∧v8=.int .i64 x8_2∧Aside0 (psalteryref12_Channel.l1 kq l0 a1 x5_1 x6_2 x7_2 x8_2=some r)∧Aside0 (kq≤k1)∧Aside0 (Kd.R (Kd.int .i64) 3 w' w.heap.size (fun _=>True) u5 x5_1)∧Aside0 (Below w.heap.size w w'))
  case atStart=>exact ⟨((-1)),(0),(0),yq,yq,yq,H',⟨Nat.le_refl _⟩,⟨yr HO_5⟩,⟨yhb⟩⟩
  case round =>
   clear H'
   obtain ⟨x6_2,x7_2,x8_2,rfl,rfl,rfl,HA,HK2,HO_5,HB⟩:=hrel
   obtain ⟨k2,rfl⟩:=ysu gk (fun h=>by subst h;exact absurd HA.out (by simp [psalteryref12_Channel.l1]))
   have H:=HA.out;clear HA
   simp only [psalteryref12_Channel.l1] at H
   by_cases c5 : x8_2 < 5
   ·
    rw [if_pos c5] at H
    have c5b0 : decide (x8_2 < 5)=true:=decide_eq_true c5
    clear c5
    obtain ⟨c6,H⟩:=yif H
    have c6b0 : decide (0≤x8_2)=true:=decide_eq_true c6
    clear c6
    obtain ⟨c7,H⟩:=yif H
    have c7b0 : decide (x8_2 < (l0.length : Int))=true:=decide_eq_true c7
    clear c7
    obtain ⟨c8,H⟩:=yif H
    have c8b0 : decide (x8_2 < (x5_1.length : Int))=true:=decide_eq_true c8
    clear c8
    obtain ⟨t723,A9,H⟩:=ybi H
    obtain ⟨c10,H⟩:=yie H
    have c10b0 : (t723 == 0)=false:=beq_eq_false_iff_ne.mpr c10
    have c10b1 : (t723 != 0)=true:=bne_iff_ne.mpr c10
    obtain ⟨t724,A11,H⟩:=ybi H
    by_cases c12 : t724=true
    ·
     subst c12
     rw [if_pos rfl] at H
     by_cases c13 : x6_2 < 0
     ·
      rw [if_pos c13] at H
      have c13b0 : decide (x6_2 < 0)=true:=decide_eq_true c13
      clear c13
      have H' := zm H
      clear H
      have p721 : 0≤(x8_2 : Int):=yt
      have q721 : x8_2 < (l0.length : Int):=yt
      obtain ⟨ad721,e721,hx721_0⟩:=Kd.at_int HR0.out x8_2 p721 q721
      cases e721
      replace hx721_0:=yhx HB hx721_0
      replace p721:=eq_true p721
      replace q721:=eq_true q721
      obtain ⟨Ao14,co14,eo14⟩:=Kd.R_slice HO_5.out
      subst eo14
      have p722 : 0≤(x8_2 : Int):=yt
      have q722 : x8_2 < (x5_1.length : Int):=yt
      obtain ⟨ad722,e722,hx722_0⟩:=Kd.at_int (Kd.R_reads' HO_5.out).2.2 x8_2 p722 q722
      cases e722
      replace p722:=eq_true p722
      replace q722:=eq_true q722
      go_wp2_with (first|(go_at_call 46;(with_reducible refine (psalteryref10_Width.calls k2 x8_2 t723 _ A9.out).mono ?_);rintro e w' ⟨rfl,⟨nd,rfl⟩⟩;(try exact yww))|(go_at_call 95;(with_reducible refine (psalteryref12_May.calls k2 _ _ l0 _ _ x5_1 x8_2 a1 true _ ?side1 HC0.out ?side3 ?side4 A11.out).mono ?_);(case side1=>exact ycb HR0);(case side3=>exact yce (Kd.R_reads' HO_5.out).2.2);(case side4=>exact (Kd.R_reads' HO_5.out).2.1);rintro e w15 ⟨rfl,hb⟩;replace HO_5:=yRb HO_5 hb;replace HB:=ybs hb;(try clear hb)))
      repeat (go_quiet (first|(go_at_call 46;(with_reducible refine (psalteryref10_Width.calls k2 x8_2 t723 _ A9.out).mono ?_);rintro e w' ⟨rfl,⟨nd,rfl⟩⟩;(try exact yww))|(go_at_call 95;(with_reducible refine (psalteryref12_May.calls k2 _ _ l0 _ _ x5_1 x8_2 a1 true _ ?side1 HC0.out ?side3 ?side4 A11.out).mono ?_);(case side1=>exact ycb HR0);(case side3=>exact yce (Kd.R_reads' HO_5.out).2.2);(case side4=>exact (Kd.R_reads' HO_5.out).2.1);rintro e w15 ⟨rfl,hb⟩;replace HO_5:=yRb HO_5 hb;replace HB:=ybs hb;(try clear hb)));try go_wp2_with (first|(go_at_call 46;(with_reducible refine (psalteryref10_Width.calls k2 x8_2 t723 _ A9.out).mono ?_);rintro e w' ⟨rfl,⟨nd,rfl⟩⟩;(try exact yww))|(go_at_call 95;(with_reducible refine (psalteryref12_May.calls k2 _ _ l0 _ _ x5_1 x8_2 a1 true _ ?side1 HC0.out ?side3 ?side4 A11.out).mono ?_);(case side1=>exact ycb HR0);(case side3=>exact yce (Kd.R_reads' HO_5.out).2.2);(case side4=>exact (Kd.R_reads' HO_5.out).2.1);rintro e w15 ⟨rfl,hb⟩;replace HO_5:=yRb HO_5 hb;replace HB:=ybs hb;(try clear hb))))
      go_roundg k2
      case measure=>exact yom2 HK1 HK2
      case rel=>exact ⟨(x8_2),(wrap64 ((wrap64 (8 * (rd l0 x8_2))) - (wrap64 (Int.tdiv (wrap64 (16 * (rd x5_1 x8_2))) t723)))),(wrap64 (x8_2+1)),yq,yq,yq,H',⟨yom2 HK1 HK2⟩,⟨yr HO_5⟩,⟨yhb⟩⟩
     ·
      rw [if_neg c13] at H
      have c13b0 : decide (x6_2 < 0)=false:=decide_eq_false c13
      clear c13
      by_cases c16 : (wrap64 ((wrap64 (8 * (rd l0 x8_2))) - (wrap64 (Int.tdiv (wrap64 (16 * (rd x5_1 x8_2))) t723)))) > x7_2
      ·
       rw [if_pos c16] at H
       have c16b0 : decide (x7_2 < (wrap64 ((wrap64 (8 * (rd l0 x8_2))) - (wrap64 (Int.tdiv (wrap64 (16 * (rd x5_1 x8_2))) t723)))))=true:=decide_eq_true c16
       clear c16
       have H' := zm H
       clear H
       have p721 : 0≤(x8_2 : Int):=yt
       have q721 : x8_2 < (l0.length : Int):=yt
       obtain ⟨ad721,e721,hx721_0⟩:=Kd.at_int HR0.out x8_2 p721 q721
       cases e721
       replace hx721_0:=yhx HB hx721_0
       replace p721:=eq_true p721
       replace q721:=eq_true q721
       obtain ⟨Ao17,co17,eo17⟩:=Kd.R_slice HO_5.out
       subst eo17
       have p722 : 0≤(x8_2 : Int):=yt
       have q722 : x8_2 < (x5_1.length : Int):=yt
       obtain ⟨ad722,e722,hx722_0⟩:=Kd.at_int (Kd.R_reads' HO_5.out).2.2 x8_2 p722 q722
       cases e722
       replace p722:=eq_true p722
       replace q722:=eq_true q722
       go_wp2_with (first|(go_at_call 46;(with_reducible refine (psalteryref10_Width.calls k2 x8_2 t723 _ A9.out).mono ?_);rintro e w' ⟨rfl,⟨nd,rfl⟩⟩;(try exact yww))|(go_at_call 95;(with_reducible refine (psalteryref12_May.calls k2 _ _ l0 _ _ x5_1 x8_2 a1 true _ ?side1 HC0.out ?side3 ?side4 A11.out).mono ?_);(case side1=>exact ycb HR0);(case side3=>exact yce (Kd.R_reads' HO_5.out).2.2);(case side4=>exact (Kd.R_reads' HO_5.out).2.1);rintro e w18 ⟨rfl,hb⟩;replace HO_5:=yRb HO_5 hb;replace HB:=ybs hb;(try clear hb)))
       repeat (go_quiet (first|(go_at_call 46;(with_reducible refine (psalteryref10_Width.calls k2 x8_2 t723 _ A9.out).mono ?_);rintro e w' ⟨rfl,⟨nd,rfl⟩⟩;(try exact yww))|(go_at_call 95;(with_reducible refine (psalteryref12_May.calls k2 _ _ l0 _ _ x5_1 x8_2 a1 true _ ?side1 HC0.out ?side3 ?side4 A11.out).mono ?_);(case side1=>exact ycb HR0);(case side3=>exact yce (Kd.R_reads' HO_5.out).2.2);(case side4=>exact (Kd.R_reads' HO_5.out).2.1);rintro e w18 ⟨rfl,hb⟩;replace HO_5:=yRb HO_5 hb;replace HB:=ybs hb;(try clear hb)));try go_wp2_with (first|(go_at_call 46;(with_reducible refine (psalteryref10_Width.calls k2 x8_2 t723 _ A9.out).mono ?_);rintro e w' ⟨rfl,⟨nd,rfl⟩⟩;(try exact yww))|(go_at_call 95;(with_reducible refine (psalteryref12_May.calls k2 _ _ l0 _ _ x5_1 x8_2 a1 true _ ?side1 HC0.out ?side3 ?side4 A11.out).mono ?_);(case side1=>exact ycb HR0);(case side3=>exact yce (Kd.R_reads' HO_5.out).2.2);(case side4=>exact (Kd.R_reads' HO_5.out).2.1);rintro e w18 ⟨rfl,hb⟩;replace HO_5:=yRb HO_5 hb;replace HB:=ybs hb;(try clear hb))))
       go_roundg k2
       case measure=>exact yom2 HK1 HK2
       case rel=>exact ⟨(x8_2),(wrap64 ((wrap64 (8 * (rd l0 x8_2))) - (wrap64 (Int.tdiv (wrap64 (16 * (rd x5_1 x8_2))) t723)))),(wrap64 (x8_2+1)),yq,yq,yq,H',⟨yom2 HK1 HK2⟩,⟨yr HO_5⟩,⟨yhb⟩⟩
      ·
       rw [if_neg c16] at H
       have c16b0 : decide (x7_2 < (wrap64 ((wrap64 (8 * (rd l0 x8_2))) - (wrap64 (Int.tdiv (wrap64 (16 * (rd x5_1 x8_2))) t723)))))=false:=decide_eq_false c16
       clear c16
       have H' := zm H
       clear H
       have p721 : 0≤(x8_2 : Int):=yt
       have q721 : x8_2 < (l0.length : Int):=yt
       obtain ⟨ad721,e721,hx721_0⟩:=Kd.at_int HR0.out x8_2 p721 q721
       cases e721
       replace hx721_0:=yhx HB hx721_0
       replace p721:=eq_true p721
       replace q721:=eq_true q721
       obtain ⟨Ao19,co19,eo19⟩:=Kd.R_slice HO_5.out
       subst eo19
       have p722 : 0≤(x8_2 : Int):=yt
       have q722 : x8_2 < (x5_1.length : Int):=yt
       obtain ⟨ad722,e722,hx722_0⟩:=Kd.at_int (Kd.R_reads' HO_5.out).2.2 x8_2 p722 q722
       cases e722
       replace p722:=eq_true p722
       replace q722:=eq_true q722
       go_wp2_with (first|(go_at_call 46;(with_reducible refine (psalteryref10_Width.calls k2 x8_2 t723 _ A9.out).mono ?_);rintro e w' ⟨rfl,⟨nd,rfl⟩⟩;(try exact yww))|(go_at_call 95;(with_reducible refine (psalteryref12_May.calls k2 _ _ l0 _ _ x5_1 x8_2 a1 true _ ?side1 HC0.out ?side3 ?side4 A11.out).mono ?_);(case side1=>exact ycb HR0);(case side3=>exact yce (Kd.R_reads' HO_5.out).2.2);(case side4=>exact (Kd.R_reads' HO_5.out).2.1);rintro e w20 ⟨rfl,hb⟩;replace HO_5:=yRb HO_5 hb;replace HB:=ybs hb;(try clear hb)))
       repeat (go_quiet (first|(go_at_call 46;(with_reducible refine (psalteryref10_Width.calls k2 x8_2 t723 _ A9.out).mono ?_);rintro e w' ⟨rfl,⟨nd,rfl⟩⟩;(try exact yww))|(go_at_call 95;(with_reducible refine (psalteryref12_May.calls k2 _ _ l0 _ _ x5_1 x8_2 a1 true _ ?side1 HC0.out ?side3 ?side4 A11.out).mono ?_);(case side1=>exact ycb HR0);(case side3=>exact yce (Kd.R_reads' HO_5.out).2.2);(case side4=>exact (Kd.R_reads' HO_5.out).2.1);rintro e w20 ⟨rfl,hb⟩;replace HO_5:=yRb HO_5 hb;replace HB:=ybs hb;(try clear hb)));try go_wp2_with (first|(go_at_call 46;(with_reducible refine (psalteryref10_Width.calls k2 x8_2 t723 _ A9.out).mono ?_);rintro e w' ⟨rfl,⟨nd,rfl⟩⟩;(try exact yww))|(go_at_call 95;(with_reducible refine (psalteryref12_May.calls k2 _ _ l0 _ _ x5_1 x8_2 a1 true _ ?side1 HC0.out ?side3 ?side4 A11.out).mono ?_);(case side1=>exact ycb HR0);(case side3=>exact yce (Kd.R_reads' HO_5.out).2.2);(case side4=>exact (Kd.R_reads' HO_5.out).2.1);rintro e w20 ⟨rfl,hb⟩;replace HO_5:=yRb HO_5 hb;replace HB:=ybs hb;(try clear hb))))
       go_roundg k2
       case measure=>exact yom2 HK1 HK2
       case rel=>exact ⟨(x6_2),(x7_2),(wrap64 (x8_2+1)),yq,yq,yq,H',⟨yom2 HK1 HK2⟩,⟨yr HO_5⟩,⟨yhb⟩⟩
    ·
     replace c12:=Bool.eq_false_iff.mpr c12
     subst c12
     rw [ynf] at H
     have H' := zm H
     clear H
     have p721 : 0≤(x8_2 : Int):=yt
     have q721 : x8_2 < (l0.length : Int):=yt
     obtain ⟨ad721,e721,hx721_0⟩:=Kd.at_int HR0.out x8_2 p721 q721
     cases e721
     replace hx721_0:=yhx HB hx721_0
     replace p721:=eq_true p721
     replace q721:=eq_true q721
     obtain ⟨Ao21,co21,eo21⟩:=Kd.R_slice HO_5.out
     subst eo21
     have p722 : 0≤(x8_2 : Int):=yt
     have q722 : x8_2 < (x5_1.length : Int):=yt
     obtain ⟨ad722,e722,hx722_0⟩:=Kd.at_int (Kd.R_reads' HO_5.out).2.2 x8_2 p722 q722
     cases e722
     replace p722:=eq_true p722
     replace q722:=eq_true q722
     go_wp2_with (first|(go_at_call 46;(with_reducible refine (psalteryref10_Width.calls k2 x8_2 t723 _ A9.out).mono ?_);rintro e w' ⟨rfl,⟨nd,rfl⟩⟩;(try exact yww))|(go_at_call 95;(with_reducible refine (psalteryref12_May.calls k2 _ _ l0 _ _ x5_1 x8_2 a1 false _ ?side1 HC0.out ?side3 ?side4 A11.out).mono ?_);(case side1=>exact ycb HR0);(case side3=>exact yce (Kd.R_reads' HO_5.out).2.2);(case side4=>exact (Kd.R_reads' HO_5.out).2.1);rintro e w22 ⟨rfl,hb⟩;replace HO_5:=yRb HO_5 hb;replace HB:=ybs hb;(try clear hb)))
     repeat (go_quiet (first|(go_at_call 46;(with_reducible refine (psalteryref10_Width.calls k2 x8_2 t723 _ A9.out).mono ?_);rintro e w' ⟨rfl,⟨nd,rfl⟩⟩;(try exact yww))|(go_at_call 95;(with_reducible refine (psalteryref12_May.calls k2 _ _ l0 _ _ x5_1 x8_2 a1 false _ ?side1 HC0.out ?side3 ?side4 A11.out).mono ?_);(case side1=>exact ycb HR0);(case side3=>exact yce (Kd.R_reads' HO_5.out).2.2);(case side4=>exact (Kd.R_reads' HO_5.out).2.1);rintro e w22 ⟨rfl,hb⟩;replace HO_5:=yRb HO_5 hb;replace HB:=ybs hb;(try clear hb)));try go_wp2_with (first|(go_at_call 46;(with_reducible refine (psalteryref10_Width.calls k2 x8_2 t723 _ A9.out).mono ?_);rintro e w' ⟨rfl,⟨nd,rfl⟩⟩;(try exact yww))|(go_at_call 95;(with_reducible refine (psalteryref12_May.calls k2 _ _ l0 _ _ x5_1 x8_2 a1 false _ ?side1 HC0.out ?side3 ?side4 A11.out).mono ?_);(case side1=>exact ycb HR0);(case side3=>exact yce (Kd.R_reads' HO_5.out).2.2);(case side4=>exact (Kd.R_reads' HO_5.out).2.1);rintro e w22 ⟨rfl,hb⟩;replace HO_5:=yRb HO_5 hb;replace HB:=ybs hb;(try clear hb))))
     go_roundg k2
     case measure=>exact yom2 HK1 HK2
     case rel=>exact ⟨(x6_2),(x7_2),(wrap64 (x8_2+1)),yq,yq,yq,H',⟨yom2 HK1 HK2⟩,⟨yr HO_5⟩,⟨yhb⟩⟩
   ·
    rw [if_neg c5] at H
    have c5b0 : decide (x8_2 < 5)=false:=decide_eq_false c5
    clear c5
    by_cases c23 : x6_2 < 0
    ·
     rw [if_pos c23] at H
     have c23b0 : decide (x6_2 < 0)=true:=decide_eq_true c23
     clear c23
     obtain rfl:=Option.some.inj H
     go_wp2
     repeat (go_quiet (fail);try go_wp2)
     go_ret
     exact ⟨_,ye,yr HO_5,yhb⟩
    ·
     rw [if_neg c23] at H
     have c23b0 : decide (x6_2 < 0)=false:=decide_eq_false c23
     clear c23
     obtain ⟨t718,A24,H⟩:=ybi H
     have H' := zm H
     clear H
     obtain ⟨Ao25,co25,eo25⟩:=Kd.R_slice HO_5.out
     subst eo25
     go_wp2_with (first|(go_at_call 96;(with_reducible refine (psalteryref12_More.calls _ _ x5_1 x6_2 t718 _ ?side1 ?side2 A24.out).mono ?_);(case side1=>exact yce (Kd.R_reads' HO_5.out).2.2);(case side2=>exact (Kd.R_reads' HO_5.out).2.1);rintro e w26 ⟨v719,rfl,ho0,hb⟩;have HO720:=zm (Kd.R_lower (Kd.R_new' ho0 (Kd.R_lt (yr HO_5))) (zE yhb));replace HO_5:=zm (Kd.R_elder' (yr HO_5) (Kd.R_base ho0) hb);replace HB:=ybs hb;(try clear hb);(try clear ho0)))
     repeat (go_quiet (first|(go_at_call 96;(with_reducible refine (psalteryref12_More.calls _ _ x5_1 x6_2 t718 _ ?side1 ?side2 A24.out).mono ?_);(case side1=>exact yce (Kd.R_reads' HO_5.out).2.2);(case side2=>exact (Kd.R_reads' HO_5.out).2.1);rintro e w26 ⟨v719,rfl,ho0,hb⟩;have HO720:=zm (Kd.R_lower (Kd.R_new' ho0 (Kd.R_lt (yr HO_5))) (zE yhb));replace HO_5:=zm (Kd.R_elder' (yr HO_5) (Kd.R_base ho0) hb);replace HB:=ybs hb;(try clear hb);(try clear ho0)));try go_wp2_with (first|(go_at_call 96;(with_reducible refine (psalteryref12_More.calls _ _ x5_1 x6_2 t718 _ ?side1 ?side2 A24.out).mono ?_);(case side1=>exact yce (Kd.R_reads' HO_5.out).2.2);(case side2=>exact (Kd.R_reads' HO_5.out).2.1);rintro e w26 ⟨v719,rfl,ho0,hb⟩;have HO720:=zm (Kd.R_lower (Kd.R_new' ho0 (Kd.R_lt (yr HO_5))) (zE yhb));replace HO_5:=zm (Kd.R_elder' (yr HO_5) (Kd.R_base ho0) hb);replace HB:=ybs hb;(try clear hb);(try clear ho0))))
     go_roundg k2
     case measure=>exact yom2 HK1 HK2
     case rel=>exact ⟨(t718),H',⟨yom2 HK1 HK2⟩,⟨yR0 HO720⟩,⟨yhb⟩⟩
def psalteryref12_Right.f (a0 : Int) (a1 : Int) : Option (Bool):=if a0≤60 then (if a1=1 then (if a0 ≥ 11 then (some true) else (if a1=2 then (some (decide (a0 ≥ 17))) else (some false))) else (if a1=2 then (some (decide (a0 ≥ 17))) else (some false))) else (some false)
set_option maxHeartbeats 8000000 in
set_option maxRecDepth 100000 in
theorem psalteryref12_Right.calls (a0 : Int) (a1 : Int) (r : Bool) (w : World) (h : psalteryref12_Right.f a0 a1=some r) :
  Calls Try.prog 23 #[.int .i64 a0, .int .i64 a1] w fun e w' => e=.returned (.bool r)∧Drawn0 w w' := by
 have H : (if a0≤60 then (if a1=1 then (if a0 ≥ 11 then (some true) else (if a1=2 then (some (decide (a0 ≥ 17))) else (some false))) else (if a1=2 then (some (decide (a0 ≥ 17))) else (some false))) else (some false))=some r:=h
 clear h
 by_cases c3 : a0≤60
 ·
  rw [if_pos c3] at H
  have c3b0 : decide (a0≤60)=true:=decide_eq_true c3
  clear c3
  by_cases c4 : a1=1
  ·
   rw [if_pos c4] at H
   have c4b0 : (a1 == 1)=true:=beq_iff_eq.mpr c4
   have c4b1 : (a1 != 1)=false:=bne_eq_false_iff_eq.mpr c4
   clear c4
   by_cases c5 : a0 ≥ 11
   ·
    rw [if_pos c5] at H
    have c5b0 : decide (11≤a0)=true:=decide_eq_true c5
    clear c5
    obtain rfl:=Option.some.inj H
    go_enter Try.func23,Try.ntmps23
    go_wp2
    go_ret
    exact ⟨yq,yd⟩
   ·
    rw [if_neg c5] at H
    have c5b0 : decide (11≤a0)=false:=decide_eq_false c5
    clear c5
    by_cases c6 : a1=2
    ·
     rw [if_pos c6] at H
     have c6b0 : (a1 == 2)=true:=beq_iff_eq.mpr c6
     have c6b1 : (a1 != 2)=false:=bne_eq_false_iff_eq.mpr c6
     clear c6
     obtain rfl:=Option.some.inj H
     go_enter Try.func23,Try.ntmps23
     go_wp2
     go_ret
     exact ⟨yq,yd⟩
    ·
     rw [if_neg c6] at H
     have c6b0 : (a1 == 2)=false:=beq_eq_false_iff_ne.mpr c6
     have c6b1 : (a1 != 2)=true:=bne_iff_ne.mpr c6
     obtain rfl:=Option.some.inj H
     go_enter Try.func23,Try.ntmps23
     go_wp2
     go_ret
     exact ⟨yq,yd⟩
  ·
   rw [if_neg c4] at H
   have c4b0 : (a1 == 1)=false:=beq_eq_false_iff_ne.mpr c4
   have c4b1 : (a1 != 1)=true:=bne_iff_ne.mpr c4
   by_cases c7 : a1=2
   ·
    rw [if_pos c7] at H
    have c7b0 : (a1 == 2)=true:=beq_iff_eq.mpr c7
    have c7b1 : (a1 != 2)=false:=bne_eq_false_iff_eq.mpr c7
    clear c7
    obtain rfl:=Option.some.inj H
    go_enter Try.func23,Try.ntmps23
    go_wp2
    go_ret
    exact ⟨yq,yd⟩
   ·
    rw [if_neg c7] at H
    have c7b0 : (a1 == 2)=false:=beq_eq_false_iff_ne.mpr c7
    have c7b1 : (a1 != 2)=true:=bne_iff_ne.mpr c7
    obtain rfl:=Option.some.inj H
    go_enter Try.func23,Try.ntmps23
    go_wp2
    go_ret
    exact ⟨yq,yd⟩
 ·
  rw [if_neg c3] at H
  have c3b0 : decide (a0≤60)=false:=decide_eq_false c3
  clear c3
  obtain rfl:=Option.some.inj H
  go_enter Try.func23,Try.ntmps23
  go_wp2
  go_ret
  exact ⟨yq,yd⟩
def psalteryref12_Room.f (a0 : Int) (a1 : Int) : Option (Int):=(psalteryref12_Right.f a0 a1).bind fun t725=>(if t725=true then (if a1=1 then (some (wrap64 ((wrap64 (8 * a0)) - 86))) else (some (wrap64 (Int.tdiv (wrap64 ((wrap64 (8 * a0)) - 131)) 2)))) else (some 0))
set_option maxHeartbeats 8000000 in
set_option maxRecDepth 100000 in
theorem psalteryref12_Room.calls (a0 : Int) (a1 : Int) (r : Int) (w : World) (h : psalteryref12_Room.f a0 a1=some r) :
  Calls Try.prog 84 #[.int .i64 a0, .int .i64 a1] w fun e w' => e=.returned (.int .i64 r)∧Drawn0 w w' := by
 have H : ((psalteryref12_Right.f a0 a1).bind fun t725=>(if t725=true then (if a1=1 then (some (wrap64 ((wrap64 (8 * a0)) - 86))) else (some (wrap64 (Int.tdiv (wrap64 ((wrap64 (8 * a0)) - 131)) 2)))) else (some 0)))=some r:=h
 clear h
 obtain ⟨t725,A3,H⟩:=ybi H
 by_cases c4 : t725=true
 ·
  subst c4
  rw [if_pos rfl] at H
  by_cases c5 : a1=1
  ·
   rw [if_pos c5] at H
   have c5b0 : (a1 == 1)=true:=beq_iff_eq.mpr c5
   have c5b1 : (a1 != 1)=false:=bne_eq_false_iff_eq.mpr c5
   clear c5
   obtain rfl:=Option.some.inj H
   go_enter Try.func84,Try.ntmps84
   go_wp2_with (first|((with_reducible refine gate_callee (f:=23) rfl ?_);refine ygl 7 Try.func23 #[.int .i64 a0, .int .i64 a1] ?_;(with_reducible refine (psalteryref12_Right.calls a0 a1 true _ A3.out).mono ?_);rintro e w' ⟨rfl,⟨nd,rfl⟩⟩;refine ⟨_,rfl, ?_⟩))
   go_ret
   exact ⟨yq,yd⟩
  ·
   rw [if_neg c5] at H
   have c5b0 : (a1 == 1)=false:=beq_eq_false_iff_ne.mpr c5
   have c5b1 : (a1 != 1)=true:=bne_iff_ne.mpr c5
   obtain rfl:=Option.some.inj H
   go_enter Try.func84,Try.ntmps84
   go_wp2_with (first|((with_reducible refine gate_callee (f:=23) rfl ?_);refine ygl 7 Try.func23 #[.int .i64 a0, .int .i64 a1] ?_;(with_reducible refine (psalteryref12_Right.calls a0 a1 true _ A3.out).mono ?_);rintro e w' ⟨rfl,⟨nd,rfl⟩⟩;refine ⟨_,rfl, ?_⟩))
   go_ret
   exact ⟨yq,yd⟩
 ·
  replace c4:=Bool.eq_false_iff.mpr c4
  subst c4
  rw [ynf] at H
  obtain rfl:=Option.some.inj H
  go_enter Try.func84,Try.ntmps84
  go_wp2_with (first|((with_reducible refine gate_callee (f:=23) rfl ?_);refine ygl 7 Try.func23 #[.int .i64 a0, .int .i64 a1] ?_;(with_reducible refine (psalteryref12_Right.calls a0 a1 false _ A3.out).mono ?_);rintro e w' ⟨rfl,⟨nd,rfl⟩⟩;refine ⟨_,rfl, ?_⟩))
  go_ret
  exact ⟨yq,yd⟩
def psalteryref12_Pulses.l0 : Nat→Int→Int→List (List Int)→List (List Int)→Int→Option ((List (List Int)))
 | 0,_,_,_,_,_=>none
 | k+1,x0,x1,x2,x7,x8=>if x8 < (x2.length : Int) then (if 0≤x8 then ((psalteryref12_Room.f x0 x1).bind fun t727=>((psalteryref12_Channel.f k (rd_L1 x2 x8) t727).bind fun t728=>(if x7.length < 5864062014805 then (psalteryref12_Pulses.l0 k x0 x1 x2 (x7 ++ [t728]) (wrap64 (x8+1))) else (none)))) else (none)) else (some x7)
def psalteryref12_Pulses.f (k : Nat) (a0 : Int) (a1 : Int) (l2 : List (List Int)) : Option ((List (List Int))):=psalteryref12_Pulses.l0 k a0 a1 l2 ([] : List (List Int)) 0
theorem psalteryref12_Pulses.mono_l : ∀ k,(∀ y0 y1 y2 y3 y4,LeO (psalteryref12_Pulses.l0 k y0 y1 y2 y3 y4) (psalteryref12_Pulses.l0 (k+1) y0 y1 y2 y3 y4))
 | 0=>fun _ _ _ _ _ r h=>by simp [psalteryref12_Pulses.l0] at h
 | k+1=>by
  have ih0:=psalteryref12_Pulses.mono_l k
  ·
   intro y0 y1 y2 y3 y4
   unfold psalteryref12_Pulses.l0
   repeat' with_reducible first|apply ih0|apply psalteryref12_Channel.mono|apply yLr|apply yLn|apply yLi|apply yLb|intro _
theorem psalteryref12_Pulses.mono : ∀ a0 a1 a2 k,LeO (psalteryref12_Pulses.f k a0 a1 a2) (psalteryref12_Pulses.f (k+1) a0 a1 a2):=by
 intro a0 a1 a2 k
 have ih0:=psalteryref12_Pulses.mono_l k
 unfold psalteryref12_Pulses.f
 repeat' with_reducible first|apply ih0|apply psalteryref12_Channel.mono|apply yLr|apply yLn|apply yLi|apply yLb|intro _
def psalteryref12_Pulses.T5 : Bool × List (List Nat × List Nat):=(true, [([], []),([], []),([], []),([1,2], [1,2]),([3], [3]),([], []),([], []),([5,6], [5,6]),([4,7,7], [4,7]),([8], [8]),([0,9,8], [0,9]),([10,10,0,1,2,3,4,5,6,7,8,9,10], [0,10])])
def psalteryref12_Pulses.B5 : List Nat := [0,0,0,6,14,0,0,96,254,510,1023,2047]
theorem psalteryref12_Pulses.tab5 : rtab .any (opsOf Try.f45 5)=psalteryref12_Pulses.T5:=by kernel_rfl
theorem psalteryref12_Pulses.bits5 : waitsOk psalteryref12_Pulses.T5.2 psalteryref12_Pulses.B5=true:=by kernel_rfl
set_option maxHeartbeats 8000000 in
set_option maxRecDepth 100000 in
theorem psalteryref12_Pulses.calls (k : Nat) (a0 : Int) (a1 : Int) (A2 : Option Addr) (c2 : Nat) (l2 : List (List Int)) (r : List (List Int)) (w : World) (hr2 : Kd.C (Kd.slice 3 (Kd.int .i64)) w A2 l2.length l2) (hc2 : l2.length≤c2) (h : psalteryref12_Pulses.f k a0 a1 l2=some r) :
  Calls Try.prog 45 #[.int .i64 a0, .int .i64 a1, .slice A2 l2.length c2] w fun e w' => ∃ v0_ : Value,e=.returned (v0_)∧Kd.S (Kd.slice 3 (Kd.int .i64)) 49 w' w.heap.size (fun _=>True) v0_ r∧Below w.heap.size w w' := by
 have HR2:=zm hr2;have HC2:=zm hc2;clear hr2 hc2;have HB:=zm (Below.refl w.heap.size w)
 have H : (psalteryref12_Pulses.l0 k a0 a1 l2 ([] : List (List Int)) 0)=some r:=h
 clear h
 have H' := zm H
 clear H
 go_enter Try.func45,Try.ntmps45
 go_wp2
 go_loopg [7,8] k (fun kq v7 v8 w' => ∃ (x7_1 : List (List Int)) (x8_1 : Int),v8=.int .i64 x8_1∧Aside0 (psalteryref12_Pulses.l0 kq a0 a1 l2 x7_1 x8_1=some r)∧Aside0 (kq≤k)∧Aside0 (Kd.S (Kd.slice 3 (Kd.int .i64)) 49 w' w.heap.size (fun _=>True) v7 x7_1)∧Aside0 (Below w.heap.size w w'))
 case atStart=>exact ⟨(([] : List (List Int))),(0),yq,H',⟨Nat.le_refl _⟩,⟨yn⟩,⟨yhb⟩⟩
 case round =>
  clear H'
  try clear c2
  obtain ⟨x7_1,x8_1,rfl,HA,HK1,HO_7,HB⟩:=hrel
  obtain ⟨k1,rfl⟩:=ysu gk (fun h=>by subst h;exact absurd HA.out (by simp [psalteryref12_Pulses.l0]))
  have H:=HA.out;clear HA
  simp only [psalteryref12_Pulses.l0] at H
  by_cases c4 : x8_1 < (l2.length : Int)
  ·
   rw [if_pos c4] at H
   have c4b0 : decide (x8_1 < (l2.length : Int))=true:=decide_eq_true c4
   clear c4
   obtain ⟨c5,H⟩:=yif H
   have c5b0 : decide (0≤x8_1)=true:=decide_eq_true c5
   clear c5
   obtain ⟨t727,A6,H⟩:=ybi H
   obtain ⟨t728,A7,H⟩:=ybi H
   obtain ⟨c8,H⟩:=yif H
   have LMc8:=zm c8;clear c8
   obtain ⟨y731,hy731⟩ : ∃ y_ : List (List Int),y_=(x7_1 ++ [t728]):=⟨_,rfl⟩
   replace H : (psalteryref12_Pulses.l0 k1 a0 a1 l2 y731 (wrap64 (x8_1+1)))=some r:=yrw hy731 H
   have Ny731:=zm hy731;clear hy731
   have H' := zm H
   clear H
   try go_wp2
   replace HO_7:=zm (Kd.S_drew HO_7.out)
   replace HB:=zm (zf HB.out)
   have p726 : 0≤(x8_1 : Int):=yt
   have q726 : x8_1 < (l2.length : Int):=yt
   obtain ⟨ad726,A726_0,c726_0,e726,hx726_0,hl726_0,hi726_0⟩:=at_L1 HR2.out x8_1 p726 q726
   have hw726_0:=hx726_0
   cases e726
   replace hx726_0:=yhx HB hx726_0
   have HR726_0:=zm hi726_0;have HC726_0:=zm hl726_0;clear hi726_0 hl726_0
   replace p726:=eq_true p726
   replace q726:=eq_true q726
   refine start_ (n:=12) (S:=fun w' => w'.cell? (ad726.add (x8_1).toNat)=some (.slice A726_0 (rd_L1 l2 x8_1).length c726_0)) (ds := []) #[false,false,false,false,false,false,false,false,false,false,false,false] (by kernel_rfl) rfl rfl ((yhx HB hw726_0 :)) (fun hHeld => ?_);refine with_tabW psalteryref12_Pulses.tab5 psalteryref12_Pulses.bits5 (fun HT_ HW_ => ?_)
   generalize wr.drew=w9 at HO_7 HB HR726_0 hx726_0 hHeld ⊢
   refine yp 0 15 HT_ ?_
   refine yp 1 16 HT_ ?_
   refine yp 2 17 HT_ ?_
   refine yp 3 18 HT_ ?_
   refine yp 5 20 HT_ ?_
   refine yp 6 21 HT_ ?_
   refine yl 4 19 HT_ HW_ hHeld ?_
   refine yw 7 22 HT_ (fun K hK => ?_)
   refine ygs Try.func84 #[.int .i64 a0, .int .i64 a1] ?_
   with_reducible refine (psalteryref12_Room.calls a0 a1 t727 _ A6.out).mono ?_
   rintro e w' ⟨rfl,⟨nd,rfl⟩⟩
   refine ⟨_,rfl, ?_⟩
   refine hK.out _ _ ((yhx HB hw726_0 :)) (fun hHeld => ?_)
   clear hK K
   refine ym (some 22) ?_
   refine yw 8 23 HT_ (fun K hK => ?_)
   refine ygs Try.func83 #[.slice A726_0 (rd_L1 l2 x8_1).length c726_0, .int .i64 t727] ?_
   with_reducible refine (psalteryref12_Channel.calls k1 _ _ (rd_L1 l2 x8_1) t727 t728 _ ?side1 ?side2 A7.out).mono ?_
   (case side1=>exact ycb HR726_0)
   (case side2=>exact HC726_0.out)
   rintro e w10 ⟨v729,rfl,ho0,hb⟩
   refine ⟨_,rfl, ?_⟩
   replace HO_7:=zm (Kd.S_elder' (yr HO_7) (Kd.R_base ho0) hb)
   have HO730:=zm (Kd.R_lower ho0 (zE yhb))
   replace HB:=ybs hb
   (try clear hb)
   (try clear ho0)
   obtain ⟨Ao12,co12,eo12⟩:=Kd.R_slice HO730.out
   (first|subst eo12|(injection eo12 with f1_ f2_ f3_;have f4_:=f1_.symm;have f5_:=f3_.symm;clear f1_ f2_ f3_;subst f4_;subst f5_))
   refine hK.out _ _ ((yhx HB hw726_0 :)) (fun hHeld => ?_)
   clear hK K
   refine ym (some 23) ?_
   refine yw 9 24 HT_ (fun K hK => ?_)
   refine value_ (w1 := ?_) (v := ?_) (by rfl) rfl ?_ ?_
   rotate_left 2
   ·
    go_simp
    constructor
    ·
     rfl
    ·
     rfl
   refine hK.out _ _ ((World.cell?_alloc_lt _ _ _ (zb _ _ ((yhx HB hw726_0 :)))).trans ((yhx HB hw726_0 :))) (fun hHeld => ?_)
   clear hK K
   refine ym (some 24) ?_
   refine yw 10 25 HT_ (fun K hK => ?_)
   refine Kd.S_append_step (Kd.slice 3 (Kd.int .i64)) (w0:=w) w.heap.size (by rfl) (.tmp 15) (.tmp 24) 22 49 (.slice none 0 0) 24 rfl Try.underlying22 info49 rfl (by decide) (by omega) u7 x7_1 t728 [.slice Ao12 t728.length co12] (fun _=>True) (fun k_=>some k_=(.slice Ao12 t728.length co12 : Value).ownBlock) rfl rfl ?aP (fun k_ hk_=>((zG (ok' := fun k_=>((fun _=>True)) k_∧some k_≠(u7 : Value).ownBlock) (Kd.R_apart' (HO730.out) (Kd.S_typed HO_7.out) (by decide)) (fun k_ hk=>⟨trivial,hk.2⟩))).1 k_ hk_.symm) ?aF ?aO ?aB ?aS ?aL ?_
   (case aP=>exact Kd.M_row (zG (Kd.R_tight rfl (zG (ok' := fun k_=>((fun _=>True)) k_∧some k_≠(u7 : Value).ownBlock) (Kd.R_apart' (HO730.out) (Kd.S_typed HO_7.out) (by decide)) (fun k_ hk=>⟨trivial,hk.2⟩))) (fun _ h_=>h_)))
   (case aB=>exact yhb)
   (case aF=>exact (fun _ _=>trivial))
   (case aO=>exact (yS0 HO_7))
   (case aS=>exact (zE yhb))
   (case aL=>have:=LMc8.out;omega)
   intro v732 w11 ho hb hg hat
   rw [← Ny731.out] at ho
   replace HB:=zm (hb)
   have HO733:=zm (ho);clear HO_7;clear HO730;clear ho hb hg hat
   refine hK.out _ _ ((yhx HB hw726_0 :)) (fun hHeld => ?_)
   clear hK K
   refine ym (some 25) ?_
   refine yp 11 7 HT_ ?_
   refine done_ (done_of HT_.out (by kernel_rfl)) ?_
   try go_wp2
   go_roundg k1
   case measure=>exact yom1 HK1
   case rel=>exact ⟨(y731),(wrap64 (x8_1+1)),yq,H',⟨yom1 HK1⟩,⟨yr HO733⟩,⟨yhb⟩⟩
  ·
   rw [if_neg c4] at H
   have c4b0 : decide (x8_1 < (l2.length : Int))=false:=decide_eq_false c4
   clear c4
   obtain rfl:=Option.some.inj H
   go_wp2
   go_ret
   exact ⟨_,ye,yr HO_7,yhb⟩
mutual
def psalteryref13_Right.j0 : Nat→Int→Int→Bool→Bool→List (List Int)→List (List (List Int))→Option (Bool)
 | 0,_,_,_,_,_,_=>none
 | k+1,x0,x1,x27,x735000,x735001,x735002=>if x27=true then (some false) else ((psalteryref12_Pulses.f k x0 x1 x735001).bind fun t737=>(psalteryref13_Right.l0 k x1 t737 0 x735000 x735001 x735002))
def psalteryref13_Right.l0 : Nat→Int→List (List Int)→Int→Bool→List (List Int)→List (List (List Int))→Option (Bool)
 | 0,_,_,_,_,_,_=>none
 | k+1,x1,x7,x8,x735000,x735001,x735002=>if x8 < x1 then (if 0≤x8 then (if x8 < (x735002.length : Int) then (if ((rd_L2 x735002 x8).length : Int)=5 then (psalteryref13_Right.l1 k x1 x7 x8 0 x735000 x735001 x735002) else (some false)) else (none)) else (none)) else (some true)
def psalteryref13_Right.l1 : Nat→Int→List (List Int)→Int→Int→Bool→List (List Int)→List (List (List Int))→Option (Bool)
 | 0,_,_,_,_,_,_,_=>none
 | k+1,x1,x7,x8,x9,x735000,x735001,x735002=>if x9 < 5 then (if 0≤x8 then (if x8 < (x735002.length : Int) then (if 0≤x9 then (if x9 < ((rd_L2 x735002 x8).length : Int) then ((psalteryref10_Width.f k x9).bind fun t743=>(if ((rd_L1 (rd_L2 x735002 x8) x9).length : Int)=t743 then ((psalteryref06_Pulses.f k (rd_L1 (rd_L2 x735002 x8) x9)).bind fun t746=>(if x8 < (x7.length : Int) then (if x9 < ((rd_L1 x7 x8).length : Int) then (if t746=(rd (rd_L1 x7 x8) x9) then (psalteryref13_Right.l1 k x1 x7 x8 (wrap64 (x9+1)) x735000 x735001 x735002) else (some false)) else (none)) else (none))) else (some false))) else (none)) else (none)) else (none)) else (none)) else (psalteryref13_Right.l0 k x1 x7 (wrap64 (x8+1)) x735000 x735001 x735002)
end
def psalteryref13_Right.f (k : Nat) (a0 : Int) (a1 : Int) (a2_0 : Bool) (l2_1 : List (List Int)) (l2_2 : List (List (List Int))) : Option (Bool):=(psalteryref12_Right.f a0 a1).bind fun t735=>(if t735=true then ((psalteryref12_Fair.f k a1 l2_1).bind fun t736=>(if t736=true then (psalteryref13_Right.j0 k a0 a1 ((l2_2.length : Int) != a1) a2_0 l2_1 l2_2) else (psalteryref13_Right.j0 k a0 a1 true a2_0 l2_1 l2_2))) else (psalteryref13_Right.j0 k a0 a1 true a2_0 l2_1 l2_2))
theorem psalteryref13_Right.mono_l : ∀ k,(∀ y0 y1 y2 y3 y4 y5,LeO (psalteryref13_Right.j0 k y0 y1 y2 y3 y4 y5) (psalteryref13_Right.j0 (k+1) y0 y1 y2 y3 y4 y5))∧(∀ y0 y1 y2 y3 y4 y5,LeO (psalteryref13_Right.l0 k y0 y1 y2 y3 y4 y5) (psalteryref13_Right.l0 (k+1) y0 y1 y2 y3 y4 y5))∧(∀ y0 y1 y2 y3 y4 y5 y6,LeO (psalteryref13_Right.l1 k y0 y1 y2 y3 y4 y5 y6) (psalteryref13_Right.l1 (k+1) y0 y1 y2 y3 y4 y5 y6))
 | 0=>⟨fun _ _ _ _ _ _ r h=>by simp [psalteryref13_Right.j0] at h,fun _ _ _ _ _ _ r h=>by simp [psalteryref13_Right.l0] at h,fun _ _ _ _ _ _ _ r h=>by simp [psalteryref13_Right.l1] at h⟩
 | k+1=>by
  obtain ⟨ih0,ih1,ih2⟩:=psalteryref13_Right.mono_l k
  refine ⟨?_, ?_, ?_⟩
  ·
   intro y0 y1 y2 y3 y4 y5
   unfold psalteryref13_Right.j0
   repeat' with_reducible first|apply ih0|apply ih1|apply ih2|apply psalteryref06_Pulses.mono|apply psalteryref10_Width.mono|apply psalteryref12_Fair.mono|apply psalteryref12_Pulses.mono|apply yLr|apply yLn|apply yLi|apply yLb|intro _
  ·
   intro y0 y1 y2 y3 y4 y5
   unfold psalteryref13_Right.l0
   repeat' with_reducible first|apply ih0|apply ih1|apply ih2|apply psalteryref06_Pulses.mono|apply psalteryref10_Width.mono|apply psalteryref12_Fair.mono|apply psalteryref12_Pulses.mono|apply yLr|apply yLn|apply yLi|apply yLb|intro _
  ·
   intro y0 y1 y2 y3 y4 y5 y6
   unfold psalteryref13_Right.l1
   repeat' with_reducible first|apply ih0|apply ih1|apply ih2|apply psalteryref06_Pulses.mono|apply psalteryref10_Width.mono|apply psalteryref12_Fair.mono|apply psalteryref12_Pulses.mono|apply yLr|apply yLn|apply yLi|apply yLb|intro _
theorem psalteryref13_Right.mono : ∀ a0 a1 a2 a3 a4 k,LeO (psalteryref13_Right.f k a0 a1 a2 a3 a4) (psalteryref13_Right.f (k+1) a0 a1 a2 a3 a4):=by
 intro a0 a1 a2 a3 a4 k
 obtain ⟨ih0,ih1,ih2⟩:=psalteryref13_Right.mono_l k
 unfold psalteryref13_Right.f
 repeat' with_reducible first|apply ih0|apply ih1|apply ih2|apply psalteryref06_Pulses.mono|apply psalteryref10_Width.mono|apply psalteryref12_Fair.mono|apply psalteryref12_Pulses.mono|apply yLr|apply yLn|apply yLi|apply yLb|intro _
def psalteryref13_Right.T12 : Bool × List (List Nat × List Nat):=(true, [([], []),([0], [0]),([], []),([1,2], [1,2]),([3], [3]),([], []),([4,5], [4,5]),([6], [6]),([7], [7]),([], []),([9], [9]),([8,10], [8,10]),([11,10], [11]),([12], [12]),([13,12], [12,13]),([12], [12]),([14,15,12], [12,14,15]),([16,12], [12,16]),([12], [12]),([17,18,12], [12,17,18]),([19,12], [12,19]),([20,12,12], [12,20]),([12], [12]),([12], [12]),([22,23,12], [12,22,23]),([24,12], [12,24]),([12], [12]),([25,26,12], [12,25,26]),([27,12], [12,27]),([21,28,12], [12,21,28]),([12,29], [12,29])])
def psalteryref13_Right.B12 : List Nat := [0,1,0,7,15,0,63,127,255,0,512,2047,4095,8191,16383,8191,65535,131071,8191,524287,1048575,2097151,8191,8191,12591103,29368319,8191,130031615,264249343,536870911,1073741823]
theorem psalteryref13_Right.tab12 : rtab .any (opsOf Try.f16 12)=psalteryref13_Right.T12:=by kernel_rfl
theorem psalteryref13_Right.bits12 : waitsOk psalteryref13_Right.T12.2 psalteryref13_Right.B12=true:=by kernel_rfl
set_option maxHeartbeats 8000000 in
set_option maxRecDepth 100000 in
theorem psalteryref13_Right.calls (k : Nat) (a0 : Int) (a1 : Int) (a2_0 : Bool) (A2_1 : Option Addr) (c2_1 : Nat) (l2_1 : List (List Int)) (A2_2 : Option Addr) (c2_2 : Nat) (l2_2 : List (List (List Int))) (r : Bool) (w : World) (hr2_1 : Kd.C (Kd.slice 3 (Kd.int .i64)) w A2_1 l2_1.length l2_1) (hc2_1 : l2_1.length≤c2_1) (hr2_2 : Kd.C (Kd.slice 49 (Kd.slice 3 (Kd.int .i64))) w A2_2 l2_2.length l2_2) (hc2_2 : l2_2.length≤c2_2) (h : psalteryref13_Right.f k a0 a1 a2_0 l2_1 l2_2=some r) :
  Calls Try.prog 16 #[.int .i64 a0, .int .i64 a1, .agg #[.bool a2_0, .slice A2_1 l2_1.length c2_1, .slice A2_2 l2_2.length c2_2]] w fun e w' => e=.returned (.bool r)∧Below w.heap.size w w' := by
 have hu33:=Try.underlying33;have HR2_1:=zm hr2_1;have HC2_1:=zm hc2_1;clear hr2_1 hc2_1;have HR2_2:=zm hr2_2;have HC2_2:=zm hc2_2;clear hr2_2 hc2_2;have HB:=zm (Below.refl w.heap.size w)
 have H : ((psalteryref12_Right.f a0 a1).bind fun t735=>(if t735=true then ((psalteryref12_Fair.f k a1 l2_1).bind fun t736=>(if t736=true then (psalteryref13_Right.j0 k a0 a1 ((l2_2.length : Int) != a1) a2_0 l2_1 l2_2) else (psalteryref13_Right.j0 k a0 a1 true a2_0 l2_1 l2_2))) else (psalteryref13_Right.j0 k a0 a1 true a2_0 l2_1 l2_2)))=some r:=h
 clear h;have HC4:=zm H;clear H
 go_enter Try.func16,Try.ntmps16
 go_upto_region 1 with (first|((with_reducible refine gate_dst (N:=5) rfl ?_);(try (refine gate_guard (by rfl) ?_;dsimp only));refine ybx 5 #[.bool a2_0, .slice A2_1 l2_1.length c2_1, .slice A2_2 l2_2.length c2_2] 33 ?_;intro gb734 hg w5 hbox hb;have BK734:=zm (hbox);have GW734:=ygw hg;have GE734:=ygw hg;replace HB:=ybs hb;clear hb hbox hg))
 (try simp only [Act.put,List.setIfInBounds_toArray,List.set_cons_zero,List.set_cons_succ])
 go_cut [27] (fun v27 wc => ∃ (kq : Nat) (x27_3 : Bool),v27=.bool x27_3∧Aside0 (psalteryref13_Right.j0 kq a0 a1 x27_3 a2_0 l2_1 l2_2=some r)∧Aside0 (kq≤k)∧Aside0 (wc.heap[gb734]? = some (.cells #[.bool a2_0,(.slice A2_1 l2_1.length c2_1),(.slice A2_2 l2_2.length c2_2)] 33 (0,0)))∧Aside0 (Below w.heap.size w wc))
 case first =>
  have H:=HC4.out;clear HC4
  obtain ⟨t735,A6,H⟩:=ybi H
  by_cases c7 : t735=true
  ·
   subst c7
   rw [if_pos rfl] at H
   obtain ⟨t736,A8,H⟩:=ybi H
   by_cases c9 : t736=true
   ·
    subst c9
    rw [if_pos rfl] at H
    have H' := zm H
    clear H
    go_wp2_with (first|((with_reducible refine gate_callee (f:=23) rfl ?_);refine ygl 12 Try.func23 #[.int .i64 a0, .int .i64 a1] ?_;(with_reducible refine (psalteryref12_Right.calls a0 a1 true _ A6.out).mono ?_);rintro e w' ⟨rfl,⟨nd,rfl⟩⟩;refine ⟨_,rfl, ?_⟩;obtain ⟨_,_,_,_,_,_⟩:=yc3 BK734)|(go_at_call 17;(with_reducible refine (psalteryref12_Fair.calls k a1 _ _ l2_1 true _ ?side1 HC2_1.out A8.out).mono ?_);(case side1=>exact ycb HR2_1);rintro e w' ⟨rfl,⟨nd,rfl⟩⟩))
    go_meet
    case rel=>exact ⟨_,(((l2_2.length : Int) != a1)),yq,H',⟨yo⟩,⟨yk BK734⟩,⟨yhb⟩⟩
   ·
    replace c9:=Bool.eq_false_iff.mpr c9
    subst c9
    rw [ynf] at H
    have H' := zm H
    clear H
    go_wp2_with (first|((with_reducible refine gate_callee (f:=23) rfl ?_);refine ygl 12 Try.func23 #[.int .i64 a0, .int .i64 a1] ?_;(with_reducible refine (psalteryref12_Right.calls a0 a1 true _ A6.out).mono ?_);rintro e w' ⟨rfl,⟨nd,rfl⟩⟩;refine ⟨_,rfl, ?_⟩;obtain ⟨_,_,_,_,_,_⟩:=yc3 BK734)|(go_at_call 17;(with_reducible refine (psalteryref12_Fair.calls k a1 _ _ l2_1 false _ ?side1 HC2_1.out A8.out).mono ?_);(case side1=>exact ycb HR2_1);rintro e w' ⟨rfl,⟨nd,rfl⟩⟩))
    go_meet
    case rel=>exact ⟨_,(true),yq,H',⟨yo⟩,⟨yk BK734⟩,⟨yhb⟩⟩
  ·
   replace c7:=Bool.eq_false_iff.mpr c7
   subst c7
   rw [ynf] at H
   have H' := zm H
   clear H
   go_wp2_with (first|((with_reducible refine gate_callee (f:=23) rfl ?_);refine ygl 12 Try.func23 #[.int .i64 a0, .int .i64 a1] ?_;(with_reducible refine (psalteryref12_Right.calls a0 a1 false _ A6.out).mono ?_);rintro e w' ⟨rfl,⟨nd,rfl⟩⟩;refine ⟨_,rfl, ?_⟩))
   go_meet
   case rel=>exact ⟨_,(true),yq,H',⟨yo⟩,⟨yk BK734⟩,⟨yhb⟩⟩
 case rest =>
  clear HC4
  obtain ⟨kq,x27_3,rfl,HA,HJ3,BK734,HB⟩:=hcut
  obtain ⟨kj3,rfl⟩:=ysu kq (fun h=>by subst h;exact absurd HA.out (by simp [psalteryref13_Right.j0]))
  have H:=HA.out;clear HA
  simp only [psalteryref13_Right.j0] at H
  by_cases c12 : x27_3=true
  ·
   subst c12
   rw [if_pos rfl] at H
   obtain rfl:=Option.some.inj H
   go_wp2
   go_ret
   exact ⟨ye,yhb⟩
  ·
   replace c12:=Bool.eq_false_iff.mpr c12
   subst c12
   rw [ynf] at H
   obtain ⟨t737,A13,H⟩:=ybi H
   have H' := zm H
   clear H
   obtain ⟨hcz14_0,hcz14_1,hcz14_2,hfz14_0,hfz14_1,hfz14_2⟩:=yc3 BK734
   go_wp2_with (first|((with_reducible refine gate_callee (f:=45) rfl ?_);refine ygl 32 Try.func45 #[.int .i64 a0, .int .i64 a1, .slice A2_1 l2_1.length c2_1] ?_;(with_reducible refine (psalteryref12_Pulses.calls kj3 a0 a1 _ _ l2_1 t737 _ ?side1 HC2_1.out A13.out).mono ?_);(case side1=>exact ycb HR2_1);rintro e w15 ⟨v738,rfl,ho0,hb⟩;refine ⟨_,rfl, ?_⟩;have HO739:=zm (Kd.S_lower ho0 (zE yhb));replace BK734:=ybb BK734 hb;replace HB:=ybs hb;(try clear hb);(try clear ho0)))
   go_loopg [8] kj3 (fun kq v8 w' => ∃ (x8_2 : Int),v8=.int .i64 x8_2∧Aside0 (psalteryref13_Right.l0 kq a1 t737 x8_2 a2_0 l2_1 l2_2=some r)∧Aside0 (kq≤kj3)∧Aside0 (Kd.S (Kd.slice 3 (Kd.int .i64)) 49 w' w.heap.size (fun _=>True) v738 t737)∧Aside0 (w'.heap[gb734]? = some (.cells #[.bool a2_0,(.slice A2_1 l2_1.length c2_1),(.slice A2_2 l2_2.length c2_2)] 33 (0,0)))∧Aside0 (Below w.heap.size w w'))
   case atStart=>exact ⟨(0),yq,H',⟨Nat.le_refl _⟩,⟨yr HO739⟩,⟨yk BK734⟩,⟨yhb⟩⟩
   case round =>
    clear H'
    try clear hcz14_0
    try clear hcz14_1
    try clear hcz14_2
    try clear hfz14_0
    try clear hfz14_1
    try clear hfz14_2
    obtain ⟨x8_2,rfl,HA,HK2,HO_7,BK734,HB⟩:=hrel
    obtain ⟨k2,rfl⟩:=ysu gk (fun h=>by subst h;exact absurd HA.out (by simp [psalteryref13_Right.l0]))
    have H:=HA.out;clear HA
    simp only [psalteryref13_Right.l0] at H
    by_cases c16 : x8_2 < a1
    ·
     rw [if_pos c16] at H
     have c16b0 : decide (x8_2 < a1)=true:=decide_eq_true c16
     clear c16
     obtain ⟨c17,H⟩:=yif H
     have c17b0 : decide (0≤x8_2)=true:=decide_eq_true c17
     clear c17
     obtain ⟨c18,H⟩:=yif H
     have c18b0 : decide (x8_2 < (l2_2.length : Int))=true:=decide_eq_true c18
     clear c18
     by_cases c19 : ((rd_L2 l2_2 x8_2).length : Int)=5
     ·
      rw [if_pos c19] at H
      have c19b0 : (((rd_L2 l2_2 x8_2).length : Int) == 5)=true:=beq_iff_eq.mpr c19
      have c19b1 : (((rd_L2 l2_2 x8_2).length : Int) != 5)=false:=bne_eq_false_iff_eq.mpr c19
      clear c19
      have H' := zm H
      clear H
      obtain ⟨hcz20_0,hcz20_1,hcz20_2,hfz20_0,hfz20_1,hfz20_2⟩:=yc3 BK734
      have p740 : 0≤(x8_2 : Int):=yt
      have q740 : x8_2 < (l2_2.length : Int):=yt
      obtain ⟨ad740,A740_0,c740_0,e740,hx740_0,hl740_0,hi740_0⟩:=at_L2 HR2_2.out x8_2 p740 q740
      cases e740
      replace hx740_0:=yhx HB hx740_0
      have HR740_0:=zm hi740_0;have HC740_0:=zm hl740_0;clear hi740_0 hl740_0
      replace p740:=eq_true p740
      replace q740:=eq_true q740
      go_wp2
      go_loopg [9] k2 (fun kq v9 w' => ∃ (x9_3 : Int),v9=.int .i64 x9_3∧Aside0 (psalteryref13_Right.l1 kq a1 t737 x8_2 x9_3 a2_0 l2_1 l2_2=some r)∧Aside0 (kq≤k2)∧Aside0 (Kd.S (Kd.slice 3 (Kd.int .i64)) 49 w' w.heap.size (fun _=>True) v738 t737)∧Aside0 (w'.heap[gb734]? = some (.cells #[.bool a2_0,(.slice A2_1 l2_1.length c2_1),(.slice (some ad740) l2_2.length c2_2)] 33 (0,0)))∧Aside0 (Below w.heap.size w w'))
      case atStart=>exact ⟨(0),yq,H',⟨Nat.le_refl _⟩,⟨yr HO_7⟩,⟨yk BK734⟩,⟨yhb⟩⟩
      case round =>
       clear H'
       try clear c16b0
       try clear c17b0
       try clear c18b0
       try clear c19b0
       try clear c19b1
       try clear hcz20_0
       try clear hcz20_1
       try clear hcz20_2
       try clear hfz20_0
       try clear hfz20_1
       try clear hfz20_2
       try clear hx740_0
       try clear p740
       try clear q740
       obtain ⟨x9_3,rfl,HA,HK3,HO_7,BK734,HB⟩:=hrel
       obtain ⟨k3,rfl⟩:=ysu gk (fun h=>by subst h;exact absurd HA.out (by simp [psalteryref13_Right.l1]))
       have H:=HA.out;clear HA
       simp only [psalteryref13_Right.l1] at H
       by_cases c21 : x9_3 < 5
       ·
        rw [if_pos c21] at H
        have c21b0 : decide (x9_3 < 5)=true:=decide_eq_true c21
        clear c21
        obtain ⟨c22,H⟩:=yif H
        have c22b0 : decide (0≤x8_2)=true:=decide_eq_true c22
        clear c22
        obtain ⟨c23,H⟩:=yif H
        have c23b0 : decide (x8_2 < (l2_2.length : Int))=true:=decide_eq_true c23
        clear c23
        obtain ⟨c24,H⟩:=yif H
        have c24b0 : decide (0≤x9_3)=true:=decide_eq_true c24
        clear c24
        obtain ⟨c25,H⟩:=yif H
        have c25b0 : decide (x9_3 < ((rd_L2 l2_2 x8_2).length : Int))=true:=decide_eq_true c25
        clear c25
        obtain ⟨t743,A26,H⟩:=ybi H
        by_cases c27 : ((rd_L1 (rd_L2 l2_2 x8_2) x9_3).length : Int)=t743
        ·
         rw [if_pos c27] at H
         have c27b0 : (((rd_L1 (rd_L2 l2_2 x8_2) x9_3).length : Int) == t743)=true:=beq_iff_eq.mpr c27
         have c27b1 : (((rd_L1 (rd_L2 l2_2 x8_2) x9_3).length : Int) != t743)=false:=bne_eq_false_iff_eq.mpr c27
         clear c27
         obtain ⟨t746,A28,H⟩:=ybi H
         obtain ⟨c29,H⟩:=yif H
         have c29b0 : decide (x8_2 < (t737.length : Int))=true:=decide_eq_true c29
         clear c29
         obtain ⟨c30,H⟩:=yif H
         have c30b0 : decide (x9_3 < ((rd_L1 t737 x8_2).length : Int))=true:=decide_eq_true c30
         clear c30
         by_cases c31 : t746=(rd (rd_L1 t737 x8_2) x9_3)
         ·
          rw [if_pos c31] at H
          have c31b0 : (t746 == (rd (rd_L1 t737 x8_2) x9_3))=true:=beq_iff_eq.mpr c31
          have c31b1 : (t746 != (rd (rd_L1 t737 x8_2) x9_3))=false:=bne_eq_false_iff_eq.mpr c31
          clear c31
          have H' := zm H
          clear H
          try go_wp2
          replace HO_7:=zm (Kd.S_drew HO_7.out)
          replace BK734:=zm (zj BK734.out)
          replace HB:=zm (zf HB.out)
          have p741 : 0≤(x8_2 : Int):=yt
          have q741 : x8_2 < (l2_2.length : Int):=yt
          obtain ⟨ad741,A741_0,c741_0,e741,hx741_0,hl741_0,hi741_0⟩:=at_L2 HR2_2.out x8_2 p741 q741
          have hw741_0:=hx741_0
          obtain rfl : ad740=ad741:=(by injection e741)
          replace hx741_0:=yhx HB hx741_0
          have HR741_0:=zm hi741_0;have HC741_0:=zm hl741_0;clear hi741_0 hl741_0
          replace p741:=eq_true p741
          replace q741:=eq_true q741
          have p742 : 0≤(x9_3 : Int):=yt
          have q742 : x9_3 < ((rd_L2 l2_2 x8_2).length : Int):=yt
          obtain ⟨ad742,A742_0,c742_0,e742,hx742_0,hl742_0,hi742_0⟩:=at_L1 HR741_0.out x9_3 p742 q742
          have hw742_0:=hx742_0
          cases e742
          replace hx742_0:=yhx HB hx742_0
          have HR742_0:=zm hi742_0;have HC742_0:=zm hl742_0;clear hi742_0 hl742_0
          replace p742:=eq_true p742
          replace q742:=eq_true q742
          have p744 : 0≤(x8_2 : Int):=yt
          have q744 : x8_2 < (l2_2.length : Int):=yt
          obtain ⟨ad744,A744_0,c744_0,e744,hx744_0,hl744_0,hi744_0⟩:=at_L2 HR2_2.out x8_2 p744 q744
          have hw744_0:=hx744_0
          obtain rfl : ad740=ad744:=(by injection e744)
          replace hx744_0:=yhx HB hx744_0
          have HR744_0:=zm hi744_0;have HC744_0:=zm hl744_0;clear hi744_0 hl744_0
          replace p744:=eq_true p744
          replace q744:=eq_true q744
          have ea_:=Option.some.inj (hx741_0.symm.trans hx744_0)
          injection ea_ with ea_ en_ ec_
          subst ea_;subst ec_;clear en_
          have p745 : 0≤(x9_3 : Int):=yt
          have q745 : x9_3 < ((rd_L2 l2_2 x8_2).length : Int):=yt
          obtain ⟨ad745,A745_0,c745_0,e745,hx745_0,hl745_0,hi745_0⟩:=at_L1 HR744_0.out x9_3 p745 q745
          have hw745_0:=hx745_0
          cases e745
          replace hx745_0:=yhx HB hx745_0
          have HR745_0:=zm hi745_0;have HC745_0:=zm hl745_0;clear hi745_0 hl745_0
          replace p745:=eq_true p745
          replace q745:=eq_true q745
          have p747 : 0≤(x8_2 : Int):=yt
          have q747 : x8_2 < (t737.length : Int):=yt
          obtain ⟨Ao33,co33,eo33⟩:=Kd.S_slice HO_7.out
          (first|subst eo33|(injection eo33 with f1_ f2_ f3_;have f4_:=f1_.symm;have f5_:=f3_.symm;clear f1_ f2_ f3_;subst f4_;subst f5_))
          obtain ⟨ad747,A747_0,c747_0,e747,hx747_0,hl747_0,hi747_0⟩:=at_L1 (Kd.S_reads' HO_7.out).2.2 x8_2 p747 q747
          cases e747
          obtain ⟨ce747,hce747,hMe747,hcc747⟩:=Kd.S_get HO_7.out [] x8_2 p747 (by first|exact q747|exact yt|(have e_:=(Kd.S_reads' HO_7.out).1;omega))
          obtain ⟨ve747_0,rfl,ge747_0⟩:=hMe747
          have hv747_0:=hcc747 0 _ rfl
          rw [Nat.add_zero,show ((Kd.slice 3 (Kd.int .i64))).sz=1 from rfl,Nat.mul_one] at hv747_0
          replace hv747_0:=Option.some.inj (hv747_0.symm.trans hx747_0)
          rw [hv747_0] at ge747_0
          have HL747_0:=zm (show Kd.R (Kd.int .i64) 3 _ _ _ _ (rd_L1 t737 x8_2) from ge747_0)
          clear hv747_0 ge747_0;clear hcc747 hce747;have HR747_0:=zm hi747_0;have HC747_0:=zm hl747_0;clear hi747_0 hl747_0
          replace p747:=eq_true p747
          replace q747:=eq_true q747
          obtain ⟨ad748,e748,hx748_0,p748,q748⟩:=yai HR747_0 x9_3
          cases e748
          refine yst (fun w' => w'.cell? ⟨gb734,0,none⟩=some (.bool a2_0)∧w'.cell? ⟨gb734,1,none⟩=some (.slice A2_1 l2_1.length c2_1)∧w'.cell? ⟨gb734,2,none⟩=some (.slice (some ad740) l2_2.length c2_2)∧w'.cell? (ad740.add (x8_2).toNat)=some (.slice (some ad742) (rd_L2 l2_2 x8_2).length c741_0)∧w'.cell? (ad742.add (x9_3).toNat)=some (.slice A742_0 (rd_L1 (rd_L2 l2_2 x8_2) x9_3).length c742_0)∧w'.cell? (ad740.add (x8_2).toNat)=some (.slice (some ad742) (rd_L2 l2_2 x8_2).length c741_0)∧w'.cell? (ad742.add (x9_3).toNat)=some (.slice A742_0 (rd_L1 (rd_L2 l2_2 x8_2) x9_3).length c742_0)∧w'.cell? (ad747.add (x8_2).toNat)=some (.slice (some ad748) (rd_L1 t737 x8_2).length c747_0)∧w'.cell? (ad748.add (x9_3).toNat)=some (.int .i64 (rd (rd_L1 t737 x8_2) x9_3))) [] 31 psalteryref13_Right.tab12 psalteryref13_Right.bits12 (fun hHeld HT_ HW_ => ?_)
          generalize wr.drew=w32 at HO_7 BK734 HB HL747_0 HR741_0 HR742_0 HR744_0 HR745_0 HR747_0 hx741_0 hx742_0 hx744_0 hx745_0 hx747_0 hx748_0 hHeld ⊢
          refine yp 0 49 HT_ ?_
          refine yp 2 51 HT_ ?_
          refine yp 5 54 HT_ ?_
          refine yp 9 58 HT_ ?_
          refine yl 1 50 HT_ HW_ hHeld ?_
          refine yp 3 52 HT_ ?_
          refine yl 4 53 HT_ HW_ hHeld ?_
          refine yp 6 55 HT_ ?_
          refine yl 7 56 HT_ HW_ hHeld ?_
          refine yp 8 57 HT_ ?_
          refine yw 10 59 HT_ (fun K hK => ?_)
          refine ygs Try.func46 #[.int .i64 x9_3] ?_
          with_reducible refine (psalteryref10_Width.calls k3 x9_3 t743 _ A26.out).mono ?_
          rintro e w' ⟨rfl,⟨nd,rfl⟩⟩
          refine ⟨_,rfl, ?_⟩
          refine hK.out _ _ yH (fun hHeld => ?_)
          clear hK K
          refine ym (some 59) ?_
          refine yp 11 60 HT_ ?_
          refine yp 12 61 HT_ ?_
          refine yp 13 62 HT_ ?_
          refine yp 15 64 HT_ ?_
          refine yp 18 67 HT_ ?_
          refine yp 22 71 HT_ ?_
          refine yp 23 72 HT_ ?_
          refine yp 24 73 HT_ ?_
          refine yp 26 75 HT_ ?_
          refine yl 14 63 HT_ HW_ hHeld ?_
          refine yp 16 65 HT_ ?_
          refine yl 17 66 HT_ HW_ hHeld ?_
          refine yp 19 68 HT_ ?_
          refine yl 20 69 HT_ HW_ hHeld ?_
          refine yl 25 74 HT_ HW_ hHeld ?_
          refine yp 27 76 HT_ ?_
          refine yl 28 77 HT_ HW_ hHeld ?_
          refine yw 21 70 HT_ (fun K hK => ?_)
          refine ygs Try.func40 #[.slice A742_0 (rd_L1 (rd_L2 l2_2 x8_2) x9_3).length c742_0] ?_
          with_reducible refine (psalteryref06_Pulses.calls k3 _ _ (rd_L1 (rd_L2 l2_2 x8_2) x9_3) t746 _ ?side1 ?side2 A28.out).mono ?_
          (case side1=>exact ycb HR742_0)
          (case side2=>exact HC742_0.out)
          rintro e w' ⟨rfl,⟨nd,rfl⟩⟩
          refine ⟨_,rfl, ?_⟩
          refine hK.out _ _ yH (fun hHeld => ?_)
          clear hK K
          refine ym (some 70) ?_
          refine yp 29 78 HT_ ?_
          refine yp 30 79 HT_ ?_
          refine done_ (done_of HT_.out (by kernel_rfl)) ?_
          try go_wp2
          go_roundg k3
          case measure=>exact yom3 HJ3 HK2 HK3
          case rel=>exact ⟨(wrap64 (x9_3+1)),yq,H',⟨yom3 HJ3 HK2 HK3⟩,⟨yr HO_7⟩,⟨yk BK734⟩,⟨yhb⟩⟩
         ·
          rw [if_neg c31] at H
          have c31b0 : (t746 == (rd (rd_L1 t737 x8_2) x9_3))=false:=beq_eq_false_iff_ne.mpr c31
          have c31b1 : (t746 != (rd (rd_L1 t737 x8_2) x9_3))=true:=bne_iff_ne.mpr c31
          obtain rfl:=Option.some.inj H
          try go_wp2
          replace HO_7:=zm (Kd.S_drew HO_7.out)
          replace BK734:=zm (zj BK734.out)
          replace HB:=zm (zf HB.out)
          have p741 : 0≤(x8_2 : Int):=yt
          have q741 : x8_2 < (l2_2.length : Int):=yt
          obtain ⟨ad741,A741_0,c741_0,e741,hx741_0,hl741_0,hi741_0⟩:=at_L2 HR2_2.out x8_2 p741 q741
          have hw741_0:=hx741_0
          obtain rfl : ad740=ad741:=(by injection e741)
          replace hx741_0:=yhx HB hx741_0
          have HR741_0:=zm hi741_0;have HC741_0:=zm hl741_0;clear hi741_0 hl741_0
          replace p741:=eq_true p741
          replace q741:=eq_true q741
          have p742 : 0≤(x9_3 : Int):=yt
          have q742 : x9_3 < ((rd_L2 l2_2 x8_2).length : Int):=yt
          obtain ⟨ad742,A742_0,c742_0,e742,hx742_0,hl742_0,hi742_0⟩:=at_L1 HR741_0.out x9_3 p742 q742
          have hw742_0:=hx742_0
          cases e742
          replace hx742_0:=yhx HB hx742_0
          have HR742_0:=zm hi742_0;have HC742_0:=zm hl742_0;clear hi742_0 hl742_0
          replace p742:=eq_true p742
          replace q742:=eq_true q742
          have p744 : 0≤(x8_2 : Int):=yt
          have q744 : x8_2 < (l2_2.length : Int):=yt
          obtain ⟨ad744,A744_0,c744_0,e744,hx744_0,hl744_0,hi744_0⟩:=at_L2 HR2_2.out x8_2 p744 q744
          have hw744_0:=hx744_0
          obtain rfl : ad740=ad744:=(by injection e744)
          replace hx744_0:=yhx HB hx744_0
          have HR744_0:=zm hi744_0;have HC744_0:=zm hl744_0;clear hi744_0 hl744_0
          replace p744:=eq_true p744
          replace q744:=eq_true q744
          have ea_:=Option.some.inj (hx741_0.symm.trans hx744_0)
          injection ea_ with ea_ en_ ec_
          subst ea_;subst ec_;clear en_
          have p745 : 0≤(x9_3 : Int):=yt
          have q745 : x9_3 < ((rd_L2 l2_2 x8_2).length : Int):=yt
          obtain ⟨ad745,A745_0,c745_0,e745,hx745_0,hl745_0,hi745_0⟩:=at_L1 HR744_0.out x9_3 p745 q745
          have hw745_0:=hx745_0
          cases e745
          replace hx745_0:=yhx HB hx745_0
          have HR745_0:=zm hi745_0;have HC745_0:=zm hl745_0;clear hi745_0 hl745_0
          replace p745:=eq_true p745
          replace q745:=eq_true q745
          have p747 : 0≤(x8_2 : Int):=yt
          have q747 : x8_2 < (t737.length : Int):=yt
          obtain ⟨Ao35,co35,eo35⟩:=Kd.S_slice HO_7.out
          (first|subst eo35|(injection eo35 with f1_ f2_ f3_;have f4_:=f1_.symm;have f5_:=f3_.symm;clear f1_ f2_ f3_;subst f4_;subst f5_))
          obtain ⟨ad747,A747_0,c747_0,e747,hx747_0,hl747_0,hi747_0⟩:=at_L1 (Kd.S_reads' HO_7.out).2.2 x8_2 p747 q747
          cases e747
          obtain ⟨ce747,hce747,hMe747,hcc747⟩:=Kd.S_get HO_7.out [] x8_2 p747 (by first|exact q747|exact yt|(have e_:=(Kd.S_reads' HO_7.out).1;omega))
          obtain ⟨ve747_0,rfl,ge747_0⟩:=hMe747
          have hv747_0:=hcc747 0 _ rfl
          rw [Nat.add_zero,show ((Kd.slice 3 (Kd.int .i64))).sz=1 from rfl,Nat.mul_one] at hv747_0
          replace hv747_0:=Option.some.inj (hv747_0.symm.trans hx747_0)
          rw [hv747_0] at ge747_0
          have HL747_0:=zm (show Kd.R (Kd.int .i64) 3 _ _ _ _ (rd_L1 t737 x8_2) from ge747_0)
          clear hv747_0 ge747_0;clear hcc747 hce747;have HR747_0:=zm hi747_0;have HC747_0:=zm hl747_0;clear hi747_0 hl747_0
          replace p747:=eq_true p747
          replace q747:=eq_true q747
          obtain ⟨ad748,e748,hx748_0,p748,q748⟩:=yai HR747_0 x9_3
          cases e748
          refine yst (fun w' => w'.cell? ⟨gb734,0,none⟩=some (.bool a2_0)∧w'.cell? ⟨gb734,1,none⟩=some (.slice A2_1 l2_1.length c2_1)∧w'.cell? ⟨gb734,2,none⟩=some (.slice (some ad740) l2_2.length c2_2)∧w'.cell? (ad740.add (x8_2).toNat)=some (.slice (some ad742) (rd_L2 l2_2 x8_2).length c741_0)∧w'.cell? (ad742.add (x9_3).toNat)=some (.slice A742_0 (rd_L1 (rd_L2 l2_2 x8_2) x9_3).length c742_0)∧w'.cell? (ad740.add (x8_2).toNat)=some (.slice (some ad742) (rd_L2 l2_2 x8_2).length c741_0)∧w'.cell? (ad742.add (x9_3).toNat)=some (.slice A742_0 (rd_L1 (rd_L2 l2_2 x8_2) x9_3).length c742_0)∧w'.cell? (ad747.add (x8_2).toNat)=some (.slice (some ad748) (rd_L1 t737 x8_2).length c747_0)∧w'.cell? (ad748.add (x9_3).toNat)=some (.int .i64 (rd (rd_L1 t737 x8_2) x9_3))) [] 31 psalteryref13_Right.tab12 psalteryref13_Right.bits12 (fun hHeld HT_ HW_ => ?_)
          generalize wr.drew=w34 at HO_7 BK734 HB HL747_0 HR741_0 HR742_0 HR744_0 HR745_0 HR747_0 hx741_0 hx742_0 hx744_0 hx745_0 hx747_0 hx748_0 hHeld ⊢
          refine yp 0 49 HT_ ?_
          refine yp 2 51 HT_ ?_
          refine yp 5 54 HT_ ?_
          refine yp 9 58 HT_ ?_
          refine yl 1 50 HT_ HW_ hHeld ?_
          refine yp 3 52 HT_ ?_
          refine yl 4 53 HT_ HW_ hHeld ?_
          refine yp 6 55 HT_ ?_
          refine yl 7 56 HT_ HW_ hHeld ?_
          refine yp 8 57 HT_ ?_
          refine yw 10 59 HT_ (fun K hK => ?_)
          refine ygs Try.func46 #[.int .i64 x9_3] ?_
          with_reducible refine (psalteryref10_Width.calls k3 x9_3 t743 _ A26.out).mono ?_
          rintro e w' ⟨rfl,⟨nd,rfl⟩⟩
          refine ⟨_,rfl, ?_⟩
          refine hK.out _ _ yH (fun hHeld => ?_)
          clear hK K
          refine ym (some 59) ?_
          refine yp 11 60 HT_ ?_
          refine yp 12 61 HT_ ?_
          refine yp 13 62 HT_ ?_
          refine yp 15 64 HT_ ?_
          refine yp 18 67 HT_ ?_
          refine yp 22 71 HT_ ?_
          refine yp 23 72 HT_ ?_
          refine yp 24 73 HT_ ?_
          refine yp 26 75 HT_ ?_
          refine yl 14 63 HT_ HW_ hHeld ?_
          refine yp 16 65 HT_ ?_
          refine yl 17 66 HT_ HW_ hHeld ?_
          refine yp 19 68 HT_ ?_
          refine yl 20 69 HT_ HW_ hHeld ?_
          refine yl 25 74 HT_ HW_ hHeld ?_
          refine yp 27 76 HT_ ?_
          refine yl 28 77 HT_ HW_ hHeld ?_
          refine yw 21 70 HT_ (fun K hK => ?_)
          refine ygs Try.func40 #[.slice A742_0 (rd_L1 (rd_L2 l2_2 x8_2) x9_3).length c742_0] ?_
          with_reducible refine (psalteryref06_Pulses.calls k3 _ _ (rd_L1 (rd_L2 l2_2 x8_2) x9_3) t746 _ ?side1 ?side2 A28.out).mono ?_
          (case side1=>exact ycb HR742_0)
          (case side2=>exact HC742_0.out)
          rintro e w' ⟨rfl,⟨nd,rfl⟩⟩
          refine ⟨_,rfl, ?_⟩
          refine hK.out _ _ yH (fun hHeld => ?_)
          clear hK K
          refine ym (some 70) ?_
          refine yp 29 78 HT_ ?_
          refine yp 30 79 HT_ ?_
          refine done_ (done_of HT_.out (by kernel_rfl)) ?_
          try go_wp2
          go_ret
          exact ⟨ye,yhb⟩
        ·
         rw [if_neg c27] at H
         have c27b0 : (((rd_L1 (rd_L2 l2_2 x8_2) x9_3).length : Int) == t743)=false:=beq_eq_false_iff_ne.mpr c27
         have c27b1 : (((rd_L1 (rd_L2 l2_2 x8_2) x9_3).length : Int) != t743)=true:=bne_iff_ne.mpr c27
         obtain rfl:=Option.some.inj H
         try go_wp2
         replace HO_7:=zm (Kd.S_drew HO_7.out)
         replace BK734:=zm (zj BK734.out)
         replace HB:=zm (zf HB.out)
         have p741 : 0≤(x8_2 : Int):=yt
         have q741 : x8_2 < (l2_2.length : Int):=yt
         obtain ⟨ad741,A741_0,c741_0,e741,hx741_0,hl741_0,hi741_0⟩:=at_L2 HR2_2.out x8_2 p741 q741
         have hw741_0:=hx741_0
         obtain rfl : ad740=ad741:=(by injection e741)
         replace hx741_0:=yhx HB hx741_0
         have HR741_0:=zm hi741_0;have HC741_0:=zm hl741_0;clear hi741_0 hl741_0
         replace p741:=eq_true p741
         replace q741:=eq_true q741
         have p742 : 0≤(x9_3 : Int):=yt
         have q742 : x9_3 < ((rd_L2 l2_2 x8_2).length : Int):=yt
         obtain ⟨ad742,A742_0,c742_0,e742,hx742_0,hl742_0,hi742_0⟩:=at_L1 HR741_0.out x9_3 p742 q742
         have hw742_0:=hx742_0
         cases e742
         replace hx742_0:=yhx HB hx742_0
         have HR742_0:=zm hi742_0;have HC742_0:=zm hl742_0;clear hi742_0 hl742_0
         replace p742:=eq_true p742
         replace q742:=eq_true q742
         refine yst (fun w' => w'.cell? ⟨gb734,0,none⟩=some (.bool a2_0)∧w'.cell? ⟨gb734,1,none⟩=some (.slice A2_1 l2_1.length c2_1)∧w'.cell? ⟨gb734,2,none⟩=some (.slice (some ad740) l2_2.length c2_2)∧w'.cell? (ad740.add (x8_2).toNat)=some (.slice (some ad742) (rd_L2 l2_2 x8_2).length c741_0)∧w'.cell? (ad742.add (x9_3).toNat)=some (.slice A742_0 (rd_L1 (rd_L2 l2_2 x8_2) x9_3).length c742_0)) [] 31 psalteryref13_Right.tab12 psalteryref13_Right.bits12 (fun hHeld HT_ HW_ => ?_)
         generalize wr.drew=w36 at HO_7 BK734 HB HR741_0 HR742_0 hx741_0 hx742_0 hHeld ⊢
         refine yp 0 49 HT_ ?_
         refine yp 2 51 HT_ ?_
         refine yp 5 54 HT_ ?_
         refine yp 9 58 HT_ ?_
         refine yl 1 50 HT_ HW_ hHeld ?_
         refine yp 3 52 HT_ ?_
         refine yl 4 53 HT_ HW_ hHeld ?_
         refine yp 6 55 HT_ ?_
         refine yl 7 56 HT_ HW_ hHeld ?_
         refine yp 8 57 HT_ ?_
         refine yw 10 59 HT_ (fun K hK => ?_)
         refine ygs Try.func46 #[.int .i64 x9_3] ?_
         with_reducible refine (psalteryref10_Width.calls k3 x9_3 t743 _ A26.out).mono ?_
         rintro e w' ⟨rfl,⟨nd,rfl⟩⟩
         refine ⟨_,rfl, ?_⟩
         refine hK.out _ _ yH (fun hHeld => ?_)
         clear hK K
         refine ym (some 59) ?_
         refine yp 11 60 HT_ ?_
         refine yp 12 61 HT_ ?_
         refine yu 13 62 HT_ ?_
         refine yu 14 63 HT_ ?_
         refine yu 15 64 HT_ ?_
         refine yu 16 65 HT_ ?_
         refine yu 17 66 HT_ ?_
         refine yu 18 67 HT_ ?_
         refine yu 19 68 HT_ ?_
         refine yu 20 69 HT_ ?_
         refine yu 21 70 HT_ ?_
         refine yu 22 71 HT_ ?_
         refine yu 23 72 HT_ ?_
         refine yu 24 73 HT_ ?_
         refine yu 25 74 HT_ ?_
         refine yu 26 75 HT_ ?_
         refine yu 27 76 HT_ ?_
         refine yu 28 77 HT_ ?_
         refine yu 29 78 HT_ ?_
         refine yp 30 79 HT_ ?_
         refine done_ (done_of HT_.out (by kernel_rfl)) ?_
         try go_wp2
         go_ret
         exact ⟨ye,yhb⟩
       ·
        rw [if_neg c21] at H
        have c21b0 : decide (x9_3 < 5)=false:=decide_eq_false c21
        clear c21
        have H' := zm H
        clear H
        go_wp2
        go_roundg k3
        case measure=>exact yom3 HJ3 HK2 HK3
        case rel=>exact ⟨(wrap64 (x8_2+1)),yq,H',⟨yom3 HJ3 HK2 HK3⟩,⟨yr HO_7⟩,⟨yk BK734⟩,⟨yhb⟩⟩
     ·
      rw [if_neg c19] at H
      have c19b0 : (((rd_L2 l2_2 x8_2).length : Int) == 5)=false:=beq_eq_false_iff_ne.mpr c19
      have c19b1 : (((rd_L2 l2_2 x8_2).length : Int) != 5)=true:=bne_iff_ne.mpr c19
      obtain rfl:=Option.some.inj H
      obtain ⟨_,_,_,_,_,_⟩:=yc3 BK734
      have p740 : 0≤(x8_2 : Int):=yt
      have q740 : x8_2 < (l2_2.length : Int):=yt
      obtain ⟨ad740,A740_0,c740_0,e740,hx740_0,hl740_0,hi740_0⟩:=at_L2 HR2_2.out x8_2 p740 q740
      cases e740
      replace hx740_0:=yhx HB hx740_0
      have HR740_0:=zm hi740_0;have HC740_0:=zm hl740_0;clear hi740_0 hl740_0
      replace p740:=eq_true p740
      replace q740:=eq_true q740
      go_wp2
      go_ret
      exact ⟨ye,yhb⟩
    ·
     rw [if_neg c16] at H
     have c16b0 : decide (x8_2 < a1)=false:=decide_eq_false c16
     clear c16
     obtain rfl:=Option.some.inj H
     go_wp2
     go_ret
     exact ⟨ye,yhb⟩
def psalterylaw13_PackRights.f (k : Nat) (a0 : Int) (a1 : Int) (a2_0 : Bool) (l2_1 : List (List Int)) (l2_2 : List (List (List Int))) : Option (Bool):=(psalterylaw13_great.f k a2_0 l2_1 l2_2 ([] : List (List Int))).bind fun t750=>(if t750=true then ((psalterylaw13_knows.f k).bind fun t751=>(some t751)) else ((cpack_Right.f k a0 a1 a2_0 l2_1 l2_2).bind fun t752=>((psalterylaw13_As.f a2_0 l2_1 l2_2).bind fun bt753=>((psalteryref13_Right.f k a0 a1 bt753.1 bt753.2.1 bt753.2.2).bind fun t760=>(if (t752 == t760)=true then ((psalterylaw13_knows.f k).bind fun t761=>(some t761)) else (none))))))
theorem psalterylaw13_PackRights.mono : ∀ a0 a1 a2 a3 a4 k,LeO (psalterylaw13_PackRights.f k a0 a1 a2 a3 a4) (psalterylaw13_PackRights.f (k+1) a0 a1 a2 a3 a4):=by
 intro a0 a1 a2 a3 a4 k
 unfold psalterylaw13_PackRights.f
 repeat' with_reducible first|apply cpack_Right.mono|apply psalterylaw13_great.mono|apply psalterylaw13_knows.mono|apply psalteryref13_Right.mono|apply yLr|apply yLn|apply yLi|apply yLb|intro _
def psalterylaw13_PackRights.T3 : Bool × List (List Nat × List Nat):=(true, [([], []),([], []),([], []),([0,1,2], [0,1,2]),([], []),([], []),([], []),([6,3], [6]),([4,5,7,7], [4,5,7]),([3,8], [3,8]),([9,8], [9]),([10,10], [10]),([10,11], [10,11]),([12,11,0,1,2,3,4,5,6,7,8,9,10,11,12], [12])])
def psalterylaw13_PackRights.B3 : List Nat := [0,0,0,7,0,0,0,79,255,511,1023,2047,4095,8191]
theorem psalterylaw13_PackRights.tab3 : rtab .any (opsOf Try.f4 3)=psalterylaw13_PackRights.T3:=by kernel_rfl
theorem psalterylaw13_PackRights.bits3 : waitsOk psalterylaw13_PackRights.T3.2 psalterylaw13_PackRights.B3=true:=by kernel_rfl
set_option maxHeartbeats 8000000 in
set_option maxRecDepth 100000 in
theorem psalterylaw13_PackRights.calls (k : Nat) (a0 : Int) (a1 : Int) (a2_0 : Bool) (A2_1 : Option Addr) (c2_1 : Nat) (l2_1 : List (List Int)) (A2_2 : Option Addr) (c2_2 : Nat) (l2_2 : List (List (List Int))) (r : Bool) (w : World) (hr2_1 : Kd.C (Kd.slice 3 (Kd.int .i64)) w A2_1 l2_1.length l2_1) (hc2_1 : l2_1.length≤c2_1) (hr2_2 : Kd.C (Kd.slice 49 (Kd.slice 3 (Kd.int .i64))) w A2_2 l2_2.length l2_2) (hc2_2 : l2_2.length≤c2_2) (h : psalterylaw13_PackRights.f k a0 a1 a2_0 l2_1 l2_2=some r) :
  Calls Try.prog 4 #[.int .i64 a0, .int .i64 a1, .agg #[.bool a2_0, .slice A2_1 l2_1.length c2_1, .slice A2_2 l2_2.length c2_2]] w fun e w' => e=.returned (.bool r)∧Below w.heap.size w w' := by
 have hu25:=Try.underlying25;have HR2_1:=zm hr2_1;have HC2_1:=zm hc2_1;clear hr2_1 hc2_1;have HR2_2:=zm hr2_2;have HC2_2:=zm hc2_2;clear hr2_2 hc2_2;have HB:=zm (Below.refl w.heap.size w)
 have H : ((psalterylaw13_great.f k a2_0 l2_1 l2_2 ([] : List (List Int))).bind fun t750=>(if t750=true then ((psalterylaw13_knows.f k).bind fun t751=>(some t751)) else ((cpack_Right.f k a0 a1 a2_0 l2_1 l2_2).bind fun t752=>((psalterylaw13_As.f a2_0 l2_1 l2_2).bind fun bt753=>((psalteryref13_Right.f k a0 a1 bt753.1 bt753.2.1 bt753.2.2).bind fun t760=>(if (t752 == t760)=true then ((psalterylaw13_knows.f k).bind fun t761=>(some t761)) else (none)))))))=some r:=h
 clear h
 obtain ⟨t750,A4,H⟩:=ybi H
 by_cases c5 : t750=true
 ·
  subst c5
  rw [if_pos rfl] at H
  obtain ⟨t751,A6,H⟩:=ybi H
  obtain rfl:=Option.some.inj H
  go_enter Try.func4,Try.ntmps4
  go_wp2_with (first|((with_reducible refine gate_dst (N:=5) rfl ?_);refine ybx 5 #[.bool a2_0, .slice A2_1 l2_1.length c2_1, .slice A2_2 l2_2.length c2_2] 25 ?_;intro gb749 hg w7 hbox hb;have BK749:=zm (hbox);have GW749:=ygw hg;have GE749:=ygw hg;replace HB:=ybs hb;clear hb hbox hg;obtain ⟨_,_,_,_,_,_⟩:=yc3 BK749)|((with_reducible refine gate_callee (f:=10) rfl ?_);refine ygl 8 Try.func10 #[.agg #[.bool a2_0, .slice A2_1 l2_1.length c2_1, .slice A2_2 l2_2.length c2_2], .slice none 0 0] ?_;(refine (psalterylaw13_great.calls k a2_0 _ _ l2_1 _ _ l2_2 _ _ ([] : List (List Int)) true _ ?side1 ?side2 ?side3 ?side4 ?side5 ?side6 A4.out).mono ?_);(case side1=>exact ycb HR2_1);(case side2=>exact HC2_1.out);(case side3=>exact ycb HR2_2);(case side4=>exact HC2_2.out);(case side5=>exact Kd.C_nil _ _);(case side6=>exact Nat.le_refl _);rintro e w9 ⟨rfl,hb⟩;refine ⟨_,rfl, ?_⟩;replace BK749:=ybb BK749 hb;replace HB:=ybs hb;(try clear hb))|((with_reducible refine gate_callee (f:=11) rfl ?_);refine ygl 9 Try.func11 #[] ?_;(with_reducible refine (psalterylaw13_knows.calls k  t751 _ A6.out).mono ?_);rintro e w10 ⟨rfl,hb⟩;refine ⟨_,rfl, ?_⟩;replace BK749:=ybb BK749 hb;replace HB:=ybs hb;(try clear hb)))
  go_ret
  exact ⟨ye,yhb⟩
 ·
  replace c5:=Bool.eq_false_iff.mpr c5
  subst c5
  rw [ynf] at H
  obtain ⟨t752,A11,H⟩:=ybi H
  obtain ⟨⟨t753,t754,t757⟩,A12,H⟩:=ybi H
  try dsimp only at H
  obtain ⟨t760,A13,H⟩:=ybi H
  by_cases c14 : (t752 == t760)=true
  ·
   rw [if_pos c14] at H
   have c14b0 : (t752 == t760)=true:=c14
   (try (have c14b1 : decide (t752=t760)=true:=by simpa using c14))
   (try (have c14b2 : (t752 == t760)=true:=by simpa using c14))
   clear c14
   obtain ⟨t761,A15,H⟩:=ybi H
   obtain rfl:=Option.some.inj H
   go_enter Try.func4,Try.ntmps4
   try go_wp2_with (first|((with_reducible refine gate_dst (N:=5) rfl ?_);refine ybx 5 #[.bool a2_0, .slice A2_1 l2_1.length c2_1, .slice A2_2 l2_2.length c2_2] 25 ?_;intro gb749 hg w16 hbox hb;have BK749:=zm (hbox);have GW749:=ygw hg;have GE749:=ygw hg;replace HB:=ybs hb;clear hb hbox hg;obtain ⟨_,_,_,_,_,_⟩:=yc3 BK749)|((with_reducible refine gate_callee (f:=10) rfl ?_);refine ygl 8 Try.func10 #[.agg #[.bool a2_0, .slice A2_1 l2_1.length c2_1, .slice A2_2 l2_2.length c2_2], .slice none 0 0] ?_;(refine (psalterylaw13_great.calls k a2_0 _ _ l2_1 _ _ l2_2 _ _ ([] : List (List Int)) false _ ?side1 ?side2 ?side3 ?side4 ?side5 ?side6 A4.out).mono ?_);(case side1=>exact ycb HR2_1);(case side2=>exact HC2_1.out);(case side3=>exact ycb HR2_2);(case side4=>exact HC2_2.out);(case side5=>exact Kd.C_nil _ _);(case side6=>exact Nat.le_refl _);rintro e w18 ⟨rfl,hb⟩;refine ⟨_,rfl, ?_⟩;replace BK749:=ybb BK749 hb;replace HB:=ybs hb;(try clear hb)))
   replace BK749:=zm (zj BK749.out)
   replace HB:=zm (zf HB.out)
   refine yst (fun w' => w'.cell? ⟨gb749,0,none⟩=some (.bool a2_0)∧w'.cell? ⟨gb749,1,none⟩=some (.slice A2_1 l2_1.length c2_1)∧w'.cell? ⟨gb749,2,none⟩=some (.slice A2_2 l2_2.length c2_2)) [] 14 psalterylaw13_PackRights.tab3 psalterylaw13_PackRights.bits3 (fun hHeld HT_ HW_ => ?_)
   generalize w18.drew=w19 at BK749 HB hHeld ⊢
   refine yp 0 10 HT_ ?_
   refine yp 1 11 HT_ ?_
   refine yp 4 14 HT_ ?_
   refine yp 5 15 HT_ ?_
   refine yl 2 12 HT_ HW_ hHeld ?_
   refine yl 6 16 HT_ HW_ hHeld ?_
   refine yw 3 13 HT_ (fun K hK => ?_)
   refine ygs Try.func15 #[.int .i64 a0, .int .i64 a1, .agg #[.bool a2_0, .slice A2_1 l2_1.length c2_1, .slice A2_2 l2_2.length c2_2]] ?_
   with_reducible refine (cpack_Right.calls k a0 a1 a2_0 _ _ l2_1 _ _ l2_2 t752 _ ?side1 ?side2 ?side3 ?side4 A11.out).mono ?_
   (case side1=>exact ycb HR2_1)
   (case side2=>exact HC2_1.out)
   (case side3=>exact ycb HR2_2)
   (case side4=>exact HC2_2.out)
   rintro e w20 ⟨rfl,hb⟩
   refine ⟨_,rfl, ?_⟩
   replace BK749:=ybb BK749 hb
   replace HB:=ybs hb
   (try clear hb)
   refine hK.out _ _ yH (fun hHeld => ?_)
   clear hK K
   refine ym (some 13) ?_
   refine yw 7 17 HT_ (fun K hK => ?_)
   refine ygs Try.func14 #[.agg #[.bool a2_0, .slice A2_1 l2_1.length c2_1, .slice A2_2 l2_2.length c2_2]] ?_
   with_reducible refine (psalterylaw13_As.calls a2_0 (fun k_=>k_ < w.heap.size) _ _ l2_1 (fun k_=>k_ < w.heap.size) _ _ l2_2 t753 t754 t757 _ ?side1 ?side2 A12.out).mono ?_
   (case side1=>exact Kd.V_mk HC2_1.out (Kd.F_below (Kd.C_F (Kd.heap_slice 3 (Kd.heap_int .i64)) HR2_1.out) yhb))
   (case side2=>exact Kd.V_mk HC2_2.out (Kd.F_below (Kd.C_F (Kd.heap_slice 49 (Kd.heap_slice 3 (Kd.heap_int .i64))) HR2_2.out) yhb))
   rintro e w21 ⟨v755,v758,rfl,ho0,ho1,hb⟩
   refine ⟨_,rfl, ?_⟩
   have HO756:=yho (fun k_=>k_≠gb749) ho0 (fun k_ hk_=>yoB BK749 hk_)
   have HO759:=yho (fun k_=>k_≠gb749) ho1 (fun k_ hk_=>yoB BK749 hk_)
   replace BK749:=ybb BK749 hb
   replace HB:=ybs hb
   (try clear hb)
   (try clear ho0)
   (try clear ho1)
   obtain ⟨Ao22,co22,eo22⟩:=Kd.V_slice HO756.out
   (first|subst eo22|(injection eo22 with f1_ f2_ f3_;have f4_:=f1_.symm;have f5_:=f3_.symm;clear f1_ f2_ f3_;subst f4_;subst f5_))
   obtain ⟨Ao23,co23,eo23⟩:=Kd.V_slice HO759.out
   (first|subst eo23|(injection eo23 with f1_ f2_ f3_;have f4_:=f1_.symm;have f5_:=f3_.symm;clear f1_ f2_ f3_;subst f4_;subst f5_))
   refine hK.out _ _ yH (fun hHeld => ?_)
   clear hK K
   refine ym (some 17) ?_
   refine yw 8 18 HT_ (fun K hK => ?_)
   refine ygs Try.func16 #[.int .i64 a0, .int .i64 a1, .agg #[.bool t753, .slice Ao22 t754.length co22, .slice Ao23 t757.length co23]] ?_
   with_reducible refine (psalteryref13_Right.calls k a0 a1 t753 _ _ t754 _ _ t757 t760 _ ?side1 ?side2 ?side3 ?side4 A13.out).mono ?_
   (case side1=>exact yce (Kd.V_reads' HO756.out).2.2)
   (case side2=>exact (Kd.V_reads' HO756.out).2.1)
   (case side3=>exact yce (Kd.V_reads' HO759.out).2.2)
   (case side4=>exact (Kd.V_reads' HO759.out).2.1)
   rintro e w24 ⟨rfl,hb⟩
   refine ⟨_,rfl, ?_⟩
   replace HO756:=yVb HO756 hb
   replace HO759:=yVb HO759 hb
   replace BK749:=ybb BK749 hb
   replace HB:=ybs hb
   (try clear hb)
   refine hK.out _ _ yH (fun hHeld => ?_)
   clear hK K
   refine ym (some 18) ?_
   refine yp 9 19 HT_ ?_
   refine yp 10 20 HT_ ?_
   refine yw 11 21 HT_ (fun K hK => ?_)
   refine ygs Try.func11 #[] ?_
   with_reducible refine (psalterylaw13_knows.calls k  t761 _ A15.out).mono ?_
   rintro e w25 ⟨rfl,hb⟩
   refine ⟨_,rfl, ?_⟩
   replace HO756:=yVb HO756 hb
   replace HO759:=yVb HO759 hb
   replace BK749:=ybb BK749 hb
   replace HB:=ybs hb
   (try clear hb)
   refine hK.out _ _ yH (fun hHeld => ?_)
   clear hK K
   refine ym (some 21) ?_
   refine yp 12 22 HT_ ?_
   refine yp 13 6 HT_ ?_
   refine done_ (done_of HT_.out (by kernel_rfl)) ?_
   try go_wp2
   go_ret
   exact ⟨ye,yhb⟩
  ·
   rw [if_neg c14] at H
   have c14b0 : (t752 == t760)=false:=by simpa using c14
   (try (have c14b1 : decide (t752=t760)=false:=by simpa using c14))
   (try (have c14b2 : (t752 == t760)=false:=by simpa using c14))
   (try (have c14b3 : ¬ (t752=t760):=by simpa using c14))
   clear c14
   exact absurd H (by simp)
end Go.Proofs.Ytnmbndkojpjkmaa.Prt
