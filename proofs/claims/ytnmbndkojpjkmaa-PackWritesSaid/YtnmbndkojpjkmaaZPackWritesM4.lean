-- Functions of the program and of the document as plain Lean, each with the proof that the code comes to it. Written by a program of this session (wip/tools/myprint.py, pack.py) over the kit's printer; Lean checks it.
import Derived.Test.YtnmbndkojpjkmaaZPackWritesPrt0
import Derived.Test.YtnmbndkojpjkmaaZPackWritesM3
import Derived.Test.YtnmbndkojpjkmaaZPackWritesSh
import Derived.Test.YtnmbndkojpjkmaaZPackWritesM2
namespace Go.Proofs.Ytnmbndkojpjkmaa.Prt
open Go.RowKit Go.Proofs.YtnmbndkojpjkmaaW.PrintWords Go.Proofs.YtnmbndkojpjkmaaW.PrintLast Go.Proofs.YtnmbndkojpjkmaaW.PrintMore
attribute [local go_sem] max2_int min2_int max_two min_two max_three min_three max_four min_four   -- for this text's walks alone
set_option linter.unusedVariables false
set_option linter.unusedSimpArgs false


def psalteryref12_May.j0 : Nat→List Int→Int→Int→Bool→Option (Bool)
 | 0,_,_,_,_=>none
 | k+1,x1,x2,x3,x32=>if x32=true then (some false) else ((psalteryref12_More.f x1 x2).bind fun t711=>((psalteryref12_Spent.f k t711).bind fun t714=>(some (decide (t714≤x3)))))
def psalteryref12_May.f (k : Nat) (l0 : List Int) (l1 : List Int) (a2 : Int) (a3 : Int) : Option (Bool):=if 0≤a2 then (if a2 < (l0.length : Int) then (if (rd l0 a2) < 1 then (psalteryref12_May.j0 k l1 a2 a3 true) else (if a2 < (l1.length : Int) then (if (rd l1 a2) ≥ 12 then (psalteryref12_May.j0 k l1 a2 a3 true) else ((psalteryref10_Width.f k a2).bind fun t709=>(if t709=1 then (psalteryref12_May.j0 k l1 a2 a3 (decide ((rd l1 a2) > 0))) else (psalteryref12_May.j0 k l1 a2 a3 false)))) else (none))) else (none)) else (none)
theorem psalteryref12_May.mono_l : ∀ k,(∀ y0 y1 y2 y3,LeO (psalteryref12_May.j0 k y0 y1 y2 y3) (psalteryref12_May.j0 (k+1) y0 y1 y2 y3))
 | 0=>fun _ _ _ _ r h=>by simp [psalteryref12_May.j0] at h
 | k+1=>by
  have ih0:=psalteryref12_May.mono_l k
  ·
   intro y0 y1 y2 y3
   unfold psalteryref12_May.j0
   repeat' with_reducible first|apply ih0|apply psalteryref10_Width.mono|apply psalteryref12_Spent.mono|apply yLr|apply yLn|apply yLi|apply yLb|intro _
theorem psalteryref12_May.mono : ∀ a0 a1 a2 a3 k,LeO (psalteryref12_May.f k a0 a1 a2 a3) (psalteryref12_May.f (k+1) a0 a1 a2 a3):=by
 intro a0 a1 a2 a3 k
 have ih0:=psalteryref12_May.mono_l k
 unfold psalteryref12_May.f
 repeat' with_reducible first|apply ih0|apply psalteryref10_Width.mono|apply psalteryref12_Spent.mono|apply yLr|apply yLn|apply yLi|apply yLb|intro _
set_option maxHeartbeats 8000000 in
set_option maxRecDepth 100000 in
theorem psalteryref12_May.calls (k : Nat) (A0 : Option Addr) (c0 : Nat) (l0 : List Int) (A1 : Option Addr) (c1 : Nat) (l1 : List Int) (a2 : Int) (a3 : Int) (r : Bool) (w : World) (hr0 : Kd.C (Kd.int .i64) w A0 l0.length l0) (hc0 : l0.length≤c0) (hr1 : Kd.C (Kd.int .i64) w A1 l1.length l1) (hc1 : l1.length≤c1) (h : psalteryref12_May.f k l0 l1 a2 a3=some r) :
  Calls Try.prog 95 #[.slice A0 l0.length c0, .slice A1 l1.length c1, .int .i64 a2, .int .i64 a3] w fun e w' => e=.returned (.bool r)∧Below w.heap.size w w' := by
 have HR0:=zm hr0;have HC0:=zm hc0;clear hr0 hc0;have HR1:=zm hr1;have HC1:=zm hc1;clear hr1 hc1;have HB:=zm (Below.refl w.heap.size w)
 have H : (if 0≤a2 then (if a2 < (l0.length : Int) then (if (rd l0 a2) < 1 then (psalteryref12_May.j0 k l1 a2 a3 true) else (if a2 < (l1.length : Int) then (if (rd l1 a2) ≥ 12 then (psalteryref12_May.j0 k l1 a2 a3 true) else ((psalteryref10_Width.f k a2).bind fun t709=>(if t709=1 then (psalteryref12_May.j0 k l1 a2 a3 (decide ((rd l1 a2) > 0))) else (psalteryref12_May.j0 k l1 a2 a3 false)))) else (none))) else (none)) else (none))=some r:=h
 clear h;have HC5:=zm H;clear H
 go_enter Try.func95,Try.ntmps95
 go_upto_region 1 with (fail)
 go_cut [32] (fun v32 wc => ∃ (kq : Nat) (x32_4 : Bool),v32=.bool x32_4∧Aside0 (psalteryref12_May.j0 kq l1 a2 a3 x32_4=some r)∧Aside0 (kq≤k)∧Aside0 (Below w.heap.size w wc))
 case first =>
  have H:=HC5.out;clear HC5
  obtain ⟨c6,H⟩:=yif H
  have c6b0 : decide (0≤a2)=true:=decide_eq_true c6
  clear c6
  (first|rw [c6b0]|(simp only [i64_w,i32_w];rw [c6b0])|skip)
  obtain ⟨c7,H⟩:=yif H
  have c7b0 : decide (a2 < (l0.length : Int))=true:=decide_eq_true c7
  clear c7
  by_cases c8 : (rd l0 a2) < 1
  ·
   rw [if_pos c8] at H
   have c8b0 : decide ((rd l0 a2) < 1)=true:=decide_eq_true c8
   clear c8
   have H' := zm H
   clear H
   have p707 : 0≤(a2 : Int):=yt
   have q707 : a2 < (l0.length : Int):=yt
   obtain ⟨ad707,e707,hx707_0⟩:=Kd.at_int HR0.out a2 p707 q707
   cases e707
   replace hx707_0:=yhx HB hx707_0
   replace p707:=eq_true p707
   replace q707:=eq_true q707
   go_wp2
   go_meet
   case rel=>exact ⟨_,(true),yq,H',⟨yo⟩,⟨yhb⟩⟩
  ·
   rw [if_neg c8] at H
   have c8b0 : decide ((rd l0 a2) < 1)=false:=decide_eq_false c8
   clear c8
   obtain ⟨c9,H⟩:=yif H
   have c9b0 : decide (a2 < (l1.length : Int))=true:=decide_eq_true c9
   clear c9
   by_cases c10 : (rd l1 a2) ≥ 12
   ·
    rw [if_pos c10] at H
    have c10b0 : decide (12≤(rd l1 a2))=true:=decide_eq_true c10
    clear c10
    have H' := zm H
    clear H
    have p707 : 0≤(a2 : Int):=yt
    have q707 : a2 < (l0.length : Int):=yt
    obtain ⟨ad707,e707,hx707_0⟩:=Kd.at_int HR0.out a2 p707 q707
    cases e707
    replace hx707_0:=yhx HB hx707_0
    replace p707:=eq_true p707
    replace q707:=eq_true q707
    have p708 : 0≤(a2 : Int):=yt
    have q708 : a2 < (l1.length : Int):=yt
    obtain ⟨ad708,e708,hx708_0⟩:=Kd.at_int HR1.out a2 p708 q708
    cases e708
    replace hx708_0:=yhx HB hx708_0
    replace p708:=eq_true p708
    replace q708:=eq_true q708
    go_wp2
    go_meet
    case rel=>exact ⟨_,(true),yq,H',⟨yo⟩,⟨yhb⟩⟩
   ·
    rw [if_neg c10] at H
    have c10b0 : decide (12≤(rd l1 a2))=false:=decide_eq_false c10
    clear c10
    obtain ⟨t709,A11,H⟩:=ybi H
    by_cases c12 : t709=1
    ·
     rw [if_pos c12] at H
     have c12b0 : (t709 == 1)=true:=beq_iff_eq.mpr c12
     have c12b1 : (t709 != 1)=false:=bne_eq_false_iff_eq.mpr c12
     clear c12
     have H' := zm H
     clear H
     have p707 : 0≤(a2 : Int):=yt
     have q707 : a2 < (l0.length : Int):=yt
     obtain ⟨ad707,e707,hx707_0⟩:=Kd.at_int HR0.out a2 p707 q707
     cases e707
     replace hx707_0:=yhx HB hx707_0
     replace p707:=eq_true p707
     replace q707:=eq_true q707
     have p708 : 0≤(a2 : Int):=yt
     have q708 : a2 < (l1.length : Int):=yt
     obtain ⟨ad708,e708,hx708_0⟩:=Kd.at_int HR1.out a2 p708 q708
     cases e708
     replace hx708_0:=yhx HB hx708_0
     replace p708:=eq_true p708
     replace q708:=eq_true q708
     go_wp2_with (first|(go_at_call 46;(with_reducible refine (psalteryref10_Width.calls k a2 t709 _ A11.out).mono ?_);rintro e w' ⟨rfl,⟨nd,rfl⟩⟩;have p710 : 0≤(a2 : Int):=yt;have q710 : a2 < (l1.length : Int):=yt;obtain ⟨ad710,e710,hx710_0⟩:=Kd.at_int HR1.out a2 p710 q710;obtain rfl : ad708=ad710:=(by injection e710);replace hx710_0:=yhx HB hx710_0;replace p710:=eq_true p710;replace q710:=eq_true q710))
     go_meet
     case rel=>exact ⟨_,(decide ((rd l1 a2) > 0)),yq,H',⟨yo⟩,⟨yhb⟩⟩
    ·
     rw [if_neg c12] at H
     have c12b0 : (t709 == 1)=false:=beq_eq_false_iff_ne.mpr c12
     have c12b1 : (t709 != 1)=true:=bne_iff_ne.mpr c12
     have H' := zm H
     clear H
     have p707 : 0≤(a2 : Int):=yt
     have q707 : a2 < (l0.length : Int):=yt
     obtain ⟨ad707,e707,hx707_0⟩:=Kd.at_int HR0.out a2 p707 q707
     cases e707
     replace hx707_0:=yhx HB hx707_0
     replace p707:=eq_true p707
     replace q707:=eq_true q707
     have p708 : 0≤(a2 : Int):=yt
     have q708 : a2 < (l1.length : Int):=yt
     obtain ⟨ad708,e708,hx708_0⟩:=Kd.at_int HR1.out a2 p708 q708
     cases e708
     replace hx708_0:=yhx HB hx708_0
     replace p708:=eq_true p708
     replace q708:=eq_true q708
     go_wp2_with (first|(go_at_call 46;(with_reducible refine (psalteryref10_Width.calls k a2 t709 _ A11.out).mono ?_);rintro e w' ⟨rfl,⟨nd,rfl⟩⟩))
     go_meet
     case rel=>exact ⟨_,(false),yq,H',⟨yo⟩,⟨yhb⟩⟩
 case rest =>
  clear HC5
  try clear c1
  obtain ⟨kq,x32_4,rfl,HA,HJ4,HB⟩:=hcut
  obtain ⟨kj4,rfl⟩:=ysu kq (fun h=>by subst h;exact absurd HA.out (by simp [psalteryref12_May.j0]))
  have H:=HA.out;clear HA
  simp only [psalteryref12_May.j0] at H
  by_cases c13 : x32_4=true
  ·
   subst c13
   rw [if_pos rfl] at H
   obtain rfl:=Option.some.inj H
   go_wp2
   go_ret
   exact ⟨ye,yhb⟩
  ·
   replace c13:=Bool.eq_false_iff.mpr c13
   subst c13
   rw [ynf] at H
   obtain ⟨t711,A14,H⟩:=ybi H
   obtain ⟨t714,A15,H⟩:=ybi H
   obtain rfl:=Option.some.inj H
   go_wp2_with (first|((with_reducible refine gate_callee (f:=96) rfl ?_);refine ygl 35 Try.func96 #[.slice A1 l1.length c1, .int .i64 a2] ?_;(with_reducible refine (psalteryref12_More.calls _ _ l1 a2 t711 _ ?side1 HC1.out A14.out).mono ?_);(case side1=>exact ycb HR1);rintro e w16 ⟨v712,rfl,ho0,hb⟩;refine ⟨_,rfl, ?_⟩;have HO713:=zm (Kd.R_lower ho0 (zE yhb));replace HB:=ybs hb;(try clear hb);(try clear ho0);obtain ⟨Ao17,co17,eo17⟩:=Kd.R_slice HO713.out;subst eo17)|((with_reducible refine gate_callee (f:=99) rfl ?_);refine ygl 36 Try.func99 #[.slice Ao17 t711.length co17] ?_;(with_reducible refine (psalteryref12_Spent.calls kj4 _ _ t711 t714 _ ?side1 ?side2 A15.out).mono ?_);(case side1=>exact yce (Kd.R_reads' HO713.out).2.2);(case side2=>exact (Kd.R_reads' HO713.out).2.1);rintro e w18 ⟨rfl,hb⟩;refine ⟨_,rfl, ?_⟩;replace HO713:=yRb HO713 hb;replace HB:=ybs hb;(try clear hb)))
   go_ret
   exact ⟨ye,yhb⟩
mutual
def psalteryref12_Channel.l0 : Nat→List Int→Int→List Int→Option (List Int)
 | 0,_,_,_=>none
 | k+1,x0,x1,x5=>psalteryref12_Channel.l1 k x0 x1 x5 (-1) 0 0
def psalteryref12_Channel.l1 : Nat→List Int→Int→List Int→Int→Int→Int→Option (List Int)
 | 0,_,_,_,_,_,_=>none
 | k+1,x0,x1,x5,x6,x7,x8=>if x8 < 5 then (if 0≤x8 then (if x8 < (x0.length : Int) then (if x8 < (x5.length : Int) then ((psalteryref10_Width.f k x8).bind fun t723=>(if t723=0 then (none) else ((psalteryref12_May.f k x0 x5 x8 x1).bind fun t724=>(if t724=true then (if x6 < 0 then (psalteryref12_Channel.l1 k x0 x1 x5 x8 (wrap64 ((wrap64 (8 * (rd x0 x8))) - (wrap64 (Int.tdiv (wrap64 (16 * (rd x5 x8))) t723)))) (wrap64 (x8+1))) else (if (wrap64 ((wrap64 (8 * (rd x0 x8))) - (wrap64 (Int.tdiv (wrap64 (16 * (rd x5 x8))) t723)))) > x7 then (psalteryref12_Channel.l1 k x0 x1 x5 x8 (wrap64 ((wrap64 (8 * (rd x0 x8))) - (wrap64 (Int.tdiv (wrap64 (16 * (rd x5 x8))) t723)))) (wrap64 (x8+1))) else (psalteryref12_Channel.l1 k x0 x1 x5 x6 x7 (wrap64 (x8+1))))) else (psalteryref12_Channel.l1 k x0 x1 x5 x6 x7 (wrap64 (x8+1))))))) else (none)) else (none)) else (none)) else (if x6 < 0 then (some x5) else ((psalteryref12_More.f x5 x6).bind fun t718=>(psalteryref12_Channel.l0 k x0 x1 t718)))
end
def psalteryref12_Channel.f (k : Nat) (l0 : List Int) (a1 : Int) : Option (List Int):=psalteryref12_Channel.l0 k l0 a1 (([0,0,0,0,0] : List Int))
theorem psalteryref12_Channel.mono_l : ∀ k,(∀ y0 y1 y2,LeO (psalteryref12_Channel.l0 k y0 y1 y2) (psalteryref12_Channel.l0 (k+1) y0 y1 y2))∧(∀ y0 y1 y2 y3 y4 y5,LeO (psalteryref12_Channel.l1 k y0 y1 y2 y3 y4 y5) (psalteryref12_Channel.l1 (k+1) y0 y1 y2 y3 y4 y5))
 | 0=>⟨fun _ _ _ r h=>by simp [psalteryref12_Channel.l0] at h,fun _ _ _ _ _ _ r h=>by simp [psalteryref12_Channel.l1] at h⟩
 | k+1=>by
  obtain ⟨ih0,ih1⟩:=psalteryref12_Channel.mono_l k
  refine ⟨?_, ?_⟩
  ·
   intro y0 y1 y2
   unfold psalteryref12_Channel.l0
   repeat' with_reducible first|apply ih0|apply ih1|apply psalteryref10_Width.mono|apply psalteryref12_May.mono|apply yLr|apply yLn|apply yLi|apply yLb|intro _
  ·
   intro y0 y1 y2 y3 y4 y5
   unfold psalteryref12_Channel.l1
   repeat' with_reducible first|apply ih0|apply ih1|apply psalteryref10_Width.mono|apply psalteryref12_May.mono|apply yLr|apply yLn|apply yLi|apply yLb|intro _
theorem psalteryref12_Channel.mono : ∀ a0 a1 k,LeO (psalteryref12_Channel.f k a0 a1) (psalteryref12_Channel.f (k+1) a0 a1):=by
 intro a0 a1 k
 obtain ⟨ih0,ih1⟩:=psalteryref12_Channel.mono_l k
 unfold psalteryref12_Channel.f
 repeat' with_reducible first|apply ih0|apply ih1|apply psalteryref10_Width.mono|apply psalteryref12_May.mono|apply yLr|apply yLn|apply yLi|apply yLb|intro _
set_option maxHeartbeats 8000000 in
set_option maxRecDepth 100000 in
theorem psalteryref12_Channel.calls (k : Nat) (A0 : Option Addr) (c0 : Nat) (l0 : List Int) (a1 : Int) (r : List Int) (w : World) (hr0 : Kd.C (Kd.int .i64) w A0 l0.length l0) (hc0 : l0.length≤c0) (h : psalteryref12_Channel.f k l0 a1=some r) :
  Calls Try.prog 83 #[.slice A0 l0.length c0, .int .i64 a1] w fun e w' => ∃ v0_ : Value,e=.returned (v0_)∧Kd.R (Kd.int .i64) 3 w' w.heap.size (fun _=>True) v0_ r∧Below w.heap.size w w' := by
 have HR0:=zm hr0;have HC0:=zm hc0;clear hr0 hc0;have HB:=zm (Below.refl w.heap.size w)
 have H : (psalteryref12_Channel.l0 k l0 a1 (([0,0,0,0,0] : List Int)))=some r:=h
 clear h
 obtain ⟨y715,hy715⟩ : ∃ y_ : List Int,y_=(([0,0,0,0,0] : List Int)):=⟨_,rfl⟩
 replace H : (psalteryref12_Channel.l0 k l0 a1 y715)=some r:=yrw hy715 H
 have Ny715:=zm hy715;clear hy715
 have H' := zm H
 clear H
 go_enter Try.func83,Try.ntmps83
 go_wp2_with (first|((with_reducible refine gate_dst (N:=10) rfl ?_);refine Kd.R_lit (Kd.int .i64) _ 3 ?hg (N:=10) ?hd (xs:=([0,0,0,0,0] : List Int)) (inner := [.int .i64 0, .int .i64 0, .int .i64 0, .int .i64 0, .int .i64 0]) (ok:=fun _=>True) (okp:=fun _=>True) ?hr ?hp (fun _ hk=>hk) trivial (Below.refl _ _) (Nat.le_refl _) (by simp) ?_;(case hd=>rfl);(case hg=>rfl);(case hr=>first|(go_simp;done)|(go_simp;rfl));(case hp=>exact (Reps.one (show Kd.M (Kd.int .i64) _ _ _ 0 [.int .i64 0] from rfl) (Reps.one (show Kd.M (Kd.int .i64) _ _ _ 0 [.int .i64 0] from rfl) (Reps.one (show Kd.M (Kd.int .i64) _ _ _ 0 [.int .i64 0] from rfl) (Reps.one (show Kd.M (Kd.int .i64) _ _ _ 0 [.int .i64 0] from rfl) (Reps.one (show Kd.M (Kd.int .i64) _ _ _ 0 [.int .i64 0] from rfl) (Reps.none _ _)))))));intro v716 w3 ho4 hb hg_ hnew_;clear hg_ hnew_;(first|rw [← Ny715.out] at ho4|(simp only [Int.reduceToNat] at ho4;rw [← Ny715.out] at ho4));have HO717:=zm (Kd.R_lower ho4 (zE yhb));replace HB:=ybs hb;clear hb ho4))
 repeat (go_quiet (first|((with_reducible refine gate_dst (N:=10) rfl ?_);refine Kd.R_lit (Kd.int .i64) _ 3 ?hg (N:=10) ?hd (xs:=([0,0,0,0,0] : List Int)) (inner := [.int .i64 0, .int .i64 0, .int .i64 0, .int .i64 0, .int .i64 0]) (ok:=fun _=>True) (okp:=fun _=>True) ?hr ?hp (fun _ hk=>hk) trivial (Below.refl _ _) (Nat.le_refl _) (by simp) ?_;(case hd=>rfl);(case hg=>rfl);(case hr=>first|(go_simp;done)|(go_simp;rfl));(case hp=>exact (Reps.one (show Kd.M (Kd.int .i64) _ _ _ 0 [.int .i64 0] from rfl) (Reps.one (show Kd.M (Kd.int .i64) _ _ _ 0 [.int .i64 0] from rfl) (Reps.one (show Kd.M (Kd.int .i64) _ _ _ 0 [.int .i64 0] from rfl) (Reps.one (show Kd.M (Kd.int .i64) _ _ _ 0 [.int .i64 0] from rfl) (Reps.one (show Kd.M (Kd.int .i64) _ _ _ 0 [.int .i64 0] from rfl) (Reps.none _ _)))))));intro v716 w3 ho4 hb hg_ hnew_;clear hg_ hnew_;(first|rw [← Ny715.out] at ho4|(simp only [Int.reduceToNat] at ho4;rw [← Ny715.out] at ho4));have HO717:=zm (Kd.R_lower ho4 (zE yhb));replace HB:=ybs hb;clear hb ho4));try go_wp2_with (first|((with_reducible refine gate_dst (N:=10) rfl ?_);refine Kd.R_lit (Kd.int .i64) _ 3 ?hg (N:=10) ?hd (xs:=([0,0,0,0,0] : List Int)) (inner := [.int .i64 0, .int .i64 0, .int .i64 0, .int .i64 0, .int .i64 0]) (ok:=fun _=>True) (okp:=fun _=>True) ?hr ?hp (fun _ hk=>hk) trivial (Below.refl _ _) (Nat.le_refl _) (by simp) ?_;(case hd=>rfl);(case hg=>rfl);(case hr=>first|(go_simp;done)|(go_simp;rfl));(case hp=>exact (Reps.one (show Kd.M (Kd.int .i64) _ _ _ 0 [.int .i64 0] from rfl) (Reps.one (show Kd.M (Kd.int .i64) _ _ _ 0 [.int .i64 0] from rfl) (Reps.one (show Kd.M (Kd.int .i64) _ _ _ 0 [.int .i64 0] from rfl) (Reps.one (show Kd.M (Kd.int .i64) _ _ _ 0 [.int .i64 0] from rfl) (Reps.one (show Kd.M (Kd.int .i64) _ _ _ 0 [.int .i64 0] from rfl) (Reps.none _ _)))))));intro v716 w3 ho4 hb hg_ hnew_;clear hg_ hnew_;(first|rw [← Ny715.out] at ho4|(simp only [Int.reduceToNat] at ho4;rw [← Ny715.out] at ho4));have HO717:=zm (Kd.R_lower ho4 (zE yhb));replace HB:=ybs hb;clear hb ho4)))
 go_loopg [5] k (fun kq v5 w' => ∃ (x5_1 : List Int),Aside0 (psalteryref12_Channel.l0 kq l0 a1 x5_1=some r)∧Aside0 (kq≤k)∧Aside0 (Kd.R (Kd.int .i64) 3 w' w.heap.size (fun _=>True) v5 x5_1)∧Aside0 (Below w.heap.size w w'))
 case atStart=>exact ⟨(y715),H',⟨Nat.le_refl _⟩,⟨yr HO717⟩,⟨yhb⟩⟩
 case round =>
  clear H'
  obtain ⟨x5_1,HA,HK1,HO_5,HB⟩:=hrel
  obtain ⟨k1,rfl⟩:=ysu gk (fun h=>by subst h;exact absurd HA.out (by simp [psalteryref12_Channel.l0]))
  have H:=HA.out;clear HA
  simp only [psalteryref12_Channel.l0] at H
  have H' := zm H
  clear H
  go_wp2
  repeat (go_quiet (fail);try go_wp2)
  go_loopg [6,7,8] k1 (fun kq v6 v7 v8 w' => ∃ (x6_2 : Int) (x7_2 : Int) (x8_2 : Int),v6=.int .i64 x6_2∧v7=.int .i64 x7_2∧v8=.int .i64 x8_2∧Aside0 (psalteryref12_Channel.l1 kq l0 a1 x5_1 x6_2 x7_2 x8_2=some r)∧Aside0 (kq≤k1)∧Aside0 (Kd.R (Kd.int .i64) 3 w' w.heap.size (fun _=>True) u5 x5_1)∧Aside0 (Below w.heap.size w w'))
  case atStart=>exact ⟨((-1)),(0),(0),yq,yq,yq,H',⟨Nat.le_refl _⟩,⟨yr HO_5⟩,⟨yhb⟩⟩
  case round =>
   clear H'
   obtain ⟨x6_2,x7_2,x8_2,rfl,rfl,rfl,HA,HK2,HO_5,HB⟩:=hrel
   obtain ⟨k2,rfl⟩:=ysu gk (fun h=>by subst h;exact absurd HA.out (by simp [psalteryref12_Channel.l1]))
   have H:=HA.out;clear HA
   simp only [psalteryref12_Channel.l1] at H
   by_cases c5 : x8_2 < 5
   ·
    rw [if_pos c5] at H
    have c5b0 : decide (x8_2 < 5)=true:=decide_eq_true c5
    clear c5
    obtain ⟨c6,H⟩:=yif H
    have c6b0 : decide (0≤x8_2)=true:=decide_eq_true c6
    clear c6
    obtain ⟨c7,H⟩:=yif H
    have c7b0 : decide (x8_2 < (l0.length : Int))=true:=decide_eq_true c7
    clear c7
    obtain ⟨c8,H⟩:=yif H
    have c8b0 : decide (x8_2 < (x5_1.length : Int))=true:=decide_eq_true c8
    clear c8
    obtain ⟨t723,A9,H⟩:=ybi H
    obtain ⟨c10,H⟩:=yie H
    have c10b0 : (t723 == 0)=false:=beq_eq_false_iff_ne.mpr c10
    have c10b1 : (t723 != 0)=true:=bne_iff_ne.mpr c10
    obtain ⟨t724,A11,H⟩:=ybi H
    by_cases c12 : t724=true
    ·
     subst c12
     rw [if_pos rfl] at H
     by_cases c13 : x6_2 < 0
     ·
      rw [if_pos c13] at H
      have c13b0 : decide (x6_2 < 0)=true:=decide_eq_true c13
      clear c13
      have H' := zm H
      clear H
      have p721 : 0≤(x8_2 : Int):=yt
      have q721 : x8_2 < (l0.length : Int):=yt
      obtain ⟨ad721,e721,hx721_0⟩:=Kd.at_int HR0.out x8_2 p721 q721
      cases e721
      replace hx721_0:=yhx HB hx721_0
      replace p721:=eq_true p721
      replace q721:=eq_true q721
      obtain ⟨Ao14,co14,eo14⟩:=Kd.R_slice HO_5.out
      subst eo14
      have p722 : 0≤(x8_2 : Int):=yt
      have q722 : x8_2 < (x5_1.length : Int):=yt
      obtain ⟨ad722,e722,hx722_0⟩:=Kd.at_int (Kd.R_reads' HO_5.out).2.2 x8_2 p722 q722
      cases e722
      replace p722:=eq_true p722
      replace q722:=eq_true q722
      go_wp2_with (first|(go_at_call 46;(with_reducible refine (psalteryref10_Width.calls k2 x8_2 t723 _ A9.out).mono ?_);rintro e w' ⟨rfl,⟨nd,rfl⟩⟩;(try exact yww))|(go_at_call 95;(with_reducible refine (psalteryref12_May.calls k2 _ _ l0 _ _ x5_1 x8_2 a1 true _ ?side1 HC0.out ?side3 ?side4 A11.out).mono ?_);(case side1=>exact ycb HR0);(case side3=>exact yce (Kd.R_reads' HO_5.out).2.2);(case side4=>exact (Kd.R_reads' HO_5.out).2.1);rintro e w15 ⟨rfl,hb⟩;replace HO_5:=yRb HO_5 hb;replace HB:=ybs hb;(try clear hb)))
      repeat (go_quiet (first|(go_at_call 46;(with_reducible refine (psalteryref10_Width.calls k2 x8_2 t723 _ A9.out).mono ?_);rintro e w' ⟨rfl,⟨nd,rfl⟩⟩;(try exact yww))|(go_at_call 95;(with_reducible refine (psalteryref12_May.calls k2 _ _ l0 _ _ x5_1 x8_2 a1 true _ ?side1 HC0.out ?side3 ?side4 A11.out).mono ?_);(case side1=>exact ycb HR0);(case side3=>exact yce (Kd.R_reads' HO_5.out).2.2);(case side4=>exact (Kd.R_reads' HO_5.out).2.1);rintro e w15 ⟨rfl,hb⟩;replace HO_5:=yRb HO_5 hb;replace HB:=ybs hb;(try clear hb)));try go_wp2_with (first|(go_at_call 46;(with_reducible refine (psalteryref10_Width.calls k2 x8_2 t723 _ A9.out).mono ?_);rintro e w' ⟨rfl,⟨nd,rfl⟩⟩;(try exact yww))|(go_at_call 95;(with_reducible refine (psalteryref12_May.calls k2 _ _ l0 _ _ x5_1 x8_2 a1 true _ ?side1 HC0.out ?side3 ?side4 A11.out).mono ?_);(case side1=>exact ycb HR0);(case side3=>exact yce (Kd.R_reads' HO_5.out).2.2);(case side4=>exact (Kd.R_reads' HO_5.out).2.1);rintro e w15 ⟨rfl,hb⟩;replace HO_5:=yRb HO_5 hb;replace HB:=ybs hb;(try clear hb))))
      go_roundg k2
      case measure=>exact yom2 HK1 HK2
      case rel=>exact ⟨(x8_2),(wrap64 ((wrap64 (8 * (rd l0 x8_2))) - (wrap64 (Int.tdiv (wrap64 (16 * (rd x5_1 x8_2))) t723)))),(wrap64 (x8_2+1)),yq,yq,yq,H',⟨yom2 HK1 HK2⟩,⟨yr HO_5⟩,⟨yhb⟩⟩
     ·
      rw [if_neg c13] at H
      have c13b0 : decide (x6_2 < 0)=false:=decide_eq_false c13
      clear c13
      by_cases c16 : (wrap64 ((wrap64 (8 * (rd l0 x8_2))) - (wrap64 (Int.tdiv (wrap64 (16 * (rd x5_1 x8_2))) t723)))) > x7_2
      ·
       rw [if_pos c16] at H
       have c16b0 : decide (x7_2 < (wrap64 ((wrap64 (8 * (rd l0 x8_2))) - (wrap64 (Int.tdiv (wrap64 (16 * (rd x5_1 x8_2))) t723)))))=true:=decide_eq_true c16
       clear c16
       have H' := zm H
       clear H
       have p721 : 0≤(x8_2 : Int):=yt
       have q721 : x8_2 < (l0.length : Int):=yt
       obtain ⟨ad721,e721,hx721_0⟩:=Kd.at_int HR0.out x8_2 p721 q721
       cases e721
       replace hx721_0:=yhx HB hx721_0
       replace p721:=eq_true p721
       replace q721:=eq_true q721
       obtain ⟨Ao17,co17,eo17⟩:=Kd.R_slice HO_5.out
       subst eo17
       have p722 : 0≤(x8_2 : Int):=yt
       have q722 : x8_2 < (x5_1.length : Int):=yt
       obtain ⟨ad722,e722,hx722_0⟩:=Kd.at_int (Kd.R_reads' HO_5.out).2.2 x8_2 p722 q722
       cases e722
       replace p722:=eq_true p722
       replace q722:=eq_true q722
       go_wp2_with (first|(go_at_call 46;(with_reducible refine (psalteryref10_Width.calls k2 x8_2 t723 _ A9.out).mono ?_);rintro e w' ⟨rfl,⟨nd,rfl⟩⟩;(try exact yww))|(go_at_call 95;(with_reducible refine (psalteryref12_May.calls k2 _ _ l0 _ _ x5_1 x8_2 a1 true _ ?side1 HC0.out ?side3 ?side4 A11.out).mono ?_);(case side1=>exact ycb HR0);(case side3=>exact yce (Kd.R_reads' HO_5.out).2.2);(case side4=>exact (Kd.R_reads' HO_5.out).2.1);rintro e w18 ⟨rfl,hb⟩;replace HO_5:=yRb HO_5 hb;replace HB:=ybs hb;(try clear hb)))
       repeat (go_quiet (first|(go_at_call 46;(with_reducible refine (psalteryref10_Width.calls k2 x8_2 t723 _ A9.out).mono ?_);rintro e w' ⟨rfl,⟨nd,rfl⟩⟩;(try exact yww))|(go_at_call 95;(with_reducible refine (psalteryref12_May.calls k2 _ _ l0 _ _ x5_1 x8_2 a1 true _ ?side1 HC0.out ?side3 ?side4 A11.out).mono ?_);(case side1=>exact ycb HR0);(case side3=>exact yce (Kd.R_reads' HO_5.out).2.2);(case side4=>exact (Kd.R_reads' HO_5.out).2.1);rintro e w18 ⟨rfl,hb⟩;replace HO_5:=yRb HO_5 hb;replace HB:=ybs hb;(try clear hb)));try go_wp2_with (first|(go_at_call 46;(with_reducible refine (psalteryref10_Width.calls k2 x8_2 t723 _ A9.out).mono ?_);rintro e w' ⟨rfl,⟨nd,rfl⟩⟩;(try exact yww))|(go_at_call 95;(with_reducible refine (psalteryref12_May.calls k2 _ _ l0 _ _ x5_1 x8_2 a1 true _ ?side1 HC0.out ?side3 ?side4 A11.out).mono ?_);(case side1=>exact ycb HR0);(case side3=>exact yce (Kd.R_reads' HO_5.out).2.2);(case side4=>exact (Kd.R_reads' HO_5.out).2.1);rintro e w18 ⟨rfl,hb⟩;replace HO_5:=yRb HO_5 hb;replace HB:=ybs hb;(try clear hb))))
       go_roundg k2
       case measure=>exact yom2 HK1 HK2
       case rel=>exact ⟨(x8_2),(wrap64 ((wrap64 (8 * (rd l0 x8_2))) - (wrap64 (Int.tdiv (wrap64 (16 * (rd x5_1 x8_2))) t723)))),(wrap64 (x8_2+1)),yq,yq,yq,H',⟨yom2 HK1 HK2⟩,⟨yr HO_5⟩,⟨yhb⟩⟩
      ·
       rw [if_neg c16] at H
       have c16b0 : decide (x7_2 < (wrap64 ((wrap64 (8 * (rd l0 x8_2))) - (wrap64 (Int.tdiv (wrap64 (16 * (rd x5_1 x8_2))) t723)))))=false:=decide_eq_false c16
       clear c16
       have H' := zm H
       clear H
       have p721 : 0≤(x8_2 : Int):=yt
       have q721 : x8_2 < (l0.length : Int):=yt
       obtain ⟨ad721,e721,hx721_0⟩:=Kd.at_int HR0.out x8_2 p721 q721
       cases e721
       replace hx721_0:=yhx HB hx721_0
       replace p721:=eq_true p721
       replace q721:=eq_true q721
       obtain ⟨Ao19,co19,eo19⟩:=Kd.R_slice HO_5.out
       subst eo19
       have p722 : 0≤(x8_2 : Int):=yt
       have q722 : x8_2 < (x5_1.length : Int):=yt
       obtain ⟨ad722,e722,hx722_0⟩:=Kd.at_int (Kd.R_reads' HO_5.out).2.2 x8_2 p722 q722
       cases e722
       replace p722:=eq_true p722
       replace q722:=eq_true q722
       go_wp2_with (first|(go_at_call 46;(with_reducible refine (psalteryref10_Width.calls k2 x8_2 t723 _ A9.out).mono ?_);rintro e w' ⟨rfl,⟨nd,rfl⟩⟩;(try exact yww))|(go_at_call 95;(with_reducible refine (psalteryref12_May.calls k2 _ _ l0 _ _ x5_1 x8_2 a1 true _ ?side1 HC0.out ?side3 ?side4 A11.out).mono ?_);(case side1=>exact ycb HR0);(case side3=>exact yce (Kd.R_reads' HO_5.out).2.2);(case side4=>exact (Kd.R_reads' HO_5.out).2.1);rintro e w20 ⟨rfl,hb⟩;replace HO_5:=yRb HO_5 hb;replace HB:=ybs hb;(try clear hb)))
       repeat (go_quiet (first|(go_at_call 46;(with_reducible refine (psalteryref10_Width.calls k2 x8_2 t723 _ A9.out).mono ?_);rintro e w' ⟨rfl,⟨nd,rfl⟩⟩;(try exact yww))|(go_at_call 95;(with_reducible refine (psalteryref12_May.calls k2 _ _ l0 _ _ x5_1 x8_2 a1 true _ ?side1 HC0.out ?side3 ?side4 A11.out).mono ?_);(case side1=>exact ycb HR0);(case side3=>exact yce (Kd.R_reads' HO_5.out).2.2);(case side4=>exact (Kd.R_reads' HO_5.out).2.1);rintro e w20 ⟨rfl,hb⟩;replace HO_5:=yRb HO_5 hb;replace HB:=ybs hb;(try clear hb)));try go_wp2_with (first|(go_at_call 46;(with_reducible refine (psalteryref10_Width.calls k2 x8_2 t723 _ A9.out).mono ?_);rintro e w' ⟨rfl,⟨nd,rfl⟩⟩;(try exact yww))|(go_at_call 95;(with_reducible refine (psalteryref12_May.calls k2 _ _ l0 _ _ x5_1 x8_2 a1 true _ ?side1 HC0.out ?side3 ?side4 A11.out).mono ?_);(case side1=>exact ycb HR0);(case side3=>exact yce (Kd.R_reads' HO_5.out).2.2);(case side4=>exact (Kd.R_reads' HO_5.out).2.1);rintro e w20 ⟨rfl,hb⟩;replace HO_5:=yRb HO_5 hb;replace HB:=ybs hb;(try clear hb))))
       go_roundg k2
       case measure=>exact yom2 HK1 HK2
       case rel=>exact ⟨(x6_2),(x7_2),(wrap64 (x8_2+1)),yq,yq,yq,H',⟨yom2 HK1 HK2⟩,⟨yr HO_5⟩,⟨yhb⟩⟩
    ·
     replace c12:=Bool.eq_false_iff.mpr c12
     subst c12
     rw [ynf] at H
     have H' := zm H
     clear H
     have p721 : 0≤(x8_2 : Int):=yt
     have q721 : x8_2 < (l0.length : Int):=yt
     obtain ⟨ad721,e721,hx721_0⟩:=Kd.at_int HR0.out x8_2 p721 q721
     cases e721
     replace hx721_0:=yhx HB hx721_0
     replace p721:=eq_true p721
     replace q721:=eq_true q721
     obtain ⟨Ao21,co21,eo21⟩:=Kd.R_slice HO_5.out
     subst eo21
     have p722 : 0≤(x8_2 : Int):=yt
     have q722 : x8_2 < (x5_1.length : Int):=yt
     obtain ⟨ad722,e722,hx722_0⟩:=Kd.at_int (Kd.R_reads' HO_5.out).2.2 x8_2 p722 q722
     cases e722
     replace p722:=eq_true p722
     replace q722:=eq_true q722
     go_wp2_with (first|(go_at_call 46;(with_reducible refine (psalteryref10_Width.calls k2 x8_2 t723 _ A9.out).mono ?_);rintro e w' ⟨rfl,⟨nd,rfl⟩⟩;(try exact yww))|(go_at_call 95;(with_reducible refine (psalteryref12_May.calls k2 _ _ l0 _ _ x5_1 x8_2 a1 false _ ?side1 HC0.out ?side3 ?side4 A11.out).mono ?_);(case side1=>exact ycb HR0);(case side3=>exact yce (Kd.R_reads' HO_5.out).2.2);(case side4=>exact (Kd.R_reads' HO_5.out).2.1);rintro e w22 ⟨rfl,hb⟩;replace HO_5:=yRb HO_5 hb;replace HB:=ybs hb;(try clear hb)))
     repeat (go_quiet (first|(go_at_call 46;(with_reducible refine (psalteryref10_Width.calls k2 x8_2 t723 _ A9.out).mono ?_);rintro e w' ⟨rfl,⟨nd,rfl⟩⟩;(try exact yww))|(go_at_call 95;(with_reducible refine (psalteryref12_May.calls k2 _ _ l0 _ _ x5_1 x8_2 a1 false _ ?side1 HC0.out ?side3 ?side4 A11.out).mono ?_);(case side1=>exact ycb HR0);(case side3=>exact yce (Kd.R_reads' HO_5.out).2.2);(case side4=>exact (Kd.R_reads' HO_5.out).2.1);rintro e w22 ⟨rfl,hb⟩;replace HO_5:=yRb HO_5 hb;replace HB:=ybs hb;(try clear hb)));try go_wp2_with (first|(go_at_call 46;(with_reducible refine (psalteryref10_Width.calls k2 x8_2 t723 _ A9.out).mono ?_);rintro e w' ⟨rfl,⟨nd,rfl⟩⟩;(try exact yww))|(go_at_call 95;(with_reducible refine (psalteryref12_May.calls k2 _ _ l0 _ _ x5_1 x8_2 a1 false _ ?side1 HC0.out ?side3 ?side4 A11.out).mono ?_);(case side1=>exact ycb HR0);(case side3=>exact yce (Kd.R_reads' HO_5.out).2.2);(case side4=>exact (Kd.R_reads' HO_5.out).2.1);rintro e w22 ⟨rfl,hb⟩;replace HO_5:=yRb HO_5 hb;replace HB:=ybs hb;(try clear hb))))
     go_roundg k2
     case measure=>exact yom2 HK1 HK2
     case rel=>exact ⟨(x6_2),(x7_2),(wrap64 (x8_2+1)),yq,yq,yq,H',⟨yom2 HK1 HK2⟩,⟨yr HO_5⟩,⟨yhb⟩⟩
   ·
    rw [if_neg c5] at H
    have c5b0 : decide (x8_2 < 5)=false:=decide_eq_false c5
    clear c5
    by_cases c23 : x6_2 < 0
    ·
     rw [if_pos c23] at H
     have c23b0 : decide (x6_2 < 0)=true:=decide_eq_true c23
     clear c23
     obtain rfl:=Option.some.inj H
     go_wp2
     repeat (go_quiet (fail);try go_wp2)
     go_ret
     exact ⟨_,ye,yr HO_5,yhb⟩
    ·
     rw [if_neg c23] at H
     have c23b0 : decide (x6_2 < 0)=false:=decide_eq_false c23
     clear c23
     obtain ⟨t718,A24,H⟩:=ybi H
     have H' := zm H
     clear H
     obtain ⟨Ao25,co25,eo25⟩:=Kd.R_slice HO_5.out
     subst eo25
     go_wp2_with (first|(go_at_call 96;(with_reducible refine (psalteryref12_More.calls _ _ x5_1 x6_2 t718 _ ?side1 ?side2 A24.out).mono ?_);(case side1=>exact yce (Kd.R_reads' HO_5.out).2.2);(case side2=>exact (Kd.R_reads' HO_5.out).2.1);rintro e w26 ⟨v719,rfl,ho0,hb⟩;have HO720:=zm (Kd.R_lower (Kd.R_new' ho0 (Kd.R_lt (yr HO_5))) (zE yhb));replace HO_5:=zm (Kd.R_elder' (yr HO_5) (Kd.R_base ho0) hb);replace HB:=ybs hb;(try clear hb);(try clear ho0)))
     repeat (go_quiet (first|(go_at_call 96;(with_reducible refine (psalteryref12_More.calls _ _ x5_1 x6_2 t718 _ ?side1 ?side2 A24.out).mono ?_);(case side1=>exact yce (Kd.R_reads' HO_5.out).2.2);(case side2=>exact (Kd.R_reads' HO_5.out).2.1);rintro e w26 ⟨v719,rfl,ho0,hb⟩;have HO720:=zm (Kd.R_lower (Kd.R_new' ho0 (Kd.R_lt (yr HO_5))) (zE yhb));replace HO_5:=zm (Kd.R_elder' (yr HO_5) (Kd.R_base ho0) hb);replace HB:=ybs hb;(try clear hb);(try clear ho0)));try go_wp2_with (first|(go_at_call 96;(with_reducible refine (psalteryref12_More.calls _ _ x5_1 x6_2 t718 _ ?side1 ?side2 A24.out).mono ?_);(case side1=>exact yce (Kd.R_reads' HO_5.out).2.2);(case side2=>exact (Kd.R_reads' HO_5.out).2.1);rintro e w26 ⟨v719,rfl,ho0,hb⟩;have HO720:=zm (Kd.R_lower (Kd.R_new' ho0 (Kd.R_lt (yr HO_5))) (zE yhb));replace HO_5:=zm (Kd.R_elder' (yr HO_5) (Kd.R_base ho0) hb);replace HB:=ybs hb;(try clear hb);(try clear ho0))))
     go_roundg k2
     case measure=>exact yom2 HK1 HK2
     case rel=>exact ⟨(t718),H',⟨yom2 HK1 HK2⟩,⟨yR0 HO720⟩,⟨yhb⟩⟩
def psalteryref12_Right.f (a0 : Int) (a1 : Int) : Option (Bool):=if a0≤60 then (if a1=1 then (if a0 ≥ 11 then (some true) else (if a1=2 then (some (decide (a0 ≥ 17))) else (some false))) else (if a1=2 then (some (decide (a0 ≥ 17))) else (some false))) else (some false)
set_option maxHeartbeats 8000000 in
set_option maxRecDepth 100000 in
theorem psalteryref12_Right.calls (a0 : Int) (a1 : Int) (r : Bool) (w : World) (h : psalteryref12_Right.f a0 a1=some r) :
  Calls Try.prog 23 #[.int .i64 a0, .int .i64 a1] w fun e w' => e=.returned (.bool r)∧Drawn0 w w' := by
 have H : (if a0≤60 then (if a1=1 then (if a0 ≥ 11 then (some true) else (if a1=2 then (some (decide (a0 ≥ 17))) else (some false))) else (if a1=2 then (some (decide (a0 ≥ 17))) else (some false))) else (some false))=some r:=h
 clear h
 by_cases c3 : a0≤60
 ·
  rw [if_pos c3] at H
  have c3b0 : decide (a0≤60)=true:=decide_eq_true c3
  clear c3
  by_cases c4 : a1=1
  ·
   rw [if_pos c4] at H
   have c4b0 : (a1 == 1)=true:=beq_iff_eq.mpr c4
   have c4b1 : (a1 != 1)=false:=bne_eq_false_iff_eq.mpr c4
   clear c4
   by_cases c5 : a0 ≥ 11
   ·
    rw [if_pos c5] at H
    have c5b0 : decide (11≤a0)=true:=decide_eq_true c5
    clear c5
    obtain rfl:=Option.some.inj H
    go_enter Try.func23,Try.ntmps23
    go_wp2
    go_ret
    exact ⟨yq,yd⟩
   ·
    rw [if_neg c5] at H
    have c5b0 : decide (11≤a0)=false:=decide_eq_false c5
    clear c5
    by_cases c6 : a1=2
    ·
     rw [if_pos c6] at H
     have c6b0 : (a1 == 2)=true:=beq_iff_eq.mpr c6
     have c6b1 : (a1 != 2)=false:=bne_eq_false_iff_eq.mpr c6
     clear c6
     obtain rfl:=Option.some.inj H
     go_enter Try.func23,Try.ntmps23
     go_wp2
     go_ret
     exact ⟨yq,yd⟩
    ·
     rw [if_neg c6] at H
     have c6b0 : (a1 == 2)=false:=beq_eq_false_iff_ne.mpr c6
     have c6b1 : (a1 != 2)=true:=bne_iff_ne.mpr c6
     obtain rfl:=Option.some.inj H
     go_enter Try.func23,Try.ntmps23
     go_wp2
     go_ret
     exact ⟨yq,yd⟩
  ·
   rw [if_neg c4] at H
   have c4b0 : (a1 == 1)=false:=beq_eq_false_iff_ne.mpr c4
   have c4b1 : (a1 != 1)=true:=bne_iff_ne.mpr c4
   by_cases c7 : a1=2
   ·
    rw [if_pos c7] at H
    have c7b0 : (a1 == 2)=true:=beq_iff_eq.mpr c7
    have c7b1 : (a1 != 2)=false:=bne_eq_false_iff_eq.mpr c7
    clear c7
    obtain rfl:=Option.some.inj H
    go_enter Try.func23,Try.ntmps23
    go_wp2
    go_ret
    exact ⟨yq,yd⟩
   ·
    rw [if_neg c7] at H
    have c7b0 : (a1 == 2)=false:=beq_eq_false_iff_ne.mpr c7
    have c7b1 : (a1 != 2)=true:=bne_iff_ne.mpr c7
    obtain rfl:=Option.some.inj H
    go_enter Try.func23,Try.ntmps23
    go_wp2
    go_ret
    exact ⟨yq,yd⟩
 ·
  rw [if_neg c3] at H
  have c3b0 : decide (a0≤60)=false:=decide_eq_false c3
  clear c3
  obtain rfl:=Option.some.inj H
  go_enter Try.func23,Try.ntmps23
  go_wp2
  go_ret
  exact ⟨yq,yd⟩
def psalteryref12_Room.f (a0 : Int) (a1 : Int) : Option (Int):=(psalteryref12_Right.f a0 a1).bind fun t725=>(if t725=true then (if a1=1 then (some (wrap64 ((wrap64 (8 * a0)) - 86))) else (some (wrap64 (Int.tdiv (wrap64 ((wrap64 (8 * a0)) - 131)) 2)))) else (some 0))
set_option maxHeartbeats 8000000 in
set_option maxRecDepth 100000 in
theorem psalteryref12_Room.calls (a0 : Int) (a1 : Int) (r : Int) (w : World) (h : psalteryref12_Room.f a0 a1=some r) :
  Calls Try.prog 84 #[.int .i64 a0, .int .i64 a1] w fun e w' => e=.returned (.int .i64 r)∧Drawn0 w w' := by
 have H : ((psalteryref12_Right.f a0 a1).bind fun t725=>(if t725=true then (if a1=1 then (some (wrap64 ((wrap64 (8 * a0)) - 86))) else (some (wrap64 (Int.tdiv (wrap64 ((wrap64 (8 * a0)) - 131)) 2)))) else (some 0)))=some r:=h
 clear h
 obtain ⟨t725,A3,H⟩:=ybi H
 by_cases c4 : t725=true
 ·
  subst c4
  rw [if_pos rfl] at H
  by_cases c5 : a1=1
  ·
   rw [if_pos c5] at H
   have c5b0 : (a1 == 1)=true:=beq_iff_eq.mpr c5
   have c5b1 : (a1 != 1)=false:=bne_eq_false_iff_eq.mpr c5
   clear c5
   obtain rfl:=Option.some.inj H
   go_enter Try.func84,Try.ntmps84
   go_wp2_with (first|((with_reducible refine gate_callee (f:=23) rfl ?_);refine ygl 7 Try.func23 #[.int .i64 a0, .int .i64 a1] ?_;(with_reducible refine (psalteryref12_Right.calls a0 a1 true _ A3.out).mono ?_);rintro e w' ⟨rfl,⟨nd,rfl⟩⟩;refine ⟨_,rfl, ?_⟩))
   go_ret
   exact ⟨yq,yd⟩
  ·
   rw [if_neg c5] at H
   have c5b0 : (a1 == 1)=false:=beq_eq_false_iff_ne.mpr c5
   have c5b1 : (a1 != 1)=true:=bne_iff_ne.mpr c5
   obtain rfl:=Option.some.inj H
   go_enter Try.func84,Try.ntmps84
   go_wp2_with (first|((with_reducible refine gate_callee (f:=23) rfl ?_);refine ygl 7 Try.func23 #[.int .i64 a0, .int .i64 a1] ?_;(with_reducible refine (psalteryref12_Right.calls a0 a1 true _ A3.out).mono ?_);rintro e w' ⟨rfl,⟨nd,rfl⟩⟩;refine ⟨_,rfl, ?_⟩))
   go_ret
   exact ⟨yq,yd⟩
 ·
  replace c4:=Bool.eq_false_iff.mpr c4
  subst c4
  rw [ynf] at H
  obtain rfl:=Option.some.inj H
  go_enter Try.func84,Try.ntmps84
  go_wp2_with (first|((with_reducible refine gate_callee (f:=23) rfl ?_);refine ygl 7 Try.func23 #[.int .i64 a0, .int .i64 a1] ?_;(with_reducible refine (psalteryref12_Right.calls a0 a1 false _ A3.out).mono ?_);rintro e w' ⟨rfl,⟨nd,rfl⟩⟩;refine ⟨_,rfl, ?_⟩))
  go_ret
  exact ⟨yq,yd⟩
def psalteryref12_Pulses.l0 : Nat→Int→Int→List (List Int)→List (List Int)→Int→Option ((List (List Int)))
 | 0,_,_,_,_,_=>none
 | k+1,x0,x1,x2,x7,x8=>if x8 < (x2.length : Int) then (if 0≤x8 then ((psalteryref12_Room.f x0 x1).bind fun t727=>((psalteryref12_Channel.f k (rd_L1 x2 x8) t727).bind fun t728=>(if x7.length < 5864062014805 then (psalteryref12_Pulses.l0 k x0 x1 x2 (x7 ++ [t728]) (wrap64 (x8+1))) else (none)))) else (none)) else (some x7)
def psalteryref12_Pulses.f (k : Nat) (a0 : Int) (a1 : Int) (l2 : List (List Int)) : Option ((List (List Int))):=psalteryref12_Pulses.l0 k a0 a1 l2 ([] : List (List Int)) 0
theorem psalteryref12_Pulses.mono_l : ∀ k,(∀ y0 y1 y2 y3 y4,LeO (psalteryref12_Pulses.l0 k y0 y1 y2 y3 y4) (psalteryref12_Pulses.l0 (k+1) y0 y1 y2 y3 y4))
 | 0=>fun _ _ _ _ _ r h=>by simp [psalteryref12_Pulses.l0] at h
 | k+1=>by
  have ih0:=psalteryref12_Pulses.mono_l k
  ·
   intro y0 y1 y2 y3 y4
   unfold psalteryref12_Pulses.l0
   repeat' with_reducible first|apply ih0|apply psalteryref12_Channel.mono|apply yLr|apply yLn|apply yLi|apply yLb|intro _
theorem psalteryref12_Pulses.mono : ∀ a0 a1 a2 k,LeO (psalteryref12_Pulses.f k a0 a1 a2) (psalteryref12_Pulses.f (k+1) a0 a1 a2):=by
 intro a0 a1 a2 k
 have ih0:=psalteryref12_Pulses.mono_l k
 unfold psalteryref12_Pulses.f
 repeat' with_reducible first|apply ih0|apply psalteryref12_Channel.mono|apply yLr|apply yLn|apply yLi|apply yLb|intro _
def psalteryref12_Pulses.T5 : Bool × List (List Nat × List Nat):=(true, [([], []),([], []),([], []),([1,2], [1,2]),([3], [3]),([], []),([], []),([5,6], [5,6]),([4,7,7], [4,7]),([8], [8]),([0,9,8], [0,9]),([10,10,0,1,2,3,4,5,6,7,8,9,10], [0,10])])
def psalteryref12_Pulses.B5 : List Nat := [0,0,0,6,14,0,0,96,254,510,1023,2047]
theorem psalteryref12_Pulses.tab5 : rtab .any (opsOf Try.f45 5)=psalteryref12_Pulses.T5:=by kernel_rfl
theorem psalteryref12_Pulses.bits5 : waitsOk psalteryref12_Pulses.T5.2 psalteryref12_Pulses.B5=true:=by kernel_rfl
set_option maxHeartbeats 8000000 in
set_option maxRecDepth 100000 in
theorem psalteryref12_Pulses.calls (k : Nat) (a0 : Int) (a1 : Int) (A2 : Option Addr) (c2 : Nat) (l2 : List (List Int)) (r : List (List Int)) (w : World) (hr2 : Kd.C (Kd.slice 3 (Kd.int .i64)) w A2 l2.length l2) (hc2 : l2.length≤c2) (h : psalteryref12_Pulses.f k a0 a1 l2=some r) :
  Calls Try.prog 45 #[.int .i64 a0, .int .i64 a1, .slice A2 l2.length c2] w fun e w' => ∃ v0_ : Value,e=.returned (v0_)∧Kd.S (Kd.slice 3 (Kd.int .i64)) 49 w' w.heap.size (fun _=>True) v0_ r∧Below w.heap.size w w' := by
 have HR2:=zm hr2;have HC2:=zm hc2;clear hr2 hc2;have HB:=zm (Below.refl w.heap.size w)
 have H : (psalteryref12_Pulses.l0 k a0 a1 l2 ([] : List (List Int)) 0)=some r:=h
 clear h
 have H' := zm H
 clear H
 go_enter Try.func45,Try.ntmps45
 go_wp2
 go_loopg [7,8] k (fun kq v7 v8 w' => ∃ (x7_1 : List (List Int)) (x8_1 : Int),v8=.int .i64 x8_1∧Aside0 (psalteryref12_Pulses.l0 kq a0 a1 l2 x7_1 x8_1=some r)∧Aside0 (kq≤k)∧Aside0 (Kd.S (Kd.slice 3 (Kd.int .i64)) 49 w' w.heap.size (fun _=>True) v7 x7_1)∧Aside0 (Below w.heap.size w w'))
 case atStart=>exact ⟨(([] : List (List Int))),(0),yq,H',⟨Nat.le_refl _⟩,⟨yn⟩,⟨yhb⟩⟩
 case round =>
  clear H'
  try clear c2
  obtain ⟨x7_1,x8_1,rfl,HA,HK1,HO_7,HB⟩:=hrel
  obtain ⟨k1,rfl⟩:=ysu gk (fun h=>by subst h;exact absurd HA.out (by simp [psalteryref12_Pulses.l0]))
  have H:=HA.out;clear HA
  simp only [psalteryref12_Pulses.l0] at H
  by_cases c4 : x8_1 < (l2.length : Int)
  ·
   rw [if_pos c4] at H
   have c4b0 : decide (x8_1 < (l2.length : Int))=true:=decide_eq_true c4
   clear c4
   obtain ⟨c5,H⟩:=yif H
   have c5b0 : decide (0≤x8_1)=true:=decide_eq_true c5
   clear c5
   obtain ⟨t727,A6,H⟩:=ybi H
   obtain ⟨t728,A7,H⟩:=ybi H
   obtain ⟨c8,H⟩:=yif H
   have LMc8:=zm c8;clear c8
   obtain ⟨y731,hy731⟩ : ∃ y_ : List (List Int),y_=(x7_1 ++ [t728]):=⟨_,rfl⟩
   replace H : (psalteryref12_Pulses.l0 k1 a0 a1 l2 y731 (wrap64 (x8_1+1)))=some r:=yrw hy731 H
   have Ny731:=zm hy731;clear hy731
   have H' := zm H
   clear H
   try go_wp2
   replace HO_7:=zm (Kd.S_drew HO_7.out)
   replace HB:=zm (zf HB.out)
   have p726 : 0≤(x8_1 : Int):=yt
   have q726 : x8_1 < (l2.length : Int):=yt
   obtain ⟨ad726,A726_0,c726_0,e726,hx726_0,hl726_0,hi726_0⟩:=at_L1 HR2.out x8_1 p726 q726
   have hw726_0:=hx726_0
   cases e726
   replace hx726_0:=yhx HB hx726_0
   have HR726_0:=zm hi726_0;have HC726_0:=zm hl726_0;clear hi726_0 hl726_0
   replace p726:=eq_true p726
   replace q726:=eq_true q726
   refine start_ (n:=12) (S:=fun w' => w'.cell? (ad726.add (x8_1).toNat)=some (.slice A726_0 (rd_L1 l2 x8_1).length c726_0)) (ds := []) #[false,false,false,false,false,false,false,false,false,false,false,false] (by kernel_rfl) rfl rfl ((yhx HB hw726_0 :)) (fun hHeld => ?_);refine with_tabW psalteryref12_Pulses.tab5 psalteryref12_Pulses.bits5 (fun HT_ HW_ => ?_)
   generalize wr.drew=w9 at HO_7 HB HR726_0 hx726_0 hHeld ⊢
   refine yp 0 15 HT_ ?_
   refine yp 1 16 HT_ ?_
   refine yp 2 17 HT_ ?_
   refine yp 3 18 HT_ ?_
   refine yp 5 20 HT_ ?_
   refine yp 6 21 HT_ ?_
   refine yl 4 19 HT_ HW_ hHeld ?_
   refine yw 7 22 HT_ (fun K hK => ?_)
   refine ygs Try.func84 #[.int .i64 a0, .int .i64 a1] ?_
   with_reducible refine (psalteryref12_Room.calls a0 a1 t727 _ A6.out).mono ?_
   rintro e w' ⟨rfl,⟨nd,rfl⟩⟩
   refine ⟨_,rfl, ?_⟩
   refine hK.out _ _ ((yhx HB hw726_0 :)) (fun hHeld => ?_)
   clear hK K
   refine ym (some 22) ?_
   refine yw 8 23 HT_ (fun K hK => ?_)
   refine ygs Try.func83 #[.slice A726_0 (rd_L1 l2 x8_1).length c726_0, .int .i64 t727] ?_
   with_reducible refine (psalteryref12_Channel.calls k1 _ _ (rd_L1 l2 x8_1) t727 t728 _ ?side1 ?side2 A7.out).mono ?_
   (case side1=>exact ycb HR726_0)
   (case side2=>exact HC726_0.out)
   rintro e w10 ⟨v729,rfl,ho0,hb⟩
   refine ⟨_,rfl, ?_⟩
   replace HO_7:=zm (Kd.S_elder' (yr HO_7) (Kd.R_base ho0) hb)
   have HO730:=zm (Kd.R_lower ho0 (zE yhb))
   replace HB:=ybs hb
   (try clear hb)
   (try clear ho0)
   obtain ⟨Ao12,co12,eo12⟩:=Kd.R_slice HO730.out
   (first|subst eo12|(injection eo12 with f1_ f2_ f3_;have f4_:=f1_.symm;have f5_:=f3_.symm;clear f1_ f2_ f3_;subst f4_;subst f5_))
   refine hK.out _ _ ((yhx HB hw726_0 :)) (fun hHeld => ?_)
   clear hK K
   refine ym (some 23) ?_
   refine yw 9 24 HT_ (fun K hK => ?_)
   refine value_ (w1 := ?_) (v := ?_) (by rfl) rfl ?_ ?_
   rotate_left 2
   ·
    go_simp
    constructor
    ·
     rfl
    ·
     rfl
   refine hK.out _ _ ((World.cell?_alloc_lt _ _ _ (zb _ _ ((yhx HB hw726_0 :)))).trans ((yhx HB hw726_0 :))) (fun hHeld => ?_)
   clear hK K
   refine ym (some 24) ?_
   refine yw 10 25 HT_ (fun K hK => ?_)
   refine Kd.S_append_step (Kd.slice 3 (Kd.int .i64)) (w0:=w) w.heap.size (by rfl) (.tmp 15) (.tmp 24) 22 49 (.slice none 0 0) 24 rfl Try.underlying22 info49 rfl (by decide) (by omega) u7 x7_1 t728 [.slice Ao12 t728.length co12] (fun _=>True) (fun k_=>some k_=(.slice Ao12 t728.length co12 : Value).ownBlock) rfl rfl ?aP (fun k_ hk_=>((zG (ok' := fun k_=>((fun _=>True)) k_∧some k_≠(u7 : Value).ownBlock) (Kd.R_apart' (HO730.out) (Kd.S_typed HO_7.out) (by decide)) (fun k_ hk=>⟨trivial,hk.2⟩))).1 k_ hk_.symm) ?aF ?aO ?aB ?aS ?aL ?_
   (case aP=>exact Kd.M_row (zG (Kd.R_tight rfl (zG (ok' := fun k_=>((fun _=>True)) k_∧some k_≠(u7 : Value).ownBlock) (Kd.R_apart' (HO730.out) (Kd.S_typed HO_7.out) (by decide)) (fun k_ hk=>⟨trivial,hk.2⟩))) (fun _ h_=>h_)))
   (case aB=>exact yhb)
   (case aF=>exact (fun _ _=>trivial))
   (case aO=>exact (yS0 HO_7))
   (case aS=>exact (zE yhb))
   (case aL=>have:=LMc8.out;omega)
   intro v732 w11 ho hb hg hat
   rw [← Ny731.out] at ho
   replace HB:=zm (hb)
   have HO733:=zm (ho);clear HO_7;clear HO730;clear ho hb hg hat
   refine hK.out _ _ ((yhx HB hw726_0 :)) (fun hHeld => ?_)
   clear hK K
   refine ym (some 25) ?_
   refine yp 11 7 HT_ ?_
   refine done_ (done_of HT_.out (by kernel_rfl)) ?_
   try go_wp2
   go_roundg k1
   case measure=>exact yom1 HK1
   case rel=>exact ⟨(y731),(wrap64 (x8_1+1)),yq,H',⟨yom1 HK1⟩,⟨yr HO733⟩,⟨yhb⟩⟩
  ·
   rw [if_neg c4] at H
   have c4b0 : decide (x8_1 < (l2.length : Int))=false:=decide_eq_false c4
   clear c4
   obtain rfl:=Option.some.inj H
   go_wp2
   go_ret
   exact ⟨_,ye,yr HO_7,yhb⟩
mutual
def psalteryref13_Right.j0 : Nat→Int→Int→Bool→Bool→List (List Int)→List (List (List Int))→Option (Bool)
 | 0,_,_,_,_,_,_=>none
 | k+1,x0,x1,x27,x735000,x735001,x735002=>if x27=true then (some false) else ((psalteryref12_Pulses.f k x0 x1 x735001).bind fun t737=>(psalteryref13_Right.l0 k x1 t737 0 x735000 x735001 x735002))
def psalteryref13_Right.l0 : Nat→Int→List (List Int)→Int→Bool→List (List Int)→List (List (List Int))→Option (Bool)
 | 0,_,_,_,_,_,_=>none
 | k+1,x1,x7,x8,x735000,x735001,x735002=>if x8 < x1 then (if 0≤x8 then (if x8 < (x735002.length : Int) then (if ((rd_L2 x735002 x8).length : Int)=5 then (psalteryref13_Right.l1 k x1 x7 x8 0 x735000 x735001 x735002) else (some false)) else (none)) else (none)) else (some true)
def psalteryref13_Right.l1 : Nat→Int→List (List Int)→Int→Int→Bool→List (List Int)→List (List (List Int))→Option (Bool)
 | 0,_,_,_,_,_,_,_=>none
 | k+1,x1,x7,x8,x9,x735000,x735001,x735002=>if x9 < 5 then (if 0≤x8 then (if x8 < (x735002.length : Int) then (if 0≤x9 then (if x9 < ((rd_L2 x735002 x8).length : Int) then ((psalteryref10_Width.f k x9).bind fun t743=>(if ((rd_L1 (rd_L2 x735002 x8) x9).length : Int)=t743 then ((psalteryref06_Pulses.f k (rd_L1 (rd_L2 x735002 x8) x9)).bind fun t746=>(if x8 < (x7.length : Int) then (if x9 < ((rd_L1 x7 x8).length : Int) then (if t746=(rd (rd_L1 x7 x8) x9) then (psalteryref13_Right.l1 k x1 x7 x8 (wrap64 (x9+1)) x735000 x735001 x735002) else (some false)) else (none)) else (none))) else (some false))) else (none)) else (none)) else (none)) else (none)) else (psalteryref13_Right.l0 k x1 x7 (wrap64 (x8+1)) x735000 x735001 x735002)
end
def psalteryref13_Right.f (k : Nat) (a0 : Int) (a1 : Int) (a2_0 : Bool) (l2_1 : List (List Int)) (l2_2 : List (List (List Int))) : Option (Bool):=(psalteryref12_Right.f a0 a1).bind fun t735=>(if t735=true then ((psalteryref12_Fair.f k a1 l2_1).bind fun t736=>(if t736=true then (psalteryref13_Right.j0 k a0 a1 ((l2_2.length : Int) != a1) a2_0 l2_1 l2_2) else (psalteryref13_Right.j0 k a0 a1 true a2_0 l2_1 l2_2))) else (psalteryref13_Right.j0 k a0 a1 true a2_0 l2_1 l2_2))
theorem psalteryref13_Right.mono_l : ∀ k,(∀ y0 y1 y2 y3 y4 y5,LeO (psalteryref13_Right.j0 k y0 y1 y2 y3 y4 y5) (psalteryref13_Right.j0 (k+1) y0 y1 y2 y3 y4 y5))∧(∀ y0 y1 y2 y3 y4 y5,LeO (psalteryref13_Right.l0 k y0 y1 y2 y3 y4 y5) (psalteryref13_Right.l0 (k+1) y0 y1 y2 y3 y4 y5))∧(∀ y0 y1 y2 y3 y4 y5 y6,LeO (psalteryref13_Right.l1 k y0 y1 y2 y3 y4 y5 y6) (psalteryref13_Right.l1 (k+1) y0 y1 y2 y3 y4 y5 y6))
 | 0=>⟨fun _ _ _ _ _ _ r h=>by simp [psalteryref13_Right.j0] at h,fun _ _ _ _ _ _ r h=>by simp [psalteryref13_Right.l0] at h,fun _ _ _ _ _ _ _ r h=>by simp [psalteryref13_Right.l1] at h⟩
 | k+1=>by
  obtain ⟨ih0,ih1,ih2⟩:=psalteryref13_Right.mono_l k
  refine ⟨?_, ?_, ?_⟩
  ·
   intro y0 y1 y2 y3 y4 y5
   unfold psalteryref13_Right.j0
   repeat' with_reducible first|apply ih0|apply ih1|apply ih2|apply psalteryref06_Pulses.mono|apply psalteryref10_Width.mono|apply psalteryref12_Fair.mono|apply psalteryref12_Pulses.mono|apply yLr|apply yLn|apply yLi|apply yLb|intro _
  ·
   intro y0 y1 y2 y3 y4 y5
   unfold psalteryref13_Right.l0
   repeat' with_reducible first|apply ih0|apply ih1|apply ih2|apply psalteryref06_Pulses.mono|apply psalteryref10_Width.mono|apply psalteryref12_Fair.mono|apply psalteryref12_Pulses.mono|apply yLr|apply yLn|apply yLi|apply yLb|intro _
  ·
   intro y0 y1 y2 y3 y4 y5 y6
   unfold psalteryref13_Right.l1
   repeat' with_reducible first|apply ih0|apply ih1|apply ih2|apply psalteryref06_Pulses.mono|apply psalteryref10_Width.mono|apply psalteryref12_Fair.mono|apply psalteryref12_Pulses.mono|apply yLr|apply yLn|apply yLi|apply yLb|intro _
theorem psalteryref13_Right.mono : ∀ a0 a1 a2 a3 a4 k,LeO (psalteryref13_Right.f k a0 a1 a2 a3 a4) (psalteryref13_Right.f (k+1) a0 a1 a2 a3 a4):=by
 intro a0 a1 a2 a3 a4 k
 obtain ⟨ih0,ih1,ih2⟩:=psalteryref13_Right.mono_l k
 unfold psalteryref13_Right.f
 repeat' with_reducible first|apply ih0|apply ih1|apply ih2|apply psalteryref06_Pulses.mono|apply psalteryref10_Width.mono|apply psalteryref12_Fair.mono|apply psalteryref12_Pulses.mono|apply yLr|apply yLn|apply yLi|apply yLb|intro _
def psalteryref13_Right.T12 : Bool × List (List Nat × List Nat):=(true, [([], []),([0], [0]),([], []),([1,2], [1,2]),([3], [3]),([], []),([4,5], [4,5]),([6], [6]),([7], [7]),([], []),([9], [9]),([8,10], [8,10]),([11,10], [11]),([12], [12]),([13,12], [12,13]),([12], [12]),([14,15,12], [12,14,15]),([16,12], [12,16]),([12], [12]),([17,18,12], [12,17,18]),([19,12], [12,19]),([20,12,12], [12,20]),([12], [12]),([12], [12]),([22,23,12], [12,22,23]),([24,12], [12,24]),([12], [12]),([25,26,12], [12,25,26]),([27,12], [12,27]),([21,28,12], [12,21,28]),([12,29], [12,29])])
def psalteryref13_Right.B12 : List Nat := [0,1,0,7,15,0,63,127,255,0,512,2047,4095,8191,16383,8191,65535,131071,8191,524287,1048575,2097151,8191,8191,12591103,29368319,8191,130031615,264249343,536870911,1073741823]
theorem psalteryref13_Right.tab12 : rtab .any (opsOf Try.f16 12)=psalteryref13_Right.T12:=by kernel_rfl
theorem psalteryref13_Right.bits12 : waitsOk psalteryref13_Right.T12.2 psalteryref13_Right.B12=true:=by kernel_rfl
set_option maxHeartbeats 8000000 in
set_option maxRecDepth 100000 in
theorem psalteryref13_Right.calls (k : Nat) (a0 : Int) (a1 : Int) (a2_0 : Bool) (A2_1 : Option Addr) (c2_1 : Nat) (l2_1 : List (List Int)) (A2_2 : Option Addr) (c2_2 : Nat) (l2_2 : List (List (List Int))) (r : Bool) (w : World) (hr2_1 : Kd.C (Kd.slice 3 (Kd.int .i64)) w A2_1 l2_1.length l2_1) (hc2_1 : l2_1.length≤c2_1) (hr2_2 : Kd.C (Kd.slice 49 (Kd.slice 3 (Kd.int .i64))) w A2_2 l2_2.length l2_2) (hc2_2 : l2_2.length≤c2_2) (h : psalteryref13_Right.f k a0 a1 a2_0 l2_1 l2_2=some r) :
  Calls Try.prog 16 #[.int .i64 a0, .int .i64 a1, .agg #[.bool a2_0, .slice A2_1 l2_1.length c2_1, .slice A2_2 l2_2.length c2_2]] w fun e w' => e=.returned (.bool r)∧Below w.heap.size w w' := by
 have hu33:=Try.underlying33;have HR2_1:=zm hr2_1;have HC2_1:=zm hc2_1;clear hr2_1 hc2_1;have HR2_2:=zm hr2_2;have HC2_2:=zm hc2_2;clear hr2_2 hc2_2;have HB:=zm (Below.refl w.heap.size w)
 have H : ((psalteryref12_Right.f a0 a1).bind fun t735=>(if t735=true then ((psalteryref12_Fair.f k a1 l2_1).bind fun t736=>(if t736=true then (psalteryref13_Right.j0 k a0 a1 ((l2_2.length : Int) != a1) a2_0 l2_1 l2_2) else (psalteryref13_Right.j0 k a0 a1 true a2_0 l2_1 l2_2))) else (psalteryref13_Right.j0 k a0 a1 true a2_0 l2_1 l2_2)))=some r:=h
 clear h;have HC4:=zm H;clear H
 go_enter Try.func16,Try.ntmps16
 go_upto_region 1 with (first|((with_reducible refine gate_dst (N:=5) rfl ?_);(try (refine gate_guard (by rfl) ?_;dsimp only));refine ybx 5 #[.bool a2_0, .slice A2_1 l2_1.length c2_1, .slice A2_2 l2_2.length c2_2] 33 ?_;intro gb734 hg w5 hbox hb;have BK734:=zm (hbox);have GW734:=ygw hg;have GE734:=ygw hg;replace HB:=ybs hb;clear hb hbox hg))
 (try simp only [Act.put,List.setIfInBounds_toArray,List.set_cons_zero,List.set_cons_succ])
 go_cut [27] (fun v27 wc => ∃ (kq : Nat) (x27_3 : Bool),v27=.bool x27_3∧Aside0 (psalteryref13_Right.j0 kq a0 a1 x27_3 a2_0 l2_1 l2_2=some r)∧Aside0 (kq≤k)∧Aside0 (wc.heap[gb734]? = some (.cells #[.bool a2_0,(.slice A2_1 l2_1.length c2_1),(.slice A2_2 l2_2.length c2_2)] 33 (0,0)))∧Aside0 (Below w.heap.size w wc))
 case first =>
  have H:=HC4.out;clear HC4
  obtain ⟨t735,A6,H⟩:=ybi H
  by_cases c7 : t735=true
  ·
   subst c7
   rw [if_pos rfl] at H
   obtain ⟨t736,A8,H⟩:=ybi H
   by_cases c9 : t736=true
   ·
    subst c9
    rw [if_pos rfl] at H
    have H' := zm H
    clear H
    go_wp2_with (first|((with_reducible refine gate_callee (f:=23) rfl ?_);refine ygl 12 Try.func23 #[.int .i64 a0, .int .i64 a1] ?_;(with_reducible refine (psalteryref12_Right.calls a0 a1 true _ A6.out).mono ?_);rintro e w' ⟨rfl,⟨nd,rfl⟩⟩;refine ⟨_,rfl, ?_⟩;obtain ⟨_,_,_,_,_,_⟩:=yc3 BK734)|(go_at_call 17;(with_reducible refine (psalteryref12_Fair.calls k a1 _ _ l2_1 true _ ?side1 HC2_1.out A8.out).mono ?_);(case side1=>exact ycb HR2_1);rintro e w' ⟨rfl,⟨nd,rfl⟩⟩))
    go_meet
    case rel=>exact ⟨_,(((l2_2.length : Int) != a1)),yq,H',⟨yo⟩,⟨yk BK734⟩,⟨yhb⟩⟩
   ·
    replace c9:=Bool.eq_false_iff.mpr c9
    subst c9
    rw [ynf] at H
    have H' := zm H
    clear H
    go_wp2_with (first|((with_reducible refine gate_callee (f:=23) rfl ?_);refine ygl 12 Try.func23 #[.int .i64 a0, .int .i64 a1] ?_;(with_reducible refine (psalteryref12_Right.calls a0 a1 true _ A6.out).mono ?_);rintro e w' ⟨rfl,⟨nd,rfl⟩⟩;refine ⟨_,rfl, ?_⟩;obtain ⟨_,_,_,_,_,_⟩:=yc3 BK734)|(go_at_call 17;(with_reducible refine (psalteryref12_Fair.calls k a1 _ _ l2_1 false _ ?side1 HC2_1.out A8.out).mono ?_);(case side1=>exact ycb HR2_1);rintro e w' ⟨rfl,⟨nd,rfl⟩⟩))
    go_meet
    case rel=>exact ⟨_,(true),yq,H',⟨yo⟩,⟨yk BK734⟩,⟨yhb⟩⟩
  ·
   replace c7:=Bool.eq_false_iff.mpr c7
   subst c7
   rw [ynf] at H
   have H' := zm H
   clear H
   go_wp2_with (first|((with_reducible refine gate_callee (f:=23) rfl ?_);refine ygl 12 Try.func23 #[.int .i64 a0, .int .i64 a1] ?_;(with_reducible refine (psalteryref12_Right.calls a0 a1 false _ A6.out).mono ?_);rintro e w' ⟨rfl,⟨nd,rfl⟩⟩;refine ⟨_,rfl, ?_⟩))
   go_meet
   case rel=>exact ⟨_,(true),yq,H',⟨yo⟩,⟨yk BK734⟩,⟨yhb⟩⟩
 case rest =>
  clear HC4
  obtain ⟨kq,x27_3,rfl,HA,HJ3,BK734,HB⟩:=hcut
  obtain ⟨kj3,rfl⟩:=ysu kq (fun h=>by subst h;exact absurd HA.out (by simp [psalteryref13_Right.j0]))
  have H:=HA.out;clear HA
  simp only [psalteryref13_Right.j0] at H
  by_cases c12 : x27_3=true
  ·
   subst c12
   rw [if_pos rfl] at H
   obtain rfl:=Option.some.inj H
   go_wp2
   go_ret
   exact ⟨ye,yhb⟩
  ·
   replace c12:=Bool.eq_false_iff.mpr c12
   subst c12
   rw [ynf] at H
   obtain ⟨t737,A13,H⟩:=ybi H
   have H' := zm H
   clear H
   obtain ⟨hcz14_0,hcz14_1,hcz14_2,hfz14_0,hfz14_1,hfz14_2⟩:=yc3 BK734
   go_wp2_with (first|((with_reducible refine gate_callee (f:=45) rfl ?_);refine ygl 32 Try.func45 #[.int .i64 a0, .int .i64 a1, .slice A2_1 l2_1.length c2_1] ?_;(with_reducible refine (psalteryref12_Pulses.calls kj3 a0 a1 _ _ l2_1 t737 _ ?side1 HC2_1.out A13.out).mono ?_);(case side1=>exact ycb HR2_1);rintro e w15 ⟨v738,rfl,ho0,hb⟩;refine ⟨_,rfl, ?_⟩;have HO739:=zm (Kd.S_lower ho0 (zE yhb));replace BK734:=ybb BK734 hb;replace HB:=ybs hb;(try clear hb);(try clear ho0)))
   go_loopg [8] kj3 (fun kq v8 w' => ∃ (x8_2 : Int),v8=.int .i64 x8_2∧Aside0 (psalteryref13_Right.l0 kq a1 t737 x8_2 a2_0 l2_1 l2_2=some r)∧Aside0 (kq≤kj3)∧Aside0 (Kd.S (Kd.slice 3 (Kd.int .i64)) 49 w' w.heap.size (fun _=>True) v738 t737)∧Aside0 (w'.heap[gb734]? = some (.cells #[.bool a2_0,(.slice A2_1 l2_1.length c2_1),(.slice A2_2 l2_2.length c2_2)] 33 (0,0)))∧Aside0 (Below w.heap.size w w'))
   case atStart=>exact ⟨(0),yq,H',⟨Nat.le_refl _⟩,⟨yr HO739⟩,⟨yk BK734⟩,⟨yhb⟩⟩
   case round =>
    clear H'
    try clear hcz14_0
    try clear hcz14_1
    try clear hcz14_2
    try clear hfz14_0
    try clear hfz14_1
    try clear hfz14_2
    obtain ⟨x8_2,rfl,HA,HK2,HO_7,BK734,HB⟩:=hrel
    obtain ⟨k2,rfl⟩:=ysu gk (fun h=>by subst h;exact absurd HA.out (by simp [psalteryref13_Right.l0]))
    have H:=HA.out;clear HA
    simp only [psalteryref13_Right.l0] at H
    by_cases c16 : x8_2 < a1
    ·
     rw [if_pos c16] at H
     have c16b0 : decide (x8_2 < a1)=true:=decide_eq_true c16
     clear c16
     obtain ⟨c17,H⟩:=yif H
     have c17b0 : decide (0≤x8_2)=true:=decide_eq_true c17
     clear c17
     obtain ⟨c18,H⟩:=yif H
     have c18b0 : decide (x8_2 < (l2_2.length : Int))=true:=decide_eq_true c18
     clear c18
     by_cases c19 : ((rd_L2 l2_2 x8_2).length : Int)=5
     ·
      rw [if_pos c19] at H
      have c19b0 : (((rd_L2 l2_2 x8_2).length : Int) == 5)=true:=beq_iff_eq.mpr c19
      have c19b1 : (((rd_L2 l2_2 x8_2).length : Int) != 5)=false:=bne_eq_false_iff_eq.mpr c19
      clear c19
      have H' := zm H
      clear H
      obtain ⟨hcz20_0,hcz20_1,hcz20_2,hfz20_0,hfz20_1,hfz20_2⟩:=yc3 BK734
      have p740 : 0≤(x8_2 : Int):=yt
      have q740 : x8_2 < (l2_2.length : Int):=yt
      obtain ⟨ad740,A740_0,c740_0,e740,hx740_0,hl740_0,hi740_0⟩:=at_L2 HR2_2.out x8_2 p740 q740
      cases e740
      replace hx740_0:=yhx HB hx740_0
      have HR740_0:=zm hi740_0;have HC740_0:=zm hl740_0;clear hi740_0 hl740_0
      replace p740:=eq_true p740
      replace q740:=eq_true q740
      go_wp2
      go_loopg [9] k2 (fun kq v9 w' => ∃ (x9_3 : Int),v9=.int .i64 x9_3∧Aside0 (psalteryref13_Right.l1 kq a1 t737 x8_2 x9_3 a2_0 l2_1 l2_2=some r)∧Aside0 (kq≤k2)∧Aside0 (Kd.S (Kd.slice 3 (Kd.int .i64)) 49 w' w.heap.size (fun _=>True) v738 t737)∧Aside0 (w'.heap[gb734]? = some (.cells #[.bool a2_0,(.slice A2_1 l2_1.length c2_1),(.slice (some ad740) l2_2.length c2_2)] 33 (0,0)))∧Aside0 (Below w.heap.size w w'))
      case atStart=>exact ⟨(0),yq,H',⟨Nat.le_refl _⟩,⟨yr HO_7⟩,⟨yk BK734⟩,⟨yhb⟩⟩
      case round =>
       clear H'
       try clear c16b0
       try clear c17b0
       try clear c18b0
       try clear c19b0
       try clear c19b1
       try clear hcz20_0
       try clear hcz20_1
       try clear hcz20_2
       try clear hfz20_0
       try clear hfz20_1
       try clear hfz20_2
       try clear hx740_0
       try clear p740
       try clear q740
       obtain ⟨x9_3,rfl,HA,HK3,HO_7,BK734,HB⟩:=hrel
       obtain ⟨k3,rfl⟩:=ysu gk (fun h=>by subst h;exact absurd HA.out (by simp [psalteryref13_Right.l1]))
       have H:=HA.out;clear HA
       simp only [psalteryref13_Right.l1] at H
       by_cases c21 : x9_3 < 5
       ·
        rw [if_pos c21] at H
        have c21b0 : decide (x9_3 < 5)=true:=decide_eq_true c21
        clear c21
        obtain ⟨c22,H⟩:=yif H
        have c22b0 : decide (0≤x8_2)=true:=decide_eq_true c22
        clear c22
        obtain ⟨c23,H⟩:=yif H
        have c23b0 : decide (x8_2 < (l2_2.length : Int))=true:=decide_eq_true c23
        clear c23
        obtain ⟨c24,H⟩:=yif H
        have c24b0 : decide (0≤x9_3)=true:=decide_eq_true c24
        clear c24
        obtain ⟨c25,H⟩:=yif H
        have c25b0 : decide (x9_3 < ((rd_L2 l2_2 x8_2).length : Int))=true:=decide_eq_true c25
        clear c25
        obtain ⟨t743,A26,H⟩:=ybi H
        by_cases c27 : ((rd_L1 (rd_L2 l2_2 x8_2) x9_3).length : Int)=t743
        ·
         rw [if_pos c27] at H
         have c27b0 : (((rd_L1 (rd_L2 l2_2 x8_2) x9_3).length : Int) == t743)=true:=beq_iff_eq.mpr c27
         have c27b1 : (((rd_L1 (rd_L2 l2_2 x8_2) x9_3).length : Int) != t743)=false:=bne_eq_false_iff_eq.mpr c27
         clear c27
         obtain ⟨t746,A28,H⟩:=ybi H
         obtain ⟨c29,H⟩:=yif H
         have c29b0 : decide (x8_2 < (t737.length : Int))=true:=decide_eq_true c29
         clear c29
         obtain ⟨c30,H⟩:=yif H
         have c30b0 : decide (x9_3 < ((rd_L1 t737 x8_2).length : Int))=true:=decide_eq_true c30
         clear c30
         by_cases c31 : t746=(rd (rd_L1 t737 x8_2) x9_3)
         ·
          rw [if_pos c31] at H
          have c31b0 : (t746 == (rd (rd_L1 t737 x8_2) x9_3))=true:=beq_iff_eq.mpr c31
          have c31b1 : (t746 != (rd (rd_L1 t737 x8_2) x9_3))=false:=bne_eq_false_iff_eq.mpr c31
          clear c31
          have H' := zm H
          clear H
          try go_wp2
          replace HO_7:=zm (Kd.S_drew HO_7.out)
          replace BK734:=zm (zj BK734.out)
          replace HB:=zm (zf HB.out)
          have p741 : 0≤(x8_2 : Int):=yt
          have q741 : x8_2 < (l2_2.length : Int):=yt
          obtain ⟨ad741,A741_0,c741_0,e741,hx741_0,hl741_0,hi741_0⟩:=at_L2 HR2_2.out x8_2 p741 q741
          have hw741_0:=hx741_0
          obtain rfl : ad740=ad741:=(by injection e741)
          replace hx741_0:=yhx HB hx741_0
          have HR741_0:=zm hi741_0;have HC741_0:=zm hl741_0;clear hi741_0 hl741_0
          replace p741:=eq_true p741
          replace q741:=eq_true q741
          have p742 : 0≤(x9_3 : Int):=yt
          have q742 : x9_3 < ((rd_L2 l2_2 x8_2).length : Int):=yt
          obtain ⟨ad742,A742_0,c742_0,e742,hx742_0,hl742_0,hi742_0⟩:=at_L1 HR741_0.out x9_3 p742 q742
          have hw742_0:=hx742_0
          cases e742
          replace hx742_0:=yhx HB hx742_0
          have HR742_0:=zm hi742_0;have HC742_0:=zm hl742_0;clear hi742_0 hl742_0
          replace p742:=eq_true p742
          replace q742:=eq_true q742
          have p744 : 0≤(x8_2 : Int):=yt
          have q744 : x8_2 < (l2_2.length : Int):=yt
          obtain ⟨ad744,A744_0,c744_0,e744,hx744_0,hl744_0,hi744_0⟩:=at_L2 HR2_2.out x8_2 p744 q744
          have hw744_0:=hx744_0
          obtain rfl : ad740=ad744:=(by injection e744)
          replace hx744_0:=yhx HB hx744_0
          have HR744_0:=zm hi744_0;have HC744_0:=zm hl744_0;clear hi744_0 hl744_0
          replace p744:=eq_true p744
          replace q744:=eq_true q744
          have ea_:=Option.some.inj (hx741_0.symm.trans hx744_0)
          injection ea_ with ea_ en_ ec_
          subst ea_;subst ec_;clear en_
          have p745 : 0≤(x9_3 : Int):=yt
          have q745 : x9_3 < ((rd_L2 l2_2 x8_2).length : Int):=yt
          obtain ⟨ad745,A745_0,c745_0,e745,hx745_0,hl745_0,hi745_0⟩:=at_L1 HR744_0.out x9_3 p745 q745
          have hw745_0:=hx745_0
          cases e745
          replace hx745_0:=yhx HB hx745_0
          have HR745_0:=zm hi745_0;have HC745_0:=zm hl745_0;clear hi745_0 hl745_0
          replace p745:=eq_true p745
          replace q745:=eq_true q745
          have p747 : 0≤(x8_2 : Int):=yt
          have q747 : x8_2 < (t737.length : Int):=yt
          obtain ⟨Ao33,co33,eo33⟩:=Kd.S_slice HO_7.out
          (first|subst eo33|(injection eo33 with f1_ f2_ f3_;have f4_:=f1_.symm;have f5_:=f3_.symm;clear f1_ f2_ f3_;subst f4_;subst f5_))
          obtain ⟨ad747,A747_0,c747_0,e747,hx747_0,hl747_0,hi747_0⟩:=at_L1 (Kd.S_reads' HO_7.out).2.2 x8_2 p747 q747
          cases e747
          obtain ⟨ce747,hce747,hMe747,hcc747⟩:=Kd.S_get HO_7.out [] x8_2 p747 (by first|exact q747|exact yt|(have e_:=(Kd.S_reads' HO_7.out).1;omega))
          obtain ⟨ve747_0,rfl,ge747_0⟩:=hMe747
          have hv747_0:=hcc747 0 _ rfl
          rw [Nat.add_zero,show ((Kd.slice 3 (Kd.int .i64))).sz=1 from rfl,Nat.mul_one] at hv747_0
          replace hv747_0:=Option.some.inj (hv747_0.symm.trans hx747_0)
          rw [hv747_0] at ge747_0
          have HL747_0:=zm (show Kd.R (Kd.int .i64) 3 _ _ _ _ (rd_L1 t737 x8_2) from ge747_0)
          clear hv747_0 ge747_0;clear hcc747 hce747;have HR747_0:=zm hi747_0;have HC747_0:=zm hl747_0;clear hi747_0 hl747_0
          replace p747:=eq_true p747
          replace q747:=eq_true q747
          obtain ⟨ad748,e748,hx748_0,p748,q748⟩:=yai HR747_0 x9_3
          cases e748
          refine yst (fun w' => w'.cell? ⟨gb734,0,none⟩=some (.bool a2_0)∧w'.cell? ⟨gb734,1,none⟩=some (.slice A2_1 l2_1.length c2_1)∧w'.cell? ⟨gb734,2,none⟩=some (.slice (some ad740) l2_2.length c2_2)∧w'.cell? (ad740.add (x8_2).toNat)=some (.slice (some ad742) (rd_L2 l2_2 x8_2).length c741_0)∧w'.cell? (ad742.add (x9_3).toNat)=some (.slice A742_0 (rd_L1 (rd_L2 l2_2 x8_2) x9_3).length c742_0)∧w'.cell? (ad740.add (x8_2).toNat)=some (.slice (some ad742) (rd_L2 l2_2 x8_2).length c741_0)∧w'.cell? (ad742.add (x9_3).toNat)=some (.slice A742_0 (rd_L1 (rd_L2 l2_2 x8_2) x9_3).length c742_0)∧w'.cell? (ad747.add (x8_2).toNat)=some (.slice (some ad748) (rd_L1 t737 x8_2).length c747_0)∧w'.cell? (ad748.add (x9_3).toNat)=some (.int .i64 (rd (rd_L1 t737 x8_2) x9_3))) [] 31 psalteryref13_Right.tab12 psalteryref13_Right.bits12 (fun hHeld HT_ HW_ => ?_)
          generalize wr.drew=w32 at HO_7 BK734 HB HL747_0 HR741_0 HR742_0 HR744_0 HR745_0 HR747_0 hx741_0 hx742_0 hx744_0 hx745_0 hx747_0 hx748_0 hHeld ⊢
          refine yp 0 49 HT_ ?_
          refine yp 2 51 HT_ ?_
          refine yp 5 54 HT_ ?_
          refine yp 9 58 HT_ ?_
          refine yl 1 50 HT_ HW_ hHeld ?_
          refine yp 3 52 HT_ ?_
          refine yl 4 53 HT_ HW_ hHeld ?_
          refine yp 6 55 HT_ ?_
          refine yl 7 56 HT_ HW_ hHeld ?_
          refine yp 8 57 HT_ ?_
          refine yw 10 59 HT_ (fun K hK => ?_)
          refine ygs Try.func46 #[.int .i64 x9_3] ?_
          with_reducible refine (psalteryref10_Width.calls k3 x9_3 t743 _ A26.out).mono ?_
          rintro e w' ⟨rfl,⟨nd,rfl⟩⟩
          refine ⟨_,rfl, ?_⟩
          refine hK.out _ _ yH (fun hHeld => ?_)
          clear hK K
          refine ym (some 59) ?_
          refine yp 11 60 HT_ ?_
          refine yp 12 61 HT_ ?_
          refine yp 13 62 HT_ ?_
          refine yp 15 64 HT_ ?_
          refine yp 18 67 HT_ ?_
          refine yp 22 71 HT_ ?_
          refine yp 23 72 HT_ ?_
          refine yp 24 73 HT_ ?_
          refine yp 26 75 HT_ ?_
          refine yl 14 63 HT_ HW_ hHeld ?_
          refine yp 16 65 HT_ ?_
          refine yl 17 66 HT_ HW_ hHeld ?_
          refine yp 19 68 HT_ ?_
          refine yl 20 69 HT_ HW_ hHeld ?_
          refine yl 25 74 HT_ HW_ hHeld ?_
          refine yp 27 76 HT_ ?_
          refine yl 28 77 HT_ HW_ hHeld ?_
          refine yw 21 70 HT_ (fun K hK => ?_)
          refine ygs Try.func40 #[.slice A742_0 (rd_L1 (rd_L2 l2_2 x8_2) x9_3).length c742_0] ?_
          with_reducible refine (psalteryref06_Pulses.calls k3 _ _ (rd_L1 (rd_L2 l2_2 x8_2) x9_3) t746 _ ?side1 ?side2 A28.out).mono ?_
          (case side1=>exact ycb HR742_0)
          (case side2=>exact HC742_0.out)
          rintro e w' ⟨rfl,⟨nd,rfl⟩⟩
          refine ⟨_,rfl, ?_⟩
          refine hK.out _ _ yH (fun hHeld => ?_)
          clear hK K
          refine ym (some 70) ?_
          refine yp 29 78 HT_ ?_
          refine yp 30 79 HT_ ?_
          refine done_ (done_of HT_.out (by kernel_rfl)) ?_
          try go_wp2
          go_roundg k3
          case measure=>exact yom3 HJ3 HK2 HK3
          case rel=>exact ⟨(wrap64 (x9_3+1)),yq,H',⟨yom3 HJ3 HK2 HK3⟩,⟨yr HO_7⟩,⟨yk BK734⟩,⟨yhb⟩⟩
         ·
          rw [if_neg c31] at H
          have c31b0 : (t746 == (rd (rd_L1 t737 x8_2) x9_3))=false:=beq_eq_false_iff_ne.mpr c31
          have c31b1 : (t746 != (rd (rd_L1 t737 x8_2) x9_3))=true:=bne_iff_ne.mpr c31
          obtain rfl:=Option.some.inj H
          try go_wp2
          replace HO_7:=zm (Kd.S_drew HO_7.out)
          replace BK734:=zm (zj BK734.out)
          replace HB:=zm (zf HB.out)
          have p741 : 0≤(x8_2 : Int):=yt
          have q741 : x8_2 < (l2_2.length : Int):=yt
          obtain ⟨ad741,A741_0,c741_0,e741,hx741_0,hl741_0,hi741_0⟩:=at_L2 HR2_2.out x8_2 p741 q741
          have hw741_0:=hx741_0
          obtain rfl : ad740=ad741:=(by injection e741)
          replace hx741_0:=yhx HB hx741_0
          have HR741_0:=zm hi741_0;have HC741_0:=zm hl741_0;clear hi741_0 hl741_0
          replace p741:=eq_true p741
          replace q741:=eq_true q741
          have p742 : 0≤(x9_3 : Int):=yt
          have q742 : x9_3 < ((rd_L2 l2_2 x8_2).length : Int):=yt
          obtain ⟨ad742,A742_0,c742_0,e742,hx742_0,hl742_0,hi742_0⟩:=at_L1 HR741_0.out x9_3 p742 q742
          have hw742_0:=hx742_0
          cases e742
          replace hx742_0:=yhx HB hx742_0
          have HR742_0:=zm hi742_0;have HC742_0:=zm hl742_0;clear hi742_0 hl742_0
          replace p742:=eq_true p742
          replace q742:=eq_true q742
          have p744 : 0≤(x8_2 : Int):=yt
          have q744 : x8_2 < (l2_2.length : Int):=yt
          obtain ⟨ad744,A744_0,c744_0,e744,hx744_0,hl744_0,hi744_0⟩:=at_L2 HR2_2.out x8_2 p744 q744
          have hw744_0:=hx744_0
          obtain rfl : ad740=ad744:=(by injection e744)
          replace hx744_0:=yhx HB hx744_0
          have HR744_0:=zm hi744_0;have HC744_0:=zm hl744_0;clear hi744_0 hl744_0
          replace p744:=eq_true p744
          replace q744:=eq_true q744
          have ea_:=Option.some.inj (hx741_0.symm.trans hx744_0)
          injection ea_ with ea_ en_ ec_
          subst ea_;subst ec_;clear en_
          have p745 : 0≤(x9_3 : Int):=yt
          have q745 : x9_3 < ((rd_L2 l2_2 x8_2).length : Int):=yt
          obtain ⟨ad745,A745_0,c745_0,e745,hx745_0,hl745_0,hi745_0⟩:=at_L1 HR744_0.out x9_3 p745 q745
          have hw745_0:=hx745_0
          cases e745
          replace hx745_0:=yhx HB hx745_0
          have HR745_0:=zm hi745_0;have HC745_0:=zm hl745_0;clear hi745_0 hl745_0
          replace p745:=eq_true p745
          replace q745:=eq_true q745
          have p747 : 0≤(x8_2 : Int):=yt
          have q747 : x8_2 < (t737.length : Int):=yt
          obtain ⟨Ao35,co35,eo35⟩:=Kd.S_slice HO_7.out
          (first|subst eo35|(injection eo35 with f1_ f2_ f3_;have f4_:=f1_.symm;have f5_:=f3_.symm;clear f1_ f2_ f3_;subst f4_;subst f5_))
          obtain ⟨ad747,A747_0,c747_0,e747,hx747_0,hl747_0,hi747_0⟩:=at_L1 (Kd.S_reads' HO_7.out).2.2 x8_2 p747 q747
          cases e747
          obtain ⟨ce747,hce747,hMe747,hcc747⟩:=Kd.S_get HO_7.out [] x8_2 p747 (by first|exact q747|exact yt|(have e_:=(Kd.S_reads' HO_7.out).1;omega))
          obtain ⟨ve747_0,rfl,ge747_0⟩:=hMe747
          have hv747_0:=hcc747 0 _ rfl
          rw [Nat.add_zero,show ((Kd.slice 3 (Kd.int .i64))).sz=1 from rfl,Nat.mul_one] at hv747_0
          replace hv747_0:=Option.some.inj (hv747_0.symm.trans hx747_0)
          rw [hv747_0] at ge747_0
          have HL747_0:=zm (show Kd.R (Kd.int .i64) 3 _ _ _ _ (rd_L1 t737 x8_2) from ge747_0)
          clear hv747_0 ge747_0;clear hcc747 hce747;have HR747_0:=zm hi747_0;have HC747_0:=zm hl747_0;clear hi747_0 hl747_0
          replace p747:=eq_true p747
          replace q747:=eq_true q747
          obtain ⟨ad748,e748,hx748_0,p748,q748⟩:=yai HR747_0 x9_3
          cases e748
          refine yst (fun w' => w'.cell? ⟨gb734,0,none⟩=some (.bool a2_0)∧w'.cell? ⟨gb734,1,none⟩=some (.slice A2_1 l2_1.length c2_1)∧w'.cell? ⟨gb734,2,none⟩=some (.slice (some ad740) l2_2.length c2_2)∧w'.cell? (ad740.add (x8_2).toNat)=some (.slice (some ad742) (rd_L2 l2_2 x8_2).length c741_0)∧w'.cell? (ad742.add (x9_3).toNat)=some (.slice A742_0 (rd_L1 (rd_L2 l2_2 x8_2) x9_3).length c742_0)∧w'.cell? (ad740.add (x8_2).toNat)=some (.slice (some ad742) (rd_L2 l2_2 x8_2).length c741_0)∧w'.cell? (ad742.add (x9_3).toNat)=some (.slice A742_0 (rd_L1 (rd_L2 l2_2 x8_2) x9_3).length c742_0)∧w'.cell? (ad747.add (x8_2).toNat)=some (.slice (some ad748) (rd_L1 t737 x8_2).length c747_0)∧w'.cell? (ad748.add (x9_3).toNat)=some (.int .i64 (rd (rd_L1 t737 x8_2) x9_3))) [] 31 psalteryref13_Right.tab12 psalteryref13_Right.bits12 (fun hHeld HT_ HW_ => ?_)
          generalize wr.drew=w34 at HO_7 BK734 HB HL747_0 HR741_0 HR742_0 HR744_0 HR745_0 HR747_0 hx741_0 hx742_0 hx744_0 hx745_0 hx747_0 hx748_0 hHeld ⊢
          refine yp 0 49 HT_ ?_
          refine yp 2 51 HT_ ?_
          refine yp 5 54 HT_ ?_
          refine yp 9 58 HT_ ?_
          refine yl 1 50 HT_ HW_ hHeld ?_
          refine yp 3 52 HT_ ?_
          refine yl 4 53 HT_ HW_ hHeld ?_
          refine yp 6 55 HT_ ?_
          refine yl 7 56 HT_ HW_ hHeld ?_
          refine yp 8 57 HT_ ?_
          refine yw 10 59 HT_ (fun K hK => ?_)
          refine ygs Try.func46 #[.int .i64 x9_3] ?_
          with_reducible refine (psalteryref10_Width.calls k3 x9_3 t743 _ A26.out).mono ?_
          rintro e w' ⟨rfl,⟨nd,rfl⟩⟩
          refine ⟨_,rfl, ?_⟩
          refine hK.out _ _ yH (fun hHeld => ?_)
          clear hK K
          refine ym (some 59) ?_
          refine yp 11 60 HT_ ?_
          refine yp 12 61 HT_ ?_
          refine yp 13 62 HT_ ?_
          refine yp 15 64 HT_ ?_
          refine yp 18 67 HT_ ?_
          refine yp 22 71 HT_ ?_
          refine yp 23 72 HT_ ?_
          refine yp 24 73 HT_ ?_
          refine yp 26 75 HT_ ?_
          refine yl 14 63 HT_ HW_ hHeld ?_
          refine yp 16 65 HT_ ?_
          refine yl 17 66 HT_ HW_ hHeld ?_
          refine yp 19 68 HT_ ?_
          refine yl 20 69 HT_ HW_ hHeld ?_
          refine yl 25 74 HT_ HW_ hHeld ?_
          refine yp 27 76 HT_ ?_
          refine yl 28 77 HT_ HW_ hHeld ?_
          refine yw 21 70 HT_ (fun K hK => ?_)
          refine ygs Try.func40 #[.slice A742_0 (rd_L1 (rd_L2 l2_2 x8_2) x9_3).length c742_0] ?_
          with_reducible refine (psalteryref06_Pulses.calls k3 _ _ (rd_L1 (rd_L2 l2_2 x8_2) x9_3) t746 _ ?side1 ?side2 A28.out).mono ?_
          (case side1=>exact ycb HR742_0)
          (case side2=>exact HC742_0.out)
          rintro e w' ⟨rfl,⟨nd,rfl⟩⟩
          refine ⟨_,rfl, ?_⟩
          refine hK.out _ _ yH (fun hHeld => ?_)
          clear hK K
          refine ym (some 70) ?_
          refine yp 29 78 HT_ ?_
          refine yp 30 79 HT_ ?_
          refine done_ (done_of HT_.out (by kernel_rfl)) ?_
          try go_wp2
          go_ret
          exact ⟨ye,yhb⟩
        ·
         rw [if_neg c27] at H
         have c27b0 : (((rd_L1 (rd_L2 l2_2 x8_2) x9_3).length : Int) == t743)=false:=beq_eq_false_iff_ne.mpr c27
         have c27b1 : (((rd_L1 (rd_L2 l2_2 x8_2) x9_3).length : Int) != t743)=true:=bne_iff_ne.mpr c27
         obtain rfl:=Option.some.inj H
         try go_wp2
         replace HO_7:=zm (Kd.S_drew HO_7.out)
         replace BK734:=zm (zj BK734.out)
         replace HB:=zm (zf HB.out)
         have p741 : 0≤(x8_2 : Int):=yt
         have q741 : x8_2 < (l2_2.length : Int):=yt
         obtain ⟨ad741,A741_0,c741_0,e741,hx741_0,hl741_0,hi741_0⟩:=at_L2 HR2_2.out x8_2 p741 q741
         have hw741_0:=hx741_0
         obtain rfl : ad740=ad741:=(by injection e741)
         replace hx741_0:=yhx HB hx741_0
         have HR741_0:=zm hi741_0;have HC741_0:=zm hl741_0;clear hi741_0 hl741_0
         replace p741:=eq_true p741
         replace q741:=eq_true q741
         have p742 : 0≤(x9_3 : Int):=yt
         have q742 : x9_3 < ((rd_L2 l2_2 x8_2).length : Int):=yt
         obtain ⟨ad742,A742_0,c742_0,e742,hx742_0,hl742_0,hi742_0⟩:=at_L1 HR741_0.out x9_3 p742 q742
         have hw742_0:=hx742_0
         cases e742
         replace hx742_0:=yhx HB hx742_0
         have HR742_0:=zm hi742_0;have HC742_0:=zm hl742_0;clear hi742_0 hl742_0
         replace p742:=eq_true p742
         replace q742:=eq_true q742
         refine yst (fun w' => w'.cell? ⟨gb734,0,none⟩=some (.bool a2_0)∧w'.cell? ⟨gb734,1,none⟩=some (.slice A2_1 l2_1.length c2_1)∧w'.cell? ⟨gb734,2,none⟩=some (.slice (some ad740) l2_2.length c2_2)∧w'.cell? (ad740.add (x8_2).toNat)=some (.slice (some ad742) (rd_L2 l2_2 x8_2).length c741_0)∧w'.cell? (ad742.add (x9_3).toNat)=some (.slice A742_0 (rd_L1 (rd_L2 l2_2 x8_2) x9_3).length c742_0)) [] 31 psalteryref13_Right.tab12 psalteryref13_Right.bits12 (fun hHeld HT_ HW_ => ?_)
         generalize wr.drew=w36 at HO_7 BK734 HB HR741_0 HR742_0 hx741_0 hx742_0 hHeld ⊢
         refine yp 0 49 HT_ ?_
         refine yp 2 51 HT_ ?_
         refine yp 5 54 HT_ ?_
         refine yp 9 58 HT_ ?_
         refine yl 1 50 HT_ HW_ hHeld ?_
         refine yp 3 52 HT_ ?_
         refine yl 4 53 HT_ HW_ hHeld ?_
         refine yp 6 55 HT_ ?_
         refine yl 7 56 HT_ HW_ hHeld ?_
         refine yp 8 57 HT_ ?_
         refine yw 10 59 HT_ (fun K hK => ?_)
         refine ygs Try.func46 #[.int .i64 x9_3] ?_
         with_reducible refine (psalteryref10_Width.calls k3 x9_3 t743 _ A26.out).mono ?_
         rintro e w' ⟨rfl,⟨nd,rfl⟩⟩
         refine ⟨_,rfl, ?_⟩
         refine hK.out _ _ yH (fun hHeld => ?_)
         clear hK K
         refine ym (some 59) ?_
         refine yp 11 60 HT_ ?_
         refine yp 12 61 HT_ ?_
         refine yu 13 62 HT_ ?_
         refine yu 14 63 HT_ ?_
         refine yu 15 64 HT_ ?_
         refine yu 16 65 HT_ ?_
         refine yu 17 66 HT_ ?_
         refine yu 18 67 HT_ ?_
         refine yu 19 68 HT_ ?_
         refine yu 20 69 HT_ ?_
         refine yu 21 70 HT_ ?_
         refine yu 22 71 HT_ ?_
         refine yu 23 72 HT_ ?_
         refine yu 24 73 HT_ ?_
         refine yu 25 74 HT_ ?_
         refine yu 26 75 HT_ ?_
         refine yu 27 76 HT_ ?_
         refine yu 28 77 HT_ ?_
         refine yu 29 78 HT_ ?_
         refine yp 30 79 HT_ ?_
         refine done_ (done_of HT_.out (by kernel_rfl)) ?_
         try go_wp2
         go_ret
         exact ⟨ye,yhb⟩
       ·
        rw [if_neg c21] at H
        have c21b0 : decide (x9_3 < 5)=false:=decide_eq_false c21
        clear c21
        have H' := zm H
        clear H
        go_wp2
        go_roundg k3
        case measure=>exact yom3 HJ3 HK2 HK3
        case rel=>exact ⟨(wrap64 (x8_2+1)),yq,H',⟨yom3 HJ3 HK2 HK3⟩,⟨yr HO_7⟩,⟨yk BK734⟩,⟨yhb⟩⟩
     ·
      rw [if_neg c19] at H
      have c19b0 : (((rd_L2 l2_2 x8_2).length : Int) == 5)=false:=beq_eq_false_iff_ne.mpr c19
      have c19b1 : (((rd_L2 l2_2 x8_2).length : Int) != 5)=true:=bne_iff_ne.mpr c19
      obtain rfl:=Option.some.inj H
      obtain ⟨_,_,_,_,_,_⟩:=yc3 BK734
      have p740 : 0≤(x8_2 : Int):=yt
      have q740 : x8_2 < (l2_2.length : Int):=yt
      obtain ⟨ad740,A740_0,c740_0,e740,hx740_0,hl740_0,hi740_0⟩:=at_L2 HR2_2.out x8_2 p740 q740
      cases e740
      replace hx740_0:=yhx HB hx740_0
      have HR740_0:=zm hi740_0;have HC740_0:=zm hl740_0;clear hi740_0 hl740_0
      replace p740:=eq_true p740
      replace q740:=eq_true q740
      go_wp2
      go_ret
      exact ⟨ye,yhb⟩
    ·
     rw [if_neg c16] at H
     have c16b0 : decide (x8_2 < a1)=false:=decide_eq_false c16
     clear c16
     obtain rfl:=Option.some.inj H
     go_wp2
     go_ret
     exact ⟨ye,yhb⟩
def psalteryref05_New.f  : Option (Int × List Int):=some (4294967295,(([0,0,0,0] : List Int)))
set_option maxHeartbeats 8000000 in
set_option maxRecDepth 100000 in
theorem psalteryref05_New.calls  (r1 : Int) (r2 : List Int) (w : World) (h : psalteryref05_New.f  = some (r1,r2)) :
  Calls Try.prog 36 #[] w fun e w' => ∃ v1_ : Value,e=.returned (.agg #[.int .u64 r1,v1_])∧Kd.R (Kd.int .i64) 3 w' w.heap.size (fun _=>True) v1_ r2∧Below w.heap.size w w' := by
 have hu69:=Try.underlying69;have HB:=zm (Below.refl w.heap.size w)
 have H : (some (4294967295,(([0,0,0,0] : List Int))))=some (r1,r2):=h
 clear h
 obtain ⟨y763,hy763⟩ : ∃ y_ : List Int,y_=(([0,0,0,0] : List Int)):=⟨_,rfl⟩
 replace H : (some (4294967295,y763))=some (r1,r2):=yrw hy763 H
 have Ny763:=zm hy763;clear hy763
 simp only [Option.some.injEq,Prod.mk.injEq] at H
 obtain ⟨rfl,rfl⟩:=H
 go_enter Try.func36,Try.ntmps36
 go_wp2_with (first|((with_reducible refine gate_dst (N:=0) rfl ?_);refine ybx 0 #[.int .u64 0, .slice none 0 0] 69 ?_;intro gb762 hg w1 hbox hb;have BK762:=zm (hbox);have GW762:=ygw hg;have GE762:=ygw hg;replace HB:=ybs hb;clear hb hbox hg)|((with_reducible refine gate_dst (N:=1) rfl ?_);refine Kd.R_lit (Kd.int .i64) _ 3 ?hg (N:=1) ?hd (xs:=([0,0,0,0] : List Int)) (inner := [.int .i64 0, .int .i64 0, .int .i64 0, .int .i64 0]) (ok:=fun _=>True) (okp:=fun _=>True) ?hr ?hp (fun _ hk=>hk) trivial (Below.refl _ _) (Nat.le_refl _) (by simp) ?_;(case hd=>rfl);(case hg=>rfl);(case hr=>first|(go_simp;done)|(go_simp;rfl));(case hp=>exact (Reps.one (show Kd.M (Kd.int .i64) _ _ _ 0 [.int .i64 0] from rfl) (Reps.one (show Kd.M (Kd.int .i64) _ _ _ 0 [.int .i64 0] from rfl) (Reps.one (show Kd.M (Kd.int .i64) _ _ _ 0 [.int .i64 0] from rfl) (Reps.one (show Kd.M (Kd.int .i64) _ _ _ 0 [.int .i64 0] from rfl) (Reps.none _ _))))));intro v764 w2 ho3 hb hg_ hnew_;clear hg_ hnew_;(first|rw [← Ny763.out] at ho3|(simp only [Int.reduceToNat] at ho3;rw [← Ny763.out] at ho3));have HO765:=zm (Kd.R_lower ho3 (zE yhb));replace BK762:=ybb BK762 hb;replace HB:=ybs hb;clear hb ho3;obtain ⟨Ao4,co4,eo4⟩:=Kd.R_slice HO765.out;subst eo4;obtain ⟨_,_,_,_⟩:=yc2 BK762))
 refine bodyPost_ret (results_cell_row rfl _ _ gb762 69 #[.int .u64 4294967295, .slice Ao4 y763.length co4] (0,0) _ rfl (ykp BK762) Try.underlying69 rfl (by kernel_rfl)) rfl ?_
 exact ⟨_,ye,yR1 HO765 BK762,yhb⟩
def psalteryref05_Fair.f (a0 : Int) (a1 : Int) (a2 : Int) : Option (Bool):=if a0 ≥ 0 then (if a1 > a0 then (if a2 ≥ a1 then (some (decide (a2≤65536))) else (some false)) else (some false)) else (some false)
set_option maxHeartbeats 8000000 in
set_option maxRecDepth 100000 in
theorem psalteryref05_Fair.calls (a0 : Int) (a1 : Int) (a2 : Int) (r : Bool) (w : World) (h : psalteryref05_Fair.f a0 a1 a2=some r) :
  Calls Try.prog 77 #[.int .i64 a0, .int .i64 a1, .int .i64 a2] w fun e w' => e=.returned (.bool r)∧Drawn0 w w' := by
 have H : (if a0 ≥ 0 then (if a1 > a0 then (if a2 ≥ a1 then (some (decide (a2≤65536))) else (some false)) else (some false)) else (some false))=some r:=h
 clear h
 by_cases c4 : a0 ≥ 0
 ·
  rw [if_pos c4] at H
  have c4b0 : decide (0≤a0)=true:=decide_eq_true c4
  clear c4
  by_cases c5 : a1 > a0
  ·
   rw [if_pos c5] at H
   have c5b0 : decide (a0 < a1)=true:=decide_eq_true c5
   clear c5
   by_cases c6 : a2 ≥ a1
   ·
    rw [if_pos c6] at H
    have c6b0 : decide (a1≤a2)=true:=decide_eq_true c6
    clear c6
    obtain rfl:=Option.some.inj H
    go_enter Try.func77,Try.ntmps77
    go_wp2
    go_ret
    exact ⟨yq,yd⟩
   ·
    rw [if_neg c6] at H
    have c6b0 : decide (a1≤a2)=false:=decide_eq_false c6
    clear c6
    obtain rfl:=Option.some.inj H
    go_enter Try.func77,Try.ntmps77
    go_wp2
    go_ret
    exact ⟨yq,yd⟩
  ·
   rw [if_neg c5] at H
   have c5b0 : decide (a0 < a1)=false:=decide_eq_false c5
   clear c5
   obtain rfl:=Option.some.inj H
   go_enter Try.func77,Try.ntmps77
   go_wp2
   go_ret
   exact ⟨yq,yd⟩
 ·
  rw [if_neg c4] at H
  have c4b0 : decide (0≤a0)=false:=decide_eq_false c4
  clear c4
  obtain rfl:=Option.some.inj H
  go_enter Try.func77,Try.ntmps77
  go_wp2
  go_ret
  exact ⟨yq,yd⟩
def psalteryref05_add.l0 : Nat→Int→List Int→Int→Option (List Int)
 | 0,_,_,_=>none
 | k+1,x1,x5,x6=>if x6 ≥ 0 then (if 0≤x6 then (if x6 < (x5.length : Int) then (psalteryref05_add.l0 k (IntKind.u64.wrap (Int.tdiv (IntKind.u64.wrap (x1+(IntKind.u64.wrap (rd x5 x6)))) 256)) (x5.set (x6 : Int).toNat (wrap64 (Int.tmod (IntKind.u64.wrap (x1+(IntKind.u64.wrap (rd x5 x6)))) 256))) (wrap64 (x6 - 1))) else (none)) else (none)) else (some x5)
def psalteryref05_add.f (k : Nat) (l0 : List Int) (a1 : Int) : Option (List Int):=(some (([] : List Int) : List Int)).bind fun y766=>(if y766.length+l0.length < 17592186044416 then ((some (y766 ++ l0 : List Int)).bind fun y769=>(psalteryref05_add.l0 k a1 y769 (wrap64 ((y769.length : Int) - 1)))) else (none))
theorem psalteryref05_add.mono_l : ∀ k,(∀ y0 y1 y2,LeO (psalteryref05_add.l0 k y0 y1 y2) (psalteryref05_add.l0 (k+1) y0 y1 y2))
 | 0=>fun _ _ _ r h=>by simp [psalteryref05_add.l0] at h
 | k+1=>by
  have ih0:=psalteryref05_add.mono_l k
  ·
   intro y0 y1 y2
   unfold psalteryref05_add.l0
   repeat' with_reducible first|apply ih0|apply yLr|apply yLn|apply yLi|apply yLb|intro _
theorem psalteryref05_add.mono : ∀ a0 a1 k,LeO (psalteryref05_add.f k a0 a1) (psalteryref05_add.f (k+1) a0 a1):=by
 intro a0 a1 k
 have ih0:=psalteryref05_add.mono_l k
 unfold psalteryref05_add.f
 repeat' with_reducible first|apply ih0|apply yLr|apply yLn|apply yLi|apply yLb|intro _
set_option maxHeartbeats 8000000 in
set_option maxRecDepth 100000 in
theorem psalteryref05_add.calls (k : Nat) (A0 : Option Addr) (c0 : Nat) (l0 : List Int) (a1 : Int) (r : List Int) (w : World) (hr0 : Kd.C (Kd.int .i64) w A0 l0.length l0) (hc0 : l0.length≤c0) (h : psalteryref05_add.f k l0 a1=some r) :
  Calls Try.prog 79 #[.slice A0 l0.length c0, .int .u64 a1] w fun e w' => ∃ v0_ : Value,e=.returned (v0_)∧Kd.R (Kd.int .i64) 3 w' w.heap.size (fun _=>True) v0_ r∧Below w.heap.size w w' := by
 have HR0:=zm hr0;have HC0:=zm hc0;clear hr0 hc0;have HB:=zm (Below.refl w.heap.size w)
 have H : ((some (([] : List Int) : List Int)).bind fun y766=>(if y766.length+l0.length < 17592186044416 then ((some (y766 ++ l0 : List Int)).bind fun y769=>(psalteryref05_add.l0 k a1 y769 (wrap64 ((y769.length : Int) - 1)))) else (none)))=some r:=h
 clear h
 obtain ⟨y766,hy766⟩ : ∃ y_ : List Int,y_=(([] : List Int)):=⟨_,rfl⟩
 replace H : (if y766.length+l0.length < 17592186044416 then ((some (y766 ++ l0 : List Int)).bind fun y769=>(psalteryref05_add.l0 k a1 y769 (wrap64 ((y769.length : Int) - 1)))) else (none))=some r:=yrw hy766 H
 have Ny766:=zm hy766;clear hy766
 obtain ⟨c3,H⟩:=yif H
 have LMc3:=zm c3;clear c3
 obtain ⟨y769,hy769⟩ : ∃ y_ : List Int,y_=(y766 ++ l0):=⟨_,rfl⟩
 replace H : (psalteryref05_add.l0 k a1 y769 (wrap64 ((y769.length : Int) - 1)))=some r:=yrw hy769 H
 have Ny769:=zm hy769;clear hy769
 have H' := zm H
 clear H
 go_enter Try.func79,Try.ntmps79
 go_wp2_with (first|((with_reducible refine gate_dst (N:=7) rfl ?_);refine Kd.R_lit (Kd.int .i64) _ 3 ?hg (N:=7) ?hd (xs:=([] : List Int)) (inner := []) (ok:=fun _=>True) (okp:=fun _=>True) ?hr ?hp (fun _ hk=>hk) trivial (Below.refl _ _) (Nat.le_refl _) (by simp) ?_;(case hd=>rfl);(case hg=>rfl);(case hr=>first|(go_simp;done)|(go_simp;rfl));(case hp=>exact (Reps.none _ _));intro v767 w4 ho5 hb hg_ hnew_;clear hg_ hnew_;(first|rw [← Ny766.out] at ho5|(simp only [Int.reduceToNat] at ho5;rw [← Ny766.out] at ho5));have HO768:=zm (Kd.R_lower ho5 (zE yhb));replace HB:=ybs hb;clear hb ho5)|((with_reducible refine gate_builtin (b:=.append) (xs := #[.tmp 7, .tmp 8]) rfl ?_);at_builtin;refine Kd.R_append_rows (Kd.int .i64) (w0:=w) w.heap.size rfl (.tmp 7) (.tmp 8) 49 3 (.int .i64 0) 8 rfl Try.underlying49 info3 rfl (by decide) (by omega) v767 y766 l0 _ _ _ (fun _=>True) (fun _=>False) rfl rfl ?aO ?aR (fun _ _ h=>h) (fun _ h=>h.elim) ?aF ?aB ?aS ?aL ?_;(case aR=>exact ycb HR0);(case aB=>exact yhb);(case aF=>exact (fun _ _=>trivial));(case aO=>exact (yr HO768));(case aS=>exact (zE yhb));(case aL=>have:=LMc3.out;omega);intro v770 w6 ho hb hg hat;rw [← Ny769.out] at ho;replace HB:=zm (hb);have HO771:=zm (ho);clear HO768;clear ho hb hg hat;obtain ⟨Ao7,co7,eo7⟩:=Kd.R_slice HO771.out;subst eo7))
 go_loopg [1,6] k (fun kq v1 v6 w' => ∃ (x1_1 : Int) (x5_1 : List Int) (x6_1 : Int),v1=.int .u64 x1_1∧v6=.int .i64 x6_1∧Aside0 (psalteryref05_add.l0 kq x1_1 x5_1 x6_1=some r)∧Aside0 (kq≤k)∧Aside0 (Kd.R (Kd.int .i64) 3 w' w.heap.size (fun _=>True) (.slice Ao7 y769.length co7) x5_1)∧Aside0 (Below w.heap.size w w'))
 case atStart=>exact ⟨(a1),(y769),(wrap64 ((y769.length : Int) - 1)),yq,yq,H',⟨Nat.le_refl _⟩,⟨yr HO771⟩,⟨yhb⟩⟩
 case round =>
  clear H'
  obtain ⟨x1_1,x5_1,x6_1,rfl,rfl,HA,HK1,HO_5,HB⟩:=hrel
  have hl5_1:=(Kd.R_reads' HO_5.out).1
  rw [hl5_1] at HO_5
  (try simp only [hl5_1])
  obtain ⟨k1,rfl⟩:=ysu gk (fun h=>by subst h;exact absurd HA.out (by simp [psalteryref05_add.l0]))
  have H:=HA.out;clear HA
  simp only [psalteryref05_add.l0] at H
  by_cases c8 : x6_1 ≥ 0
  ·
   rw [if_pos c8] at H
   have c8b0 : decide (0≤x6_1)=true:=decide_eq_true c8
   clear c8
   obtain ⟨c9,H⟩:=yif H
   have c9b0 : decide (0≤x6_1)=true:=decide_eq_true c9
   clear c9
   obtain ⟨c10,H⟩:=yif H
   have c10b0 : decide (x6_1 < (x5_1.length : Int))=true:=decide_eq_true c10
   clear c10
   obtain ⟨y773,hy773⟩ : ∃ y_ : List Int,y_=(x5_1.set (x6_1 : Int).toNat (wrap64 (Int.tmod (IntKind.u64.wrap (x1_1+(IntKind.u64.wrap (rd x5_1 x6_1)))) 256))):=⟨_,rfl⟩
   replace H : (psalteryref05_add.l0 k1 (IntKind.u64.wrap (Int.tdiv (IntKind.u64.wrap (x1_1+(IntKind.u64.wrap (rd x5_1 x6_1)))) 256)) y773 (wrap64 (x6_1 - 1)))=some r:=yrw hy773 H
   have Ny773:=zm hy773;clear hy773
   have H' := zm H
   clear H
   have p772 : 0≤(x6_1 : Int):=yt
   have q772 : x6_1 < (x5_1.length : Int):=yt
   obtain ⟨ad772,e772,hx772_0⟩:=Kd.at_int (Kd.R_reads' HO_5.out).2.2 x6_1 p772 q772
   cases e772
   replace p772:=eq_true p772
   replace q772:=eq_true q772
   have p11 : 0≤(x6_1 : Int):=yt
   have q11 : (x6_1 : Int) < ((x5_1.length : Int) : Int):=yt
   obtain ⟨go11,co11,eo11,gb11,gl11,cl11,HG11⟩:=Kd.R_form HO_5.out (by omega)
   (first|cases eo11|(injection eo11 with ea_ en_ ec_;(first|subst ea_|(injection ea_ with ea_;subst ea_));subst ec_;clear en_))
   have GB11:=zm gb11;have GG11:=zm HG11;clear gb11 gl11 HG11
   (first|simp only [add_plain] at hx772_0|skip)
   obtain ⟨hx11_0,hf11_0⟩:=Kd.R_celln 0 HO_5.out (x6_1 : Int) p11 q11
   replace p11:=eq_true p11
   replace q11:=eq_true q11
   have HP12:=Kd.R_putg HO_5.out (x6_1 : Int) (wrap64 (Int.tmod (IntKind.u64.wrap (x1_1+(IntKind.u64.wrap (rd x5_1 x6_1)))) 256))
   go_wp2_with (first|((with_reducible refine gate_store (t:=3) (p:=29) rfl ?_);refine store_event (t:=3) (p:=29) (v := ?vo_w13) (w1:=(wr.setCell ⟨go11,(x6_1 : Int).toNat,none⟩ (.int .i64 (wrap64 (Int.tmod (IntKind.u64.wrap (x1_1+(IntKind.u64.wrap (rd x5_1 x6_1)))) 256))))) ?hg ?ho ?hn ?hr ?_;(case ho=>rfl);(case hg=>rfl);(case hn=>rfl);(case hr=>first|(go_simp;done)|(go_simp;rfl));intro w13 hw;have hg : wr.grownBy w13 (some go11):=(by rw [hw];exact HP12.2);have hp_ : Kd.R (Kd.int .i64) 3 w13 w.heap.size (fun _=>True) (.slice (some ⟨go11,0,none⟩) x5_1.length co7) y773:=(by rw [hw,Ny773.out];exact HP12.1);clear HP12;replace HO_5:=zm (hp_);replace HB:=zm ((by rw [hw];exact zk (HB.out) GB11.out : Below w.heap.size w w13));clear hg hw hp_))
   (try simp only [← hl5_1])
   go_roundg k1
   case measure=>exact yom1 HK1
   case rel=>exact ⟨(IntKind.u64.wrap (Int.tdiv (IntKind.u64.wrap (x1_1+(IntKind.u64.wrap (rd x5_1 x6_1)))) 256)),(y773),(wrap64 (x6_1 - 1)),yq,yq,H',⟨yom1 HK1⟩,⟨by (try simp only [hl5_1]);(with_reducible repeat (first|apply zo|apply zp|apply zq));exact HO_5.out⟩,⟨yhb⟩⟩
  ·
   rw [if_neg c8] at H
   have c8b0 : decide (0≤x6_1)=false:=decide_eq_false c8
   clear c8
   obtain rfl:=Option.some.inj H
   go_wp2
   go_ret
   exact ⟨_,ye,yr HO_5,yhb⟩
def psalteryref05_part.f (a0 : Int) (a1 : Int) (a2 : Int) (a3 : Int) : Option (Int × Int):=if (IntKind.u64.wrap (a3))=0 then (none) else (if a2=a3 then (some (IntKind.u64.wrap (a0 - (IntKind.u64.wrap ((IntKind.u64.wrap (Int.tdiv a0 (IntKind.u64.wrap (a3)))) * (IntKind.u64.wrap (a1))))),IntKind.u64.wrap ((IntKind.u64.wrap (Int.tdiv a0 (IntKind.u64.wrap (a3)))) * (IntKind.u64.wrap (a1))))) else (some (IntKind.u64.wrap ((IntKind.u64.wrap (Int.tdiv a0 (IntKind.u64.wrap (a3)))) * (IntKind.u64.wrap (wrap64 (a2 - a1)))),IntKind.u64.wrap ((IntKind.u64.wrap (Int.tdiv a0 (IntKind.u64.wrap (a3)))) * (IntKind.u64.wrap (a1))))))
set_option maxHeartbeats 8000000 in
set_option maxRecDepth 100000 in
theorem psalteryref05_part.calls (a0 : Int) (a1 : Int) (a2 : Int) (a3 : Int) (r1 : Int) (r2 : Int) (w : World) (h : psalteryref05_part.f a0 a1 a2 a3=some (r1,r2)) :
  Calls Try.prog 78 #[.int .u64 a0, .int .i64 a1, .int .i64 a2, .int .i64 a3] w fun e w' => e=.returned (.tuple #[.int .u64 r1, .int .u64 r2])∧Drawn0 w w' := by
 have H : (if (IntKind.u64.wrap (a3))=0 then (none) else (if a2=a3 then (some (IntKind.u64.wrap (a0 - (IntKind.u64.wrap ((IntKind.u64.wrap (Int.tdiv a0 (IntKind.u64.wrap (a3)))) * (IntKind.u64.wrap (a1))))),IntKind.u64.wrap ((IntKind.u64.wrap (Int.tdiv a0 (IntKind.u64.wrap (a3)))) * (IntKind.u64.wrap (a1))))) else (some (IntKind.u64.wrap ((IntKind.u64.wrap (Int.tdiv a0 (IntKind.u64.wrap (a3)))) * (IntKind.u64.wrap (wrap64 (a2 - a1)))),IntKind.u64.wrap ((IntKind.u64.wrap (Int.tdiv a0 (IntKind.u64.wrap (a3)))) * (IntKind.u64.wrap (a1)))))))=some (r1,r2):=h
 clear h
 obtain ⟨c5,H⟩:=yie H
 have c5b0 : ((IntKind.u64.wrap (a3)) == 0)=false:=beq_eq_false_iff_ne.mpr c5
 have c5b1 : ((IntKind.u64.wrap (a3)) != 0)=true:=bne_iff_ne.mpr c5
 by_cases c6 : a2=a3
 ·
  rw [if_pos c6] at H
  have c6b0 : (a2 == a3)=true:=beq_iff_eq.mpr c6
  have c6b1 : (a2 != a3)=false:=bne_eq_false_iff_eq.mpr c6
  clear c6
  simp only [Option.some.injEq,Prod.mk.injEq] at H
  obtain ⟨rfl,rfl⟩:=H
  go_enter Try.func78,Try.ntmps78
  go_wp2
  go_ret2
  exact ⟨yq,yd⟩
 ·
  rw [if_neg c6] at H
  have c6b0 : (a2 == a3)=false:=beq_eq_false_iff_ne.mpr c6
  have c6b1 : (a2 != a3)=true:=bne_iff_ne.mpr c6
  simp only [Option.some.injEq,Prod.mk.injEq] at H
  obtain ⟨rfl,rfl⟩:=H
  go_enter Try.func78,Try.ntmps78
  go_wp2
  go_ret2
  exact ⟨yq,yd⟩
def psalteryref05_Put.l0 : Nat→Int→List Int→Option (Int × List Int × Int)
 | 0,_,_=>none
 | k+1,x783000,x783001=>if x783000 < 16777216 then (if x783001.length < 17592186044416 then (psalteryref05_Put.l0 k (IntKind.u64.wrap (x783000 * 256)) (x783001 ++ [0])) else (none)) else (some (x783000,x783001,0))
def psalteryref05_Put.f (k : Nat) (a0_0 : Int) (l0_1 : List Int) (a1 : Int) (a2 : Int) (a3 : Int) : Option (Int × List Int × Int):=(psalteryref05_Fair.f a1 a2 a3).bind fun t776=>(if t776=true then (if (l0_1.length : Int) ≥ 4000 then (some (a0_0,l0_1,3)) else ((psalteryref05_part.f a0_0 a1 a2 a3).bind fun bt777=>((psalteryref05_add.f k l0_1 bt777.2).bind fun t779=>(psalteryref05_Put.l0 k bt777.1 t779)))) else (some (a0_0,l0_1,1)))
theorem psalteryref05_Put.mono_l : ∀ k,(∀ y0 y1,LeO (psalteryref05_Put.l0 k y0 y1) (psalteryref05_Put.l0 (k+1) y0 y1))
 | 0=>fun _ _ r h=>by simp [psalteryref05_Put.l0] at h
 | k+1=>by
  have ih0:=psalteryref05_Put.mono_l k
  ·
   intro y0 y1
   unfold psalteryref05_Put.l0
   repeat' with_reducible first|apply ih0|apply psalteryref05_add.mono|apply yLr|apply yLn|apply yLi|apply yLb|intro _
theorem psalteryref05_Put.mono : ∀ a0 a1 a2 a3 a4 k,LeO (psalteryref05_Put.f k a0 a1 a2 a3 a4) (psalteryref05_Put.f (k+1) a0 a1 a2 a3 a4):=by
 intro a0 a1 a2 a3 a4 k
 have ih0:=psalteryref05_Put.mono_l k
 unfold psalteryref05_Put.f
 repeat' with_reducible first|apply ih0|apply psalteryref05_add.mono|apply yLr|apply yLn|apply yLi|apply yLb|intro _
set_option maxHeartbeats 8000000 in
set_option maxRecDepth 100000 in
theorem psalteryref05_Put.calls (k : Nat) (a0_0 : Int) (P0_1_ : Nat→Prop) (A0_1 : Option Addr) (c0_1 : Nat) (l0_1 : List Int) (a1 : Int) (a2 : Int) (a3 : Int) (r1 : Int) (r2 : List Int) (r3 : Int) (w : World) (hs0_1 : Kd.V (Kd.int .i64) 3 w w.heap.size (fun k_=>P0_1_ k_) (.slice A0_1 l0_1.length c0_1) l0_1) (h : psalteryref05_Put.f k a0_0 l0_1 a1 a2 a3=some (r1,r2,r3)) :
  Calls Try.prog 37 #[.agg #[.int .u64 a0_0, .slice A0_1 l0_1.length c0_1], .int .i64 a1, .int .i64 a2, .int .i64 a3] w fun e w' => ∃ v1_ : Value,e=.returned (.tuple #[.agg #[.int .u64 r1,v1_], .int .i64 r3])∧Kd.V (Kd.int .i64) 3 w' w.heap.size (fun k_=>(P0_1_ k_∨w.heap.size≤k_)) v1_ r2∧Below w.heap.size w w' := by
 have hu69:=Try.underlying69
 have HO0_1:=zm (show Kd.V (Kd.int .i64) 3 w w.heap.size (fun k_=>(P0_1_ k_∨w.heap.size≤k_)) (.slice A0_1 l0_1.length c0_1) l0_1 from zy hs0_1 (fun k_ hk => .inl hk))
 have HB:=zm (Below.refl w.heap.size w)
 have H : ((psalteryref05_Fair.f a1 a2 a3).bind fun t776=>(if t776=true then (if (l0_1.length : Int) ≥ 4000 then (some (a0_0,l0_1,3)) else ((psalteryref05_part.f a0_0 a1 a2 a3).bind fun bt777=>((psalteryref05_add.f k l0_1 bt777.2).bind fun t779=>(psalteryref05_Put.l0 k bt777.1 t779)))) else (some (a0_0,l0_1,1))))=some (r1,r2,r3):=h
 clear h
 obtain ⟨t776,A5,H⟩:=ybi H
 by_cases c6 : t776=true
 ·
  subst c6
  rw [if_pos rfl] at H
  by_cases c7 : (l0_1.length : Int) ≥ 4000
  ·
   rw [if_pos c7] at H
   have c7b0 : decide (4000≤(l0_1.length : Int))=true:=decide_eq_true c7
   have c7b1 : decide (4000≤l0_1.length)=true:=decide_eq_true (by omega)
   clear c7
   simp only [Option.some.injEq,Prod.mk.injEq] at H
   obtain ⟨rfl,rfl,rfl⟩:=H
   go_enter Try.func37,Try.ntmps37
   go_wp2_with (first|((with_reducible refine gate_dst (N:=4) rfl ?_);refine ybx 4 #[.int .u64 a0_0, .slice A0_1 l0_1.length c0_1] 69 ?_;intro gb774 hg w8 hbox hb;replace HO0_1:=yVe HO0_1 hg hb;have BK774:=zm (hbox);have GW774:=ygw hg;have GE774:=ygw hg;replace HB:=ybs hb;clear hb hbox hg)|((with_reducible refine gate_dst (N:=8) rfl ?_);refine ybx 8 #[.int .u64 0, .slice none 0 0] 69 ?_;intro gb775 hg w9 hbox hb;replace HO0_1:=yVe HO0_1 hg hb;have BK775:=zm (hbox);have GW775:=ygw hg;have GE775:=ygw hg;replace HB:=ybs hb;have NB774_775:=ynl BK774 hg;have NB775_774:=yng BK774 hg;replace BK774:=ybb BK774 hb;clear hb hbox hg)|((with_reducible refine gate_callee (f:=77) rfl ?_);refine ygl 16 Try.func77 #[.int .i64 a1, .int .i64 a2, .int .i64 a3] ?_;(with_reducible refine (psalteryref05_Fair.calls a1 a2 a3 true _ A5.out).mono ?_);rintro e w' ⟨rfl,⟨nd,rfl⟩⟩;refine ⟨_,rfl, ?_⟩;(try (rw [drewN_self w9];generalize hq_ : World.drewN w9 _=w9;have n0_ : Aside0 (Kd.V (Kd.int .i64) 3 w9 w.heap.size (fun k_=>(P0_1_ k_∨w.heap.size≤k_)∧k_≠gb774∧k_≠gb775) (.slice A0_1 l0_1.length c0_1) l0_1):=⟨by rw [← hq_];exact (yV0 HO0_1)⟩;have n1_ : Aside0 (w9.heap[gb774]? = some (.cells #[.int .u64 a0_0, .slice A0_1 l0_1.length c0_1] 69 (0,0))):=⟨by rw [← hq_];exact (yk BK774)⟩;have n2_ : Aside0 (w9.heap[gb775]? = some (.cells #[.int .u64 0, .slice none 0 0] 69 (0,0))):=⟨by rw [← hq_];exact (yk BK775)⟩;have n3_ : Aside0 (Below w.heap.size w w9):=⟨by rw [← hq_];exact yhb⟩;clear HO0_1 BK774 BK775 HB hq_;have HO0_1:=n0_;have BK774:=n1_;have BK775:=n2_;have HB:=n3_;clear n0_ n1_ n2_ n3_));have:=NB774_775.out;have:=NB775_774.out;obtain ⟨hcz11_0,hcz11_1,hfz11_0,hfz11_1⟩:=yc2 BK774;obtain ⟨hcz12_0,hcz12_1,hfz12_0,hfz12_1⟩:=yc2 BK775))
   refine bodyPost_ret (results_ct rfl _ _ gb775 69 #[.int .u64 a0_0, .slice A0_1 l0_1.length c0_1] (0,0) _ rfl (ykp BK775) Try.underlying69 rfl (by kernel_rfl)) rfl ?_
   exact ⟨_,ye,yV0 HO0_1,yhb⟩
  ·
   rw [if_neg c7] at H
   have c7b0 : decide (4000≤(l0_1.length : Int))=false:=decide_eq_false c7
   have c7b1 : decide (4000≤l0_1.length)=false:=decide_eq_false (by omega)
   clear c7
   obtain ⟨⟨t777,t778⟩,A13,H⟩:=ybi H
   try dsimp only at H
   obtain ⟨t779,A14,H⟩:=ybi H
   have H' := zm H
   clear H
   go_enter Try.func37,Try.ntmps37
   go_wp2_with (first|((with_reducible refine gate_dst (N:=4) rfl ?_);refine ybx 4 #[.int .u64 a0_0, .slice A0_1 l0_1.length c0_1] 69 ?_;intro gb774 hg w15 hbox hb;replace HO0_1:=yVe HO0_1 hg hb;have BK774:=zm (hbox);have GW774:=ygw hg;have GE774:=ygw hg;replace HB:=ybs hb;clear hb hbox hg)|((with_reducible refine gate_dst (N:=8) rfl ?_);refine ybx 8 #[.int .u64 0, .slice none 0 0] 69 ?_;intro gb775 hg w16 hbox hb;replace HO0_1:=yVe HO0_1 hg hb;have BK775:=zm (hbox);have GW775:=ygw hg;have GE775:=ygw hg;replace HB:=ybs hb;have NB774_775:=ynl BK774 hg;have NB775_774:=yng BK774 hg;replace BK774:=ybb BK774 hb;clear hb hbox hg)|((with_reducible refine gate_callee (f:=77) rfl ?_);refine ygl 16 Try.func77 #[.int .i64 a1, .int .i64 a2, .int .i64 a3] ?_;(with_reducible refine (psalteryref05_Fair.calls a1 a2 a3 true _ A5.out).mono ?_);rintro e w' ⟨rfl,⟨nd,rfl⟩⟩;refine ⟨_,rfl, ?_⟩;(try (rw [drewN_self w16];generalize hq_ : World.drewN w16 _=w16;have n0_ : Aside0 (Kd.V (Kd.int .i64) 3 w16 w.heap.size (fun k_=>(P0_1_ k_∨w.heap.size≤k_)∧k_≠gb774∧k_≠gb775) (.slice A0_1 l0_1.length c0_1) l0_1):=⟨by rw [← hq_];exact (yV0 HO0_1)⟩;have n1_ : Aside0 (w16.heap[gb774]? = some (.cells #[.int .u64 a0_0, .slice A0_1 l0_1.length c0_1] 69 (0,0))):=⟨by rw [← hq_];exact (yk BK774)⟩;have n2_ : Aside0 (w16.heap[gb775]? = some (.cells #[.int .u64 0, .slice none 0 0] 69 (0,0))):=⟨by rw [← hq_];exact (yk BK775)⟩;have n3_ : Aside0 (Below w.heap.size w w16):=⟨by rw [← hq_];exact yhb⟩;clear HO0_1 BK774 BK775 HB hq_;have HO0_1:=n0_;have BK774:=n1_;have BK775:=n2_;have HB:=n3_;clear n0_ n1_ n2_ n3_));have:=NB774_775.out;have:=NB775_774.out;obtain ⟨hcz18_0,hcz18_1,hfz18_0,hfz18_1⟩:=yc2 BK774)|((with_reducible refine gate_callee (f:=78) rfl ?_);refine ygl 30 Try.func78 #[.int .u64 a0_0, .int .i64 a1, .int .i64 a2, .int .i64 a3] ?_;(with_reducible refine (psalteryref05_part.calls a0_0 a1 a2 a3 t777 t778 _ A13.out).mono ?_);rintro e w' ⟨rfl,⟨nd,rfl⟩⟩;refine ⟨_,rfl, ?_⟩;(try (rw [drewN_self w16];generalize hq_ : World.drewN w16 _=w16;have n0_ : Aside0 (Kd.V (Kd.int .i64) 3 w16 w.heap.size (fun k_=>(P0_1_ k_∨w.heap.size≤k_)∧k_≠gb774∧k_≠gb775) (.slice A0_1 l0_1.length c0_1) l0_1):=⟨by rw [← hq_];exact (yV0 HO0_1)⟩;have n1_ : Aside0 (w16.heap[gb774]? = some (.cells #[.int .u64 a0_0, .slice A0_1 l0_1.length c0_1] 69 (0,0))):=⟨by rw [← hq_];exact (yk BK774)⟩;have n2_ : Aside0 (w16.heap[gb775]? = some (.cells #[.int .u64 0, .slice none 0 0] 69 (0,0))):=⟨by rw [← hq_];exact (yk BK775)⟩;have n3_ : Aside0 (Below w.heap.size w w16):=⟨by rw [← hq_];exact yhb⟩;clear HO0_1 BK774 BK775 HB hq_;have HO0_1:=n0_;have BK774:=n1_;have BK775:=n2_;have HB:=n3_;clear n0_ n1_ n2_ n3_));obtain ⟨hcz19_0,hcz19_1,hfz19_0,hfz19_1⟩:=yc2 BK774)|((with_reducible refine gate_callee (f:=79) rfl ?_);refine ygl 37 Try.func79 #[.slice A0_1 l0_1.length c0_1, .int .u64 t778] ?_;(with_reducible refine (psalteryref05_add.calls k _ _ l0_1 t778 t779 _ ?side1 ?side2 A14.out).mono ?_);(case side1=>exact yce (Kd.V_reads' HO0_1.out).2.2);(case side2=>exact (Kd.V_reads' HO0_1.out).2.1);rintro e w20 ⟨v780,rfl,ho0,hb⟩;refine ⟨_,rfl, ?_⟩;replace HO0_1:=zm (Kd.V_elder' (yr HO0_1) (Kd.R_base ho0) hb);have HO781:=zm (Kd.R_lower (Kd.R_newM (M:=fun k_=>(w.heap.size≤k_)) ho0 (zE yhb) (fun k_ h_=>h_)) (zE yhb));replace BK774:=ybb BK774 hb;replace BK775:=ybb BK775 hb;replace HB:=ybs hb;(try clear hb);(try clear ho0);obtain ⟨Ao21,co21,eo21⟩:=Kd.R_slice HO781.out;subst eo21)|((with_reducible refine gate_dst (N:=12) rfl ?_);refine ybx 12 #[.int .u64 0, .slice none 0 0] 69 ?_;intro gb782 hg w22 hbox hb;replace HO0_1:=yVe HO0_1 hg hb;replace HO781:=yRb HO781 hb;have BK782:=zm (hbox);have GW782:=ygw hg;have GE782:=ygw hg;replace HB:=ybs hb;have NB774_782:=ynl BK774 hg;have NB782_774:=yng BK774 hg;replace BK774:=ybb BK774 hb;have NB775_782:=ynl BK775 hg;have NB782_775:=yng BK775 hg;replace BK775:=ybb BK775 hb;clear hb hbox hg;have:=NB782_774.out;have:=NB774_782.out;have:=NB782_775.out;have:=NB775_782.out;obtain ⟨hcz25_0,hcz25_1,hfz25_0,hfz25_1⟩:=yc2 BK782))
   go_loopg [] k (fun kq w' => ∃ (x783000_1 : Int) (x783001_1 : List Int) (u783001 : Value),Aside0 (psalteryref05_Put.l0 kq x783000_1 x783001_1=some (r1,r2,r3))∧Aside0 (kq≤k)∧Aside0 (Kd.V (Kd.int .i64) 3 w' w.heap.size (fun k_=>(P0_1_ k_∨w.heap.size≤k_)∧some k_≠(u783001 : Value).ownBlock∧k_≠gb774∧k_≠gb775∧k_≠gb782) (.slice A0_1 l0_1.length c0_1) l0_1)∧Aside0 (Kd.R (Kd.int .i64) 3 w' w.heap.size (fun k_=>(w.heap.size≤k_)) u783001 x783001_1)∧Aside0 (w'.heap[gb774]? = some (.cells #[.int .u64 a0_0,(.slice A0_1 l0_1.length c0_1)] 69 (0,0)))∧Aside0 (w'.heap[gb775]? = some (.cells #[.int .u64 0,(.slice none 0 0)] 69 (0,0)))∧Aside0 (w'.heap[gb782]? = some (.cells #[.int .u64 x783000_1,u783001] 69 (0,0)))∧Aside0 (Below w.heap.size w w'))
   case atStart=>exact ⟨(t777),(t779),(.slice Ao21 t779.length co21),H',⟨Nat.le_refl _⟩,⟨yV0 HO0_1⟩,⟨yR1 HO781 BK782⟩,⟨yk BK774⟩,⟨yk BK775⟩,⟨ykp BK782⟩,⟨yhb⟩⟩
   case round =>
    clear H'
    try clear c7b0
    try clear c7b1
    try clear hcz11_0
    try clear hcz11_1
    try clear hcz12_0
    try clear hcz12_1
    try clear hcz18_0
    try clear hcz18_1
    try clear hcz19_0
    try clear hcz19_1
    try clear hcz25_0
    try clear hcz25_1
    try clear hfz11_0
    try clear hfz11_1
    try clear hfz12_0
    try clear hfz12_1
    try clear hfz18_0
    try clear hfz18_1
    try clear hfz19_0
    try clear hfz19_1
    try clear hfz25_0
    try clear hfz25_1
    obtain ⟨x783000_1,x783001_1,u783001,HA,HK1,HO_775001,HO_783001,BK774,BK775,BK782,HB⟩:=hrel
    obtain ⟨k1,rfl⟩:=ysu gk (fun h=>by subst h;exact absurd HA.out (by simp [psalteryref05_Put.l0]))
    have H:=HA.out;clear HA
    simp only [psalteryref05_Put.l0] at H
    by_cases c26 : x783000_1 < 16777216
    ·
     rw [if_pos c26] at H
     have c26b0 : decide (x783000_1 < 16777216)=true:=decide_eq_true c26
     clear c26
     obtain ⟨c27,H⟩:=yif H
     have LMc27:=zm c27;clear c27
     obtain ⟨y783,hy783⟩ : ∃ y_ : List Int,y_=(x783001_1 ++ [0]):=⟨_,rfl⟩
     replace H : (psalteryref05_Put.l0 k1 (IntKind.u64.wrap (x783000_1 * 256)) y783)=some (r1,r2,r3):=yrw hy783 H
     have Ny783:=zm hy783;clear hy783
     have H' := zm H
     clear H
     have:=NB782_774.out
     have:=NB774_782.out
     have:=NB782_775.out
     have:=NB775_782.out
     obtain ⟨_,_,_,_⟩:=yc2 BK782
     go_wp2_with (first|((with_reducible refine gate_builtin (b:=.append) (xs := #[.tmp 47, .tmp 48]) rfl ?_);at_builtin;refine Kd.R_append (Kd.int .i64) (w0:=w) w.heap.size rfl (.tmp 47) (.tmp 48) 49 3 (.int .i64 0) 8 rfl Try.underlying49 info3 rfl (by decide) (by omega) u783001 x783001_1 0 [.int .i64 0] (fun k_=>(w.heap.size≤k_)) (fun _=>False) rfl (by first|(go_simp;done)|(go_simp;rfl)) ?aP (fun _ hk=>hk.elim) ?aF ?aO ?aB ?aS ?aL ?_;(case aP=>exact rfl);(case aB=>exact yhb);(case aF=>exact (fun k_ hk=>(Nat.le_trans (zE yhb) hk)));(case aO=>exact (yR1 HO_783001 BK782));(case aS=>exact (zE yhb));(case aL=>have:=LMc27.out;omega);intro v784 w31 ho hb hg hat;rw [← Ny783.out] at ho;replace HO_775001:=zm (Kd.V_afterv (ok:=(fun k_=>(P0_1_ k_∨w.heap.size≤k_)∧k_≠gb774∧k_≠gb775∧k_≠gb782)) (yV0 HO_775001) hg hat);replace BK774:=zm (blk_grown (yk BK774) hg (zu HO_783001.out BK774.out (by decide)));replace BK775:=zm (blk_grown (yk BK775) hg (zu HO_783001.out BK775.out (by decide)));replace BK782:=zm (blk_grown (g:=gb782) (o:=.cells #[.int .u64 (IntKind.u64.wrap (x783000_1 * 256)),u783001] 69 (0,0)) (ykp BK782) hg (zu HO_783001.out BK782.out (by decide)));replace HB:=zm (hb);have HO785:=zm (ho);clear HO_783001;clear ho hb hg hat;obtain ⟨Ao32,co32,eo32⟩:=Kd.R_slice HO785.out;subst eo32;obtain ⟨_,_,_,_⟩:=yc2 BK782))
     go_roundg k1
     case measure=>exact yom1 HK1
     case rel=>exact ⟨(IntKind.u64.wrap (x783000_1 * 256)),(y783),(.slice Ao32 y783.length co32),H',⟨yom1 HK1⟩,⟨yV0 HO_775001⟩,⟨yR1 HO785 BK782⟩,⟨yk BK774⟩,⟨yk BK775⟩,⟨ykp BK782⟩,⟨yhb⟩⟩
    ·
     rw [if_neg c26] at H
     have c26b0 : decide (x783000_1 < 16777216)=false:=decide_eq_false c26
     clear c26
     simp only [Option.some.injEq,Prod.mk.injEq] at H
     obtain ⟨rfl,rfl,rfl⟩:=H
     have:=NB782_774.out
     have:=NB774_782.out
     have:=NB782_775.out
     have:=NB775_782.out
     obtain ⟨_,_,_,_⟩:=yc2 BK782
     have:=NB775_774.out
     have:=NB774_775.out
     obtain ⟨_,_,_,_⟩:=yc2 BK775
     obtain ⟨Ao39,co39,eo39⟩:=Kd.R_slice HO_783001.out
     subst eo39
     go_wp2
     refine bodyPost_ret (results_ct rfl _ _ gb775 69 #[.int .u64 x783000_1, .slice Ao39 x783001_1.length co39] (0,0) _ rfl (ykp BK775) Try.underlying69 rfl (by kernel_rfl)) rfl ?_
     exact ⟨_,ye,zy (Kd.R_V (by (with_reducible repeat (first|apply zo|apply zp|apply zq));exact zG (zH (p:=⟨gb775,1,none⟩) (zH (p:=⟨gb775,0,none⟩) (Kd.R_types HO_783001.out BK775.out (by decide)) (fun _ hk=>hk.2) (.int .u64 x783000_1)) (fun _ hk=>hk.2) (.slice Ao39 x783001_1.length co39)) (fun _ hk=>(by first|exact hk.1|(have h_:=hk;(try simp only [and_assoc] at h_);first|exact h_.1|exact h_.2|exact h_.2.1|exact h_.2.2|exact h_.2.2.1|exact h_.2.2.2|exact h_.2.2.2.1|exact h_.2.2.2.2))))) (fun k_ hk=>by first|exact ⟨(.inr (hk.1)),hk.2⟩|exact (.inr (hk))),yhb⟩
 ·
  replace c6:=Bool.eq_false_iff.mpr c6
  subst c6
  rw [ynf] at H
  simp only [Option.some.injEq,Prod.mk.injEq] at H
  obtain ⟨rfl,rfl,rfl⟩:=H
  go_enter Try.func37,Try.ntmps37
  go_wp2_with (first|((with_reducible refine gate_dst (N:=4) rfl ?_);refine ybx 4 #[.int .u64 a0_0, .slice A0_1 l0_1.length c0_1] 69 ?_;intro gb774 hg w40 hbox hb;replace HO0_1:=yVe HO0_1 hg hb;have BK774:=zm (hbox);have GW774:=ygw hg;have GE774:=ygw hg;replace HB:=ybs hb;clear hb hbox hg)|((with_reducible refine gate_dst (N:=8) rfl ?_);refine ybx 8 #[.int .u64 0, .slice none 0 0] 69 ?_;intro gb775 hg w41 hbox hb;replace HO0_1:=yVe HO0_1 hg hb;have BK775:=zm (hbox);have GW775:=ygw hg;have GE775:=ygw hg;replace HB:=ybs hb;have NB774_775:=ynl BK774 hg;have NB775_774:=yng BK774 hg;replace BK774:=ybb BK774 hb;clear hb hbox hg)|((with_reducible refine gate_callee (f:=77) rfl ?_);refine ygl 16 Try.func77 #[.int .i64 a1, .int .i64 a2, .int .i64 a3] ?_;(with_reducible refine (psalteryref05_Fair.calls a1 a2 a3 false _ A5.out).mono ?_);rintro e w' ⟨rfl,⟨nd,rfl⟩⟩;refine ⟨_,rfl, ?_⟩;(try (rw [drewN_self w41];generalize hq_ : World.drewN w41 _=w41;have n0_ : Aside0 (Kd.V (Kd.int .i64) 3 w41 w.heap.size (fun k_=>(P0_1_ k_∨w.heap.size≤k_)∧k_≠gb774∧k_≠gb775) (.slice A0_1 l0_1.length c0_1) l0_1):=⟨by rw [← hq_];exact (yV0 HO0_1)⟩;have n1_ : Aside0 (w41.heap[gb774]? = some (.cells #[.int .u64 a0_0, .slice A0_1 l0_1.length c0_1] 69 (0,0))):=⟨by rw [← hq_];exact (yk BK774)⟩;have n2_ : Aside0 (w41.heap[gb775]? = some (.cells #[.int .u64 0, .slice none 0 0] 69 (0,0))):=⟨by rw [← hq_];exact (yk BK775)⟩;have n3_ : Aside0 (Below w.heap.size w w41):=⟨by rw [← hq_];exact yhb⟩;clear HO0_1 BK774 BK775 HB hq_;have HO0_1:=n0_;have BK774:=n1_;have BK775:=n2_;have HB:=n3_;clear n0_ n1_ n2_ n3_));have:=NB774_775.out;have:=NB775_774.out;obtain ⟨_,_,_,_⟩:=yc2 BK774;obtain ⟨_,_,_,_⟩:=yc2 BK775))
  refine bodyPost_ret (results_ct rfl _ _ gb775 69 #[.int .u64 a0_0, .slice A0_1 l0_1.length c0_1] (0,0) _ rfl (ykp BK775) Try.underlying69 rfl (by kernel_rfl)) rfl ?_
  exact ⟨_,ye,yV0 HO0_1,yhb⟩
def psalteryref05_PutNum.j0 : Nat→Int→Int→Bool→Int→List Int→Option (Int × List Int × Int)
 | 0,_,_,_,_,_=>none
 | k+1,x1,x2,x22,x787000,x787001=>if x22=true then (some (x787000,x787001,1)) else (if x2≤65536 then ((psalteryref05_Put.f k x787000 x787001 (wrap64 (x1)) (wrap64 ((wrap64 (x1))+1)) (wrap64 (x2))).bind fun bt788=>(some (bt788.1,bt788.2.1,bt788.2.2))) else ((psalteryref05_Put.f k x787000 x787001 (wrap64 (IntKind.u64.wrap (Int.tdiv x1 65536))) (wrap64 ((wrap64 (IntKind.u64.wrap (Int.tdiv x1 65536)))+1)) (wrap64 ((wrap64 (IntKind.u64.wrap (Int.tdiv (IntKind.u64.wrap (x2 - 1)) 65536)))+1))).bind fun bt793=>(if bt793.2.2=0 then ((psalteryref05_Put.f k bt793.1 bt793.2.1 (wrap64 (Int.tmod x1 65536)) (wrap64 ((wrap64 (Int.tmod x1 65536))+1)) 65536).bind fun bt799=>(if bt799.2.2=0 then (some (bt799.1,bt799.2.1,0)) else (some (x787000,x787001,bt799.2.2)))) else (some (x787000,x787001,bt793.2.2)))))
def psalteryref05_PutNum.f (k : Nat) (a0_0 : Int) (l0_1 : List Int) (a1 : Int) (a2 : Int) : Option (Int × List Int × Int):=if a2=0 then (psalteryref05_PutNum.j0 k a1 a2 true a0_0 l0_1) else (if a2 > 4294967296 then (psalteryref05_PutNum.j0 k a1 a2 true a0_0 l0_1) else (psalteryref05_PutNum.j0 k a1 a2 (decide (a1 ≥ a2)) a0_0 l0_1))
theorem psalteryref05_PutNum.mono_l : ∀ k,(∀ y0 y1 y2 y3 y4,LeO (psalteryref05_PutNum.j0 k y0 y1 y2 y3 y4) (psalteryref05_PutNum.j0 (k+1) y0 y1 y2 y3 y4))
 | 0=>fun _ _ _ _ _ r h=>by simp [psalteryref05_PutNum.j0] at h
 | k+1=>by
  have ih0:=psalteryref05_PutNum.mono_l k
  ·
   intro y0 y1 y2 y3 y4
   unfold psalteryref05_PutNum.j0
   repeat' with_reducible first|apply ih0|apply psalteryref05_Put.mono|apply yLr|apply yLn|apply yLi|apply yLb|intro _
theorem psalteryref05_PutNum.mono : ∀ a0 a1 a2 a3 k,LeO (psalteryref05_PutNum.f k a0 a1 a2 a3) (psalteryref05_PutNum.f (k+1) a0 a1 a2 a3):=by
 intro a0 a1 a2 a3 k
 have ih0:=psalteryref05_PutNum.mono_l k
 unfold psalteryref05_PutNum.f
 repeat' with_reducible first|apply ih0|apply psalteryref05_Put.mono|apply yLr|apply yLn|apply yLi|apply yLb|intro _
set_option maxHeartbeats 8000000 in
set_option maxRecDepth 100000 in
theorem psalteryref05_PutNum.calls (k : Nat) (a0_0 : Int) (P0_1_ : Nat→Prop) (A0_1 : Option Addr) (c0_1 : Nat) (l0_1 : List Int) (a1 : Int) (a2 : Int) (r1 : Int) (r2 : List Int) (r3 : Int) (w : World) (hs0_1 : Kd.V (Kd.int .i64) 3 w w.heap.size (fun k_=>P0_1_ k_) (.slice A0_1 l0_1.length c0_1) l0_1) (h : psalteryref05_PutNum.f k a0_0 l0_1 a1 a2=some (r1,r2,r3)) :
  Calls Try.prog 41 #[.agg #[.int .u64 a0_0, .slice A0_1 l0_1.length c0_1], .int .u64 a1, .int .u64 a2] w fun e w' => ∃ v1_ : Value,e=.returned (.tuple #[.agg #[.int .u64 r1,v1_], .int .i64 r3])∧Kd.V (Kd.int .i64) 3 w' w.heap.size (fun k_=>(P0_1_ k_∨w.heap.size≤k_)) v1_ r2∧Below w.heap.size w w' := by
 have hu69:=Try.underlying69
 have HO0_1:=zm (show Kd.V (Kd.int .i64) 3 w w.heap.size (fun k_=>(P0_1_ k_∨w.heap.size≤k_)) (.slice A0_1 l0_1.length c0_1) l0_1 from zy hs0_1 (fun k_ hk => .inl hk))
 have HB:=zm (Below.refl w.heap.size w)
 have H : (if a2=0 then (psalteryref05_PutNum.j0 k a1 a2 true a0_0 l0_1) else (if a2 > 4294967296 then (psalteryref05_PutNum.j0 k a1 a2 true a0_0 l0_1) else (psalteryref05_PutNum.j0 k a1 a2 (decide (a1 ≥ a2)) a0_0 l0_1)))=some (r1,r2,r3):=h
 clear h;have HC4:=zm H;clear H
 go_enter Try.func41,Try.ntmps41
 go_upto_region 1 with (first|((with_reducible refine gate_dst (N:=3) rfl ?_);refine ybx 3 #[.int .u64 a0_0, .slice A0_1 l0_1.length c0_1] 69 ?_;intro gb786 hg w5 hbox hb;replace HO0_1:=yVe HO0_1 hg hb;have BK786:=zm (hbox);have GW786:=ygw hg;have GE786:=ygw hg;replace HB:=ybs hb;clear hb hbox hg)|((with_reducible refine gate_dst (N:=6) rfl ?_);refine ybx 6 #[.int .u64 0, .slice none 0 0] 69 ?_;intro gb787 hg w6 hbox hb;replace HO0_1:=yVe HO0_1 hg hb;have BK787:=zm (hbox);have GW787:=ygw hg;have GE787:=ygw hg;replace HB:=ybs hb;have NB786_787:=ynl BK786 hg;have NB787_786:=yng BK786 hg;replace BK786:=ybb BK786 hb;clear hb hbox hg))
 (try simp only [Act.put,List.setIfInBounds_toArray,List.set_cons_zero,List.set_cons_succ])
 go_cut [22] (fun v22 wc => ∃ (kq : Nat) (x22_3 : Bool),v22=.bool x22_3∧Aside0 (psalteryref05_PutNum.j0 kq a1 a2 x22_3 a0_0 l0_1=some (r1,r2,r3))∧Aside0 (kq≤k)∧Aside0 (Kd.V (Kd.int .i64) 3 wc w.heap.size (fun k_=>(P0_1_ k_∨w.heap.size≤k_)∧k_≠gb786∧k_≠gb787) (.slice A0_1 l0_1.length c0_1) l0_1)∧Aside0 (wc.heap[gb786]? = some (.cells #[.int .u64 a0_0,(.slice A0_1 l0_1.length c0_1)] 69 (0,0)))∧Aside0 (wc.heap[gb787]? = some (.cells #[.int .u64 0,(.slice none 0 0)] 69 (0,0)))∧Aside0 (Below w.heap.size w wc))
 case first =>
  have H:=HC4.out;clear HC4
  by_cases c7 : a2=0
  ·
   rw [if_pos c7] at H
   have c7b0 : (a2 == 0)=true:=beq_iff_eq.mpr c7
   have c7b1 : (a2 != 0)=false:=bne_eq_false_iff_eq.mpr c7
   clear c7
   (first|rw [c7b0]|(simp only [i64_w,i32_w];rw [c7b0])|skip)
   have H' := zm H
   clear H
   go_wp2
   go_meet
   case rel=>exact ⟨_,(true),yq,H',⟨yo⟩,⟨yV0 HO0_1⟩,⟨yk BK786⟩,⟨yk BK787⟩,⟨yhb⟩⟩
  ·
   rw [if_neg c7] at H
   have c7b0 : (a2 == 0)=false:=beq_eq_false_iff_ne.mpr c7
   have c7b1 : (a2 != 0)=true:=bne_iff_ne.mpr c7
   (first|rw [c7b0]|(simp only [i64_w,i32_w];rw [c7b0])|skip)
   by_cases c8 : a2 > 4294967296
   ·
    rw [if_pos c8] at H
    have c8b0 : decide (4294967296 < a2)=true:=decide_eq_true c8
    clear c8
    have H' := zm H
    clear H
    go_wp2
    go_meet
    case rel=>exact ⟨_,(true),yq,H',⟨yo⟩,⟨yV0 HO0_1⟩,⟨yk BK786⟩,⟨yk BK787⟩,⟨yhb⟩⟩
   ·
    rw [if_neg c8] at H
    have c8b0 : decide (4294967296 < a2)=false:=decide_eq_false c8
    clear c8
    have H' := zm H
    clear H
    go_wp2
    go_meet
    case rel=>exact ⟨_,(decide (a1 ≥ a2)),yq,H',⟨yo⟩,⟨yV0 HO0_1⟩,⟨yk BK786⟩,⟨yk BK787⟩,⟨yhb⟩⟩
 case rest =>
  clear HC4
  obtain ⟨kq,x22_3,rfl,HA,HJ3,HO_787001,BK786,BK787,HB⟩:=hcut
  obtain ⟨kj3,rfl⟩:=ysu kq (fun h=>by subst h;exact absurd HA.out (by simp [psalteryref05_PutNum.j0]))
  have H:=HA.out;clear HA
  simp only [psalteryref05_PutNum.j0] at H
  by_cases c9 : x22_3=true
  ·
   subst c9
   rw [if_pos rfl] at H
   simp only [Option.some.injEq,Prod.mk.injEq] at H
   obtain ⟨rfl,rfl,rfl⟩:=H
   have:=NB786_787.out
   have:=NB787_786.out
   obtain ⟨_,_,_,_⟩:=yc2 BK786
   obtain ⟨_,_,_,_⟩:=yc2 BK787
   go_wp2
   refine bodyPost_ret (results_ct rfl _ _ gb787 69 #[.int .u64 a0_0, .slice A0_1 l0_1.length c0_1] (0,0) _ rfl (ykp BK787) Try.underlying69 rfl (by kernel_rfl)) rfl ?_
   exact ⟨_,ye,yV0 HO_787001,yhb⟩
  ·
   replace c9:=Bool.eq_false_iff.mpr c9
   subst c9
   rw [ynf] at H
   by_cases c13 : a2≤65536
   ·
    rw [if_pos c13] at H
    have c13b0 : decide (a2≤65536)=true:=decide_eq_true c13
    clear c13
    obtain ⟨⟨t788,t789,t792⟩,A14,H⟩:=ybi H
    try dsimp only at H
    simp only [Option.some.injEq,Prod.mk.injEq] at H
    obtain ⟨rfl,rfl,rfl⟩:=H
    have:=NB786_787.out
    have:=NB787_786.out
    obtain ⟨_,_,_,_⟩:=yc2 BK786
    go_wp2_with (first|((with_reducible refine gate_callee (f:=37) rfl ?_);refine ygl 34 Try.func37 #[.agg #[.int .u64 a0_0, .slice A0_1 l0_1.length c0_1], .int .i64 (wrap64 (a1)), .int .i64 (wrap64 ((wrap64 (a1))+1)), .int .i64 (wrap64 (a2))] ?_;(with_reducible refine (psalteryref05_Put.calls kj3 a0_0 (fun k_=>((P0_1_ k_∨w.heap.size≤k_)∧(k_≠gb786∧k_≠gb787))) _ _ l0_1 (wrap64 (a1)) (wrap64 ((wrap64 (a1))+1)) (wrap64 (a2)) t788 t789 t792 _ HO_787001.out A14.out).mono ?_);rintro e w17 ⟨v790,rfl,ho0,hb⟩;refine ⟨_,rfl, ?_⟩;replace HO_787001:=yVb HO_787001 hb;have HO791:=yho (fun k_=>(P0_1_ k_∨w.heap.size≤k_)∧k_≠gb786∧k_≠gb787) ho0 (fun k_ hk_=>⟨Or.elim hk_ (fun hs_=>hs_.1) (fun hn_=>(.inr (Nat.le_trans (zE yhb) hn_))),yoB BK786 hk_,yoB BK787 hk_⟩);replace BK786:=ybb BK786 hb;replace BK787:=ybb BK787 hb;replace HB:=ybs hb;(try clear hb);(try clear ho0);obtain ⟨_,_,_,_⟩:=yc2 BK787;obtain ⟨Ao19,co19,eo19⟩:=Kd.V_slice HO791.out;subst eo19))
    refine bodyPost_ret (results_ct rfl _ _ gb787 69 #[.int .u64 t788, .slice Ao19 t789.length co19] (0,0) _ rfl (ykp BK787) Try.underlying69 rfl (by kernel_rfl)) rfl ?_
    exact ⟨_,ye,yV0 HO791,yhb⟩
   ·
    rw [if_neg c13] at H
    have c13b0 : decide (a2≤65536)=false:=decide_eq_false c13
    clear c13
    obtain ⟨⟨t793,t794,t797⟩,A20,H⟩:=ybi H
    try dsimp only at H
    by_cases c21 : t797=0
    ·
     rw [if_pos c21] at H
     have c21b0 : (t797 == 0)=true:=beq_iff_eq.mpr c21
     have c21b1 : (t797 != 0)=false:=bne_eq_false_iff_eq.mpr c21
     clear c21
     obtain ⟨⟨t799,t800,t803⟩,A22,H⟩:=ybi H
     try dsimp only at H
     by_cases c23 : t803=0
     ·
      rw [if_pos c23] at H
      have c23b0 : (t803 == 0)=true:=beq_iff_eq.mpr c23
      have c23b1 : (t803 != 0)=false:=bne_eq_false_iff_eq.mpr c23
      clear c23
      simp only [Option.some.injEq,Prod.mk.injEq] at H
      obtain ⟨rfl,rfl,rfl⟩:=H
      have:=NB786_787.out
      have:=NB787_786.out
      obtain ⟨_,_,_,_⟩:=yc2 BK786
      go_wp2_with (first|((with_reducible refine gate_callee (f:=37) rfl ?_);refine ygl 51 Try.func37 #[.agg #[.int .u64 a0_0, .slice A0_1 l0_1.length c0_1], .int .i64 (wrap64 (IntKind.u64.wrap (Int.tdiv a1 65536))), .int .i64 (wrap64 ((wrap64 (IntKind.u64.wrap (Int.tdiv a1 65536)))+1)), .int .i64 (wrap64 ((wrap64 (IntKind.u64.wrap (Int.tdiv (IntKind.u64.wrap (a2 - 1)) 65536)))+1))] ?_;(with_reducible refine (psalteryref05_Put.calls kj3 a0_0 (fun k_=>((P0_1_ k_∨w.heap.size≤k_)∧(k_≠gb786∧k_≠gb787))) _ _ l0_1 (wrap64 (IntKind.u64.wrap (Int.tdiv a1 65536))) (wrap64 ((wrap64 (IntKind.u64.wrap (Int.tdiv a1 65536)))+1)) (wrap64 ((wrap64 (IntKind.u64.wrap (Int.tdiv (IntKind.u64.wrap (a2 - 1)) 65536)))+1)) t793 t794 t797 _ HO_787001.out A20.out).mono ?_);rintro e w26 ⟨v795,rfl,ho0,hb⟩;refine ⟨_,rfl, ?_⟩;replace HO_787001:=yVb HO_787001 hb;have HO796:=yho (fun k_=>(P0_1_ k_∨w.heap.size≤k_)∧k_≠gb786∧k_≠gb787) ho0 (fun k_ hk_=>⟨Or.elim hk_ (fun hs_=>hs_.1) (fun hn_=>(.inr (Nat.le_trans (zE yhb) hn_))),yoB BK786 hk_,yoB BK787 hk_⟩);replace BK786:=ybb BK786 hb;replace BK787:=ybb BK787 hb;replace HB:=ybs hb;(try clear hb);(try clear ho0))|((with_reducible refine gate_dst (N:=8) rfl ?_);refine ybx 8 #[.int .u64 0, .slice none 0 0] 69 ?_;intro gb798 hg w27 hbox hb;replace HO_787001:=yVe HO_787001 hg hb;replace HO796:=yVe HO796 hg hb;have BK798:=zm (hbox);have GW798:=ygw hg;have GE798:=ygw hg;replace HB:=ybs hb;have NB786_798:=ynl BK786 hg;have NB798_786:=yng BK786 hg;replace BK786:=ybb BK786 hb;have NB787_798:=ynl BK787 hg;have NB798_787:=yng BK787 hg;replace BK787:=ybb BK787 hb;clear hb hbox hg;have:=NB798_786.out;have:=NB786_798.out;have:=NB798_787.out;have:=NB787_798.out;obtain ⟨_,_,_,_⟩:=yc2 BK798;obtain ⟨Ao31,co31,eo31⟩:=Kd.V_slice HO796.out;subst eo31)|((with_reducible refine gate_store (t:=69) (p:=8) rfl ?_);refine store_event (t:=69) (p:=8) (v := ?vo_w32) (w1:=((w27.setCell ⟨gb798,0,none⟩ (.int .u64 t793)).setCell ⟨gb798,1,none⟩ (.slice Ao31 t794.length co31))) ?hg ?ho ?hn ?hr ?_;(case ho=>rfl);(case hg=>rfl);(case hn=>rfl);(case hr=>first|(go_simp;done)|(go_simp;rfl));intro w32 hw;replace HO_787001 : Aside0 (Kd.V (Kd.int .i64) 3 w32 w.heap.size (fun k_=>(P0_1_ k_∨w.heap.size≤k_)∧k_≠gb786∧k_≠gb787∧k_≠gb798) (.slice A0_1 l0_1.length c0_1) l0_1):=⟨(by rw [hw];exact (yV0 HO_787001))⟩;replace HO796 : Aside0 (Kd.V (Kd.int .i64) 3 w32 w.heap.size (fun k_=>(P0_1_ k_∨w.heap.size≤k_)∧k_≠gb786∧k_≠gb787∧k_≠gb798) (.slice Ao31 t794.length co31) t794):=⟨(by rw [hw];exact (yV0 HO796))⟩;replace BK786 : Aside0 (w32.heap[gb786]? = some (.cells #[.int .u64 a0_0, .slice A0_1 l0_1.length c0_1] 69 (0,0))):=⟨(by rw [hw];exact (yk BK786))⟩;replace BK787 : Aside0 (w32.heap[gb787]? = some (.cells #[.int .u64 0, .slice none 0 0] 69 (0,0))):=⟨(by rw [hw];exact (yk BK787))⟩;replace BK798 : Aside0 (w32.heap[gb798]? = some (.cells #[.int .u64 t793, .slice Ao31 t794.length co31] 69 (0,0))):=⟨(by rw [hw];exact (ykp BK798))⟩;replace HB : Aside0 (Below w.heap.size w w32):=⟨(by rw [hw];exact yhb)⟩;clear hw;obtain ⟨_,_,_,_⟩:=yc2 BK798)|((with_reducible refine gate_callee (f:=37) rfl ?_);refine ygl 67 Try.func37 #[.agg #[.int .u64 t793, .slice Ao31 t794.length co31], .int .i64 (wrap64 (Int.tmod a1 65536)), .int .i64 (wrap64 ((wrap64 (Int.tmod a1 65536))+1)), .int .i64 65536] ?_;(with_reducible refine (psalteryref05_Put.calls kj3 t793 (fun k_=>((P0_1_ k_∨w.heap.size≤k_)∧(k_≠gb786∧(k_≠gb787∧k_≠gb798)))) _ _ t794 (wrap64 (Int.tmod a1 65536)) (wrap64 ((wrap64 (Int.tmod a1 65536))+1)) 65536 t799 t800 t803 _ HO796.out A22.out).mono ?_);rintro e w34 ⟨v801,rfl,ho0,hb⟩;refine ⟨_,rfl, ?_⟩;replace HO_787001:=yVb HO_787001 hb;replace HO796:=yVb HO796 hb;have HO802:=yho (fun k_=>(P0_1_ k_∨w.heap.size≤k_)∧k_≠gb786∧k_≠gb787∧k_≠gb798) ho0 (fun k_ hk_=>⟨Or.elim hk_ (fun hs_=>hs_.1) (fun hn_=>(.inr (Nat.le_trans (zE yhb) hn_))),yoB BK786 hk_,yoB BK787 hk_,yoB BK798 hk_⟩);replace BK786:=ybb BK786 hb;replace BK787:=ybb BK787 hb;replace BK798:=ybb BK798 hb;replace HB:=ybs hb;(try clear hb);(try clear ho0))|((with_reducible refine gate_dst (N:=10) rfl ?_);refine ybx 10 #[.int .u64 0, .slice none 0 0] 69 ?_;intro gb804 hg w35 hbox hb;replace HO_787001:=yVe HO_787001 hg hb;replace HO796:=yVe HO796 hg hb;replace HO802:=yVe HO802 hg hb;have BK804:=zm (hbox);have GW804:=ygw hg;have GE804:=ygw hg;replace HB:=ybs hb;have NB786_804:=ynl BK786 hg;have NB804_786:=yng BK786 hg;replace BK786:=ybb BK786 hb;have NB787_804:=ynl BK787 hg;have NB804_787:=yng BK787 hg;replace BK787:=ybb BK787 hb;have NB798_804:=ynl BK798 hg;have NB804_798:=yng BK798 hg;replace BK798:=ybb BK798 hb;clear hb hbox hg;have:=NB804_786.out;have:=NB786_804.out;have:=NB804_787.out;have:=NB787_804.out;have:=NB804_798.out;have:=NB798_804.out;obtain ⟨_,_,_,_⟩:=yc2 BK804;obtain ⟨Ao40,co40,eo40⟩:=Kd.V_slice HO802.out;subst eo40;obtain ⟨_,_,_,_⟩:=yc2 BK787))
      refine bodyPost_ret (results_ct rfl _ _ gb787 69 #[.int .u64 t799, .slice Ao40 t800.length co40] (0,0) _ rfl (ykp BK787) Try.underlying69 rfl (by kernel_rfl)) rfl ?_
      exact ⟨_,ye,yV0 HO802,yhb⟩
     ·
      rw [if_neg c23] at H
      have c23b0 : (t803 == 0)=false:=beq_eq_false_iff_ne.mpr c23
      have c23b1 : (t803 != 0)=true:=bne_iff_ne.mpr c23
      simp only [Option.some.injEq,Prod.mk.injEq] at H
      obtain ⟨rfl,rfl,rfl⟩:=H
      have:=NB786_787.out
      have:=NB787_786.out
      obtain ⟨_,_,_,_⟩:=yc2 BK786
      go_wp2_with (first|((with_reducible refine gate_callee (f:=37) rfl ?_);refine ygl 51 Try.func37 #[.agg #[.int .u64 a0_0, .slice A0_1 l0_1.length c0_1], .int .i64 (wrap64 (IntKind.u64.wrap (Int.tdiv a1 65536))), .int .i64 (wrap64 ((wrap64 (IntKind.u64.wrap (Int.tdiv a1 65536)))+1)), .int .i64 (wrap64 ((wrap64 (IntKind.u64.wrap (Int.tdiv (IntKind.u64.wrap (a2 - 1)) 65536)))+1))] ?_;(with_reducible refine (psalteryref05_Put.calls kj3 a0_0 (fun k_=>((P0_1_ k_∨w.heap.size≤k_)∧(k_≠gb786∧k_≠gb787))) _ _ l0_1 (wrap64 (IntKind.u64.wrap (Int.tdiv a1 65536))) (wrap64 ((wrap64 (IntKind.u64.wrap (Int.tdiv a1 65536)))+1)) (wrap64 ((wrap64 (IntKind.u64.wrap (Int.tdiv (IntKind.u64.wrap (a2 - 1)) 65536)))+1)) t793 t794 t797 _ HO_787001.out A20.out).mono ?_);rintro e w44 ⟨v795,rfl,ho0,hb⟩;refine ⟨_,rfl, ?_⟩;replace HO_787001:=yVb HO_787001 hb;have HO796:=yho (fun k_=>(P0_1_ k_∨w.heap.size≤k_)∧k_≠gb786∧k_≠gb787) ho0 (fun k_ hk_=>⟨Or.elim hk_ (fun hs_=>hs_.1) (fun hn_=>(.inr (Nat.le_trans (zE yhb) hn_))),yoB BK786 hk_,yoB BK787 hk_⟩);replace BK786:=ybb BK786 hb;replace BK787:=ybb BK787 hb;replace HB:=ybs hb;(try clear hb);(try clear ho0))|((with_reducible refine gate_dst (N:=8) rfl ?_);refine ybx 8 #[.int .u64 0, .slice none 0 0] 69 ?_;intro gb798 hg w45 hbox hb;replace HO_787001:=yVe HO_787001 hg hb;replace HO796:=yVe HO796 hg hb;have BK798:=zm (hbox);have GW798:=ygw hg;have GE798:=ygw hg;replace HB:=ybs hb;have NB786_798:=ynl BK786 hg;have NB798_786:=yng BK786 hg;replace BK786:=ybb BK786 hb;have NB787_798:=ynl BK787 hg;have NB798_787:=yng BK787 hg;replace BK787:=ybb BK787 hb;clear hb hbox hg;have:=NB798_786.out;have:=NB786_798.out;have:=NB798_787.out;have:=NB787_798.out;obtain ⟨_,_,_,_⟩:=yc2 BK798;obtain ⟨Ao49,co49,eo49⟩:=Kd.V_slice HO796.out;subst eo49)|((with_reducible refine gate_store (t:=69) (p:=8) rfl ?_);refine store_event (t:=69) (p:=8) (v := ?vo_w50) (w1:=((w45.setCell ⟨gb798,0,none⟩ (.int .u64 t793)).setCell ⟨gb798,1,none⟩ (.slice Ao49 t794.length co49))) ?hg ?ho ?hn ?hr ?_;(case ho=>rfl);(case hg=>rfl);(case hn=>rfl);(case hr=>first|(go_simp;done)|(go_simp;rfl));intro w50 hw;replace HO_787001 : Aside0 (Kd.V (Kd.int .i64) 3 w50 w.heap.size (fun k_=>(P0_1_ k_∨w.heap.size≤k_)∧k_≠gb786∧k_≠gb787∧k_≠gb798) (.slice A0_1 l0_1.length c0_1) l0_1):=⟨(by rw [hw];exact (yV0 HO_787001))⟩;replace HO796 : Aside0 (Kd.V (Kd.int .i64) 3 w50 w.heap.size (fun k_=>(P0_1_ k_∨w.heap.size≤k_)∧k_≠gb786∧k_≠gb787∧k_≠gb798) (.slice Ao49 t794.length co49) t794):=⟨(by rw [hw];exact (yV0 HO796))⟩;replace BK786 : Aside0 (w50.heap[gb786]? = some (.cells #[.int .u64 a0_0, .slice A0_1 l0_1.length c0_1] 69 (0,0))):=⟨(by rw [hw];exact (yk BK786))⟩;replace BK787 : Aside0 (w50.heap[gb787]? = some (.cells #[.int .u64 0, .slice none 0 0] 69 (0,0))):=⟨(by rw [hw];exact (yk BK787))⟩;replace BK798 : Aside0 (w50.heap[gb798]? = some (.cells #[.int .u64 t793, .slice Ao49 t794.length co49] 69 (0,0))):=⟨(by rw [hw];exact (ykp BK798))⟩;replace HB : Aside0 (Below w.heap.size w w50):=⟨(by rw [hw];exact yhb)⟩;clear hw;obtain ⟨_,_,_,_⟩:=yc2 BK798)|((with_reducible refine gate_callee (f:=37) rfl ?_);refine ygl 67 Try.func37 #[.agg #[.int .u64 t793, .slice Ao49 t794.length co49], .int .i64 (wrap64 (Int.tmod a1 65536)), .int .i64 (wrap64 ((wrap64 (Int.tmod a1 65536))+1)), .int .i64 65536] ?_;(with_reducible refine (psalteryref05_Put.calls kj3 t793 (fun k_=>((P0_1_ k_∨w.heap.size≤k_)∧(k_≠gb786∧(k_≠gb787∧k_≠gb798)))) _ _ t794 (wrap64 (Int.tmod a1 65536)) (wrap64 ((wrap64 (Int.tmod a1 65536))+1)) 65536 t799 t800 t803 _ HO796.out A22.out).mono ?_);rintro e w52 ⟨v801,rfl,ho0,hb⟩;refine ⟨_,rfl, ?_⟩;replace HO_787001:=yVb HO_787001 hb;replace HO796:=yVb HO796 hb;have HO802:=yho (fun k_=>(P0_1_ k_∨w.heap.size≤k_)∧k_≠gb786∧k_≠gb787∧k_≠gb798) ho0 (fun k_ hk_=>⟨Or.elim hk_ (fun hs_=>hs_.1) (fun hn_=>(.inr (Nat.le_trans (zE yhb) hn_))),yoB BK786 hk_,yoB BK787 hk_,yoB BK798 hk_⟩);replace BK786:=ybb BK786 hb;replace BK787:=ybb BK787 hb;replace BK798:=ybb BK798 hb;replace HB:=ybs hb;(try clear hb);(try clear ho0))|((with_reducible refine gate_dst (N:=10) rfl ?_);refine ybx 10 #[.int .u64 0, .slice none 0 0] 69 ?_;intro gb804 hg w53 hbox hb;replace HO_787001:=yVe HO_787001 hg hb;replace HO796:=yVe HO796 hg hb;replace HO802:=yVe HO802 hg hb;have BK804:=zm (hbox);have GW804:=ygw hg;have GE804:=ygw hg;replace HB:=ybs hb;have NB786_804:=ynl BK786 hg;have NB804_786:=yng BK786 hg;replace BK786:=ybb BK786 hb;have NB787_804:=ynl BK787 hg;have NB804_787:=yng BK787 hg;replace BK787:=ybb BK787 hb;have NB798_804:=ynl BK798 hg;have NB804_798:=yng BK798 hg;replace BK798:=ybb BK798 hb;clear hb hbox hg;have:=NB804_786.out;have:=NB786_804.out;have:=NB804_787.out;have:=NB787_804.out;have:=NB804_798.out;have:=NB798_804.out;obtain ⟨_,_,_,_⟩:=yc2 BK804;obtain ⟨Ao58,co58,eo58⟩:=Kd.V_slice HO802.out;subst eo58;obtain ⟨_,_,_,_⟩:=yc2 BK786;obtain ⟨_,_,_,_⟩:=yc2 BK787))
      refine bodyPost_ret (results_ct rfl _ _ gb787 69 #[.int .u64 a0_0, .slice A0_1 l0_1.length c0_1] (0,0) _ rfl (ykp BK787) Try.underlying69 rfl (by kernel_rfl)) rfl ?_
      exact ⟨_,ye,yV0 HO_787001,yhb⟩
    ·
     rw [if_neg c21] at H
     have c21b0 : (t797 == 0)=false:=beq_eq_false_iff_ne.mpr c21
     have c21b1 : (t797 != 0)=true:=bne_iff_ne.mpr c21
     simp only [Option.some.injEq,Prod.mk.injEq] at H
     obtain ⟨rfl,rfl,rfl⟩:=H
     have:=NB786_787.out
     have:=NB787_786.out
     obtain ⟨_,_,_,_⟩:=yc2 BK786
     go_wp2_with (first|((with_reducible refine gate_callee (f:=37) rfl ?_);refine ygl 51 Try.func37 #[.agg #[.int .u64 a0_0, .slice A0_1 l0_1.length c0_1], .int .i64 (wrap64 (IntKind.u64.wrap (Int.tdiv a1 65536))), .int .i64 (wrap64 ((wrap64 (IntKind.u64.wrap (Int.tdiv a1 65536)))+1)), .int .i64 (wrap64 ((wrap64 (IntKind.u64.wrap (Int.tdiv (IntKind.u64.wrap (a2 - 1)) 65536)))+1))] ?_;(with_reducible refine (psalteryref05_Put.calls kj3 a0_0 (fun k_=>((P0_1_ k_∨w.heap.size≤k_)∧(k_≠gb786∧k_≠gb787))) _ _ l0_1 (wrap64 (IntKind.u64.wrap (Int.tdiv a1 65536))) (wrap64 ((wrap64 (IntKind.u64.wrap (Int.tdiv a1 65536)))+1)) (wrap64 ((wrap64 (IntKind.u64.wrap (Int.tdiv (IntKind.u64.wrap (a2 - 1)) 65536)))+1)) t793 t794 t797 _ HO_787001.out A20.out).mono ?_);rintro e w63 ⟨v795,rfl,ho0,hb⟩;refine ⟨_,rfl, ?_⟩;replace HO_787001:=yVb HO_787001 hb;have HO796:=yho (fun k_=>(P0_1_ k_∨w.heap.size≤k_)∧k_≠gb786∧k_≠gb787) ho0 (fun k_ hk_=>⟨Or.elim hk_ (fun hs_=>hs_.1) (fun hn_=>(.inr (Nat.le_trans (zE yhb) hn_))),yoB BK786 hk_,yoB BK787 hk_⟩);replace BK786:=ybb BK786 hb;replace BK787:=ybb BK787 hb;replace HB:=ybs hb;(try clear hb);(try clear ho0))|((with_reducible refine gate_dst (N:=8) rfl ?_);refine ybx 8 #[.int .u64 0, .slice none 0 0] 69 ?_;intro gb798 hg w64 hbox hb;replace HO_787001:=yVe HO_787001 hg hb;replace HO796:=yVe HO796 hg hb;have BK798:=zm (hbox);have GW798:=ygw hg;have GE798:=ygw hg;replace HB:=ybs hb;have NB786_798:=ynl BK786 hg;have NB798_786:=yng BK786 hg;replace BK786:=ybb BK786 hb;have NB787_798:=ynl BK787 hg;have NB798_787:=yng BK787 hg;replace BK787:=ybb BK787 hb;clear hb hbox hg;have:=NB798_786.out;have:=NB786_798.out;have:=NB798_787.out;have:=NB787_798.out;obtain ⟨_,_,_,_⟩:=yc2 BK798;obtain ⟨Ao68,co68,eo68⟩:=Kd.V_slice HO796.out;subst eo68;obtain ⟨_,_,_,_⟩:=yc2 BK786;obtain ⟨_,_,_,_⟩:=yc2 BK787))
     refine bodyPost_ret (results_ct rfl _ _ gb787 69 #[.int .u64 a0_0, .slice A0_1 l0_1.length c0_1] (0,0) _ rfl (ykp BK787) Try.underlying69 rfl (by kernel_rfl)) rfl ?_
     exact ⟨_,ye,yV0 HO_787001,yhb⟩
def psalteryref06_order.l0 : Nat→Int→List Int→Int→Option (List Int)
 | 0,_,_,_=>none
 | k+1,x0,x3,x4=>if x4≤x0 then ((some (([x4,wrap64 (-x4)] : List Int) : List Int)).bind fun y832=>(if x3.length+y832.length < 17592186044416 then (psalteryref06_order.l0 k x0 (x3 ++ y832) (wrap64 (x4+1))) else (none))) else (some x3)
def psalteryref06_order.f (k : Nat) (a0 : Int) : Option (List Int):=psalteryref06_order.l0 k a0 (([0] : List Int)) 1
theorem psalteryref06_order.mono_l : ∀ k,(∀ y0 y1 y2,LeO (psalteryref06_order.l0 k y0 y1 y2) (psalteryref06_order.l0 (k+1) y0 y1 y2))
 | 0=>fun _ _ _ r h=>by simp [psalteryref06_order.l0] at h
 | k+1=>by
  have ih0:=psalteryref06_order.mono_l k
  ·
   intro y0 y1 y2
   unfold psalteryref06_order.l0
   repeat' with_reducible first|apply ih0|apply yLr|apply yLn|apply yLi|apply yLb|intro _
theorem psalteryref06_order.mono : ∀ a0 k,LeO (psalteryref06_order.f k a0) (psalteryref06_order.f (k+1) a0):=by
 intro a0 k
 have ih0:=psalteryref06_order.mono_l k
 unfold psalteryref06_order.f
 repeat' with_reducible first|apply ih0|apply yLr|apply yLn|apply yLi|apply yLb|intro _
set_option maxHeartbeats 8000000 in
set_option maxRecDepth 100000 in
theorem psalteryref06_order.calls (k : Nat) (a0 : Int) (r : List Int) (w : World) (h : psalteryref06_order.f k a0=some r) :
  Calls Try.prog 82 #[.int .i64 a0] w fun e w' => ∃ v0_ : Value,e=.returned (v0_)∧Kd.R (Kd.int .i64) 3 w' w.heap.size (fun _=>True) v0_ r∧Below w.heap.size w w' := by
 have HB:=zm (Below.refl w.heap.size w)
 have H : (psalteryref06_order.l0 k a0 (([0] : List Int)) 1)=some r:=h
 clear h
 obtain ⟨y829,hy829⟩ : ∃ y_ : List Int,y_=(([0] : List Int)):=⟨_,rfl⟩
 replace H : (psalteryref06_order.l0 k a0 y829 1)=some r:=yrw hy829 H
 have Ny829:=zm hy829;clear hy829
 have H' := zm H
 clear H
 go_enter Try.func82,Try.ntmps82
 go_wp2_with (first|((with_reducible refine gate_dst (N:=5) rfl ?_);refine Kd.R_lit (Kd.int .i64) _ 3 ?hg (N:=5) ?hd (xs:=([0] : List Int)) (inner := [.int .i64 0]) (ok:=fun _=>True) (okp:=fun _=>True) ?hr ?hp (fun _ hk=>hk) trivial (Below.refl _ _) (Nat.le_refl _) (by simp) ?_;(case hd=>rfl);(case hg=>rfl);(case hr=>first|(go_simp;done)|(go_simp;rfl));(case hp=>exact (Reps.one (show Kd.M (Kd.int .i64) _ _ _ 0 [.int .i64 0] from rfl) (Reps.none _ _)));intro v830 w2 ho3 hb hg_ hnew_;clear hg_ hnew_;(first|rw [← Ny829.out] at ho3|(simp only [Int.reduceToNat] at ho3;rw [← Ny829.out] at ho3));have HO831:=zm (Kd.R_lower ho3 (zE yhb));replace HB:=ybs hb;clear hb ho3))
 go_loopg [3,4] k (fun kq v3 v4 w' => ∃ (x3_1 : List Int) (x4_1 : Int),v4=.int .i64 x4_1∧Aside0 (psalteryref06_order.l0 kq a0 x3_1 x4_1=some r)∧Aside0 (kq≤k)∧Aside0 (Kd.R (Kd.int .i64) 3 w' w.heap.size (fun _=>True) v3 x3_1)∧Aside0 (Below w.heap.size w w'))
 case atStart=>exact ⟨(y829),(1),yq,H',⟨Nat.le_refl _⟩,⟨yr HO831⟩,⟨yhb⟩⟩
 case round =>
  clear H'
  obtain ⟨x3_1,x4_1,rfl,HA,HK1,HO_3,HB⟩:=hrel
  obtain ⟨k1,rfl⟩:=ysu gk (fun h=>by subst h;exact absurd HA.out (by simp [psalteryref06_order.l0]))
  have H:=HA.out;clear HA
  simp only [psalteryref06_order.l0] at H
  by_cases c4 : x4_1≤a0
  ·
   rw [if_pos c4] at H
   have c4b0 : decide (x4_1≤a0)=true:=decide_eq_true c4
   clear c4
   obtain ⟨y832,hy832⟩ : ∃ y_ : List Int,y_=(([x4_1,wrap64 (-x4_1)] : List Int)):=⟨_,rfl⟩
   replace H : (if x3_1.length+y832.length < 17592186044416 then (psalteryref06_order.l0 k1 a0 (x3_1 ++ y832) (wrap64 (x4_1+1))) else (none))=some r:=yrw hy832 H
   have Ny832:=zm hy832;clear hy832
   obtain ⟨c5,H⟩:=yif H
   have LMc5:=zm c5;clear c5
   obtain ⟨y835,hy835⟩ : ∃ y_ : List Int,y_=(x3_1 ++ y832):=⟨_,rfl⟩
   replace H : (psalteryref06_order.l0 k1 a0 y835 (wrap64 (x4_1+1)))=some r:=yrw hy835 H
   have Ny835:=zm hy835;clear hy835
   have H' := zm H
   clear H
   go_wp2_with (first|((with_reducible refine gate_dst (N:=15) rfl ?_);refine Kd.R_lit (Kd.int .i64) _ 3 ?hg (N:=15) ?hd (xs:=([x4_1,wrap64 (-x4_1)] : List Int)) (inner := [.int .i64 x4_1, .int .i64 (wrap64 (-x4_1))]) (ok:=fun _=>True) (okp:=fun _=>True) ?hr ?hp (fun _ hk=>hk) trivial (Below.refl _ _) (Nat.le_refl _) (by simp) ?_;(case hd=>rfl);(case hg=>rfl);(case hr=>first|(go_simp;done)|(go_simp;rfl));(case hp=>exact (Reps.one (show Kd.M (Kd.int .i64) _ _ _ x4_1 [.int .i64 x4_1] from rfl) (Reps.one (show Kd.M (Kd.int .i64) _ _ _ (wrap64 (-x4_1)) [.int .i64 (wrap64 (-x4_1))] from rfl) (Reps.none _ _))));intro v833 w6 ho7 hb hg_ hnew_;clear hg_ hnew_;(first|rw [← Ny832.out] at ho7|(simp only [Int.reduceToNat] at ho7;rw [← Ny832.out] at ho7));have HO834:=zm (Kd.R_lower (Kd.R_new' ho7 (Kd.R_lt (yr HO_3))) (zE yhb));replace HO_3:=zm (Kd.R_elder' (yr HO_3) (Kd.R_base ho7) hb);replace HB:=ybs hb;clear hb ho7;obtain ⟨Ao9,co9,eo9⟩:=Kd.R_slice HO834.out;subst eo9)|((with_reducible refine gate_builtin (b:=.append) (xs := #[.tmp 11, .tmp 15]) rfl ?_);at_builtin;refine Kd.R_append_rows (Kd.int .i64) (w0:=w) w.heap.size rfl (.tmp 11) (.tmp 15) 49 3 (.int .i64 0) 8 rfl Try.underlying49 info3 rfl (by decide) (by omega) u3 x3_1 y832 _ _ _ (fun k_=>some k_≠(.slice Ao9 y832.length co9 : Value).ownBlock) (fun _=>False) rfl rfl ?aO ?aR (fun _ _ h=>h) (fun _ h=>h.elim) ?aF ?aB ?aS ?aL ?_;(case aR=>exact yce (Kd.R_reads' HO834.out).2.2);(case aB=>exact yhb);(case aF=>exact (fun k_ hk=>Kd.fresh' (Kd.R_lt (yr HO834)) k_ hk));(case aO=>exact (yR0 HO_3));(case aS=>exact (zE yhb));(case aL=>have:=LMc5.out;omega);intro v836 w8 ho hb hg hat;rw [← Ny835.out] at ho;replace HO834:=zm (Kd.R_after (ok:=(fun _=>True)) (yr HO834) hg hat);replace HB:=zm (hb);have HO837:=zm (ho);clear HO_3;clear ho hb hg hat))
   go_roundg k1
   case measure=>exact yom1 HK1
   case rel=>exact ⟨(y835),(wrap64 (x4_1+1)),yq,H',⟨yom1 HK1⟩,⟨yR0 HO837⟩,⟨yhb⟩⟩
  ·
   rw [if_neg c4] at H
   have c4b0 : decide (x4_1≤a0)=false:=decide_eq_false c4
   clear c4
   obtain rfl:=Option.some.inj H
   go_wp2
   go_ret
   exact ⟨_,ye,yr HO_3,yhb⟩
mutual
def psalteryref06_Index.l0 : Nat→List Int→Int→Int→Int→Option (Int)
 | 0,_,_,_,_=>none
 | k+1,x0,x3,x4,x5=>if x5 < (x0.length : Int) then ((psalteryref06_Row.f k (wrap64 ((wrap64 ((x0.length : Int) - x5)) - 1))).bind fun t839=>((psalteryref06_order.f k x3).bind fun t842=>(psalteryref06_Index.l1 k x0 x3 x4 x5 t839 t842 0))) else (some x4)
def psalteryref06_Index.l1 : Nat→List Int→Int→Int→Int→List Int→List Int→Int→Option (Int)
 | 0,_,_,_,_,_,_,_=>none
 | k+1,x0,x3,x4,x5,x6,x7,x8=>if x8 < (x7.length : Int) then (if 0≤x8 then (if 0≤x5 then (if x5 < (x0.length : Int) then (if (rd x7 x8)=(rd x0 x5) then ((psalteryref06_Size.f k (rd x0 x5)).bind fun t848=>(psalteryref06_Index.l0 k x0 (wrap64 (x3 - t848)) x4 (wrap64 (x5+1)))) else ((psalteryref06_Size.f k (rd x7 x8)).bind fun t850=>(if 0≤(wrap64 (x3 - t850)) then (if (wrap64 (x3 - t850)) < (x6.length : Int) then (psalteryref06_Index.l1 k x0 x3 (IntKind.u64.wrap (x4+(rd x6 (wrap64 (x3 - t850))))) x5 x6 x7 (wrap64 (x8+1))) else (none)) else (none)))) else (none)) else (none)) else (none)) else (if 0≤x5 then (if x5 < (x0.length : Int) then ((psalteryref06_Size.f k (rd x0 x5)).bind fun t853=>(psalteryref06_Index.l0 k x0 (wrap64 (x3 - t853)) x4 (wrap64 (x5+1)))) else (none)) else (none))
end
def psalteryref06_Index.f (k : Nat) (l0 : List Int) : Option (Int):=(psalteryref06_Pulses.f k l0).bind fun t838=>(psalteryref06_Index.l0 k l0 t838 0 0)
theorem psalteryref06_Index.mono_l : ∀ k,(∀ y0 y1 y2 y3,LeO (psalteryref06_Index.l0 k y0 y1 y2 y3) (psalteryref06_Index.l0 (k+1) y0 y1 y2 y3))∧(∀ y0 y1 y2 y3 y4 y5 y6,LeO (psalteryref06_Index.l1 k y0 y1 y2 y3 y4 y5 y6) (psalteryref06_Index.l1 (k+1) y0 y1 y2 y3 y4 y5 y6))
 | 0=>⟨fun _ _ _ _ r h=>by simp [psalteryref06_Index.l0] at h,fun _ _ _ _ _ _ _ r h=>by simp [psalteryref06_Index.l1] at h⟩
 | k+1=>by
  obtain ⟨ih0,ih1⟩:=psalteryref06_Index.mono_l k
  refine ⟨?_, ?_⟩
  ·
   intro y0 y1 y2 y3
   unfold psalteryref06_Index.l0
   repeat' with_reducible first|apply ih0|apply ih1|apply psalteryref06_Pulses.mono|apply psalteryref06_Row.mono|apply psalteryref06_Size.mono|apply psalteryref06_order.mono|apply yLr|apply yLn|apply yLi|apply yLb|intro _
  ·
   intro y0 y1 y2 y3 y4 y5 y6
   unfold psalteryref06_Index.l1
   repeat' with_reducible first|apply ih0|apply ih1|apply psalteryref06_Pulses.mono|apply psalteryref06_Row.mono|apply psalteryref06_Size.mono|apply psalteryref06_order.mono|apply yLr|apply yLn|apply yLi|apply yLb|intro _
theorem psalteryref06_Index.mono : ∀ a0 k,LeO (psalteryref06_Index.f k a0) (psalteryref06_Index.f (k+1) a0):=by
 intro a0 k
 obtain ⟨ih0,ih1⟩:=psalteryref06_Index.mono_l k
 unfold psalteryref06_Index.f
 repeat' with_reducible first|apply ih0|apply ih1|apply psalteryref06_Pulses.mono|apply psalteryref06_Row.mono|apply psalteryref06_Size.mono|apply psalteryref06_order.mono|apply yLr|apply yLn|apply yLi|apply yLb|intro _
set_option maxHeartbeats 8000000 in
set_option maxRecDepth 100000 in
theorem psalteryref06_Index.calls (k : Nat) (A0 : Option Addr) (c0 : Nat) (l0 : List Int) (r : Int) (w : World) (hr0 : Kd.C (Kd.int .i64) w A0 l0.length l0) (hc0 : l0.length≤c0) (h : psalteryref06_Index.f k l0=some r) :
  Calls Try.prog 42 #[.slice A0 l0.length c0] w fun e w' => e=.returned (.int .u64 r)∧Below w.heap.size w w' := by
 have HR0:=zm hr0;have HC0:=zm hc0;clear hr0 hc0;have HB:=zm (Below.refl w.heap.size w)
 have H : ((psalteryref06_Pulses.f k l0).bind fun t838=>(psalteryref06_Index.l0 k l0 t838 0 0))=some r:=h
 clear h
 obtain ⟨t838,A2,H⟩:=ybi H
 have H' := zm H
 clear H
 go_enter Try.func42,Try.ntmps42
 go_wp2_with (first|(go_at_call 40;(with_reducible refine (psalteryref06_Pulses.calls k _ _ l0 t838 _ ?side1 HC0.out A2.out).mono ?_);(case side1=>exact yce HR0.out);rintro e w' ⟨rfl,⟨nd,rfl⟩⟩;(try exact yww)))
 repeat (go_quiet (first|(go_at_call 40;(with_reducible refine (psalteryref06_Pulses.calls k _ _ l0 t838 _ ?side1 HC0.out A2.out).mono ?_);(case side1=>exact yce HR0.out);rintro e w' ⟨rfl,⟨nd,rfl⟩⟩;(try exact yww)));try go_wp2_with (first|(go_at_call 40;(with_reducible refine (psalteryref06_Pulses.calls k _ _ l0 t838 _ ?side1 HC0.out A2.out).mono ?_);(case side1=>exact yce HR0.out);rintro e w' ⟨rfl,⟨nd,rfl⟩⟩;(try exact yww))))
 go_loopg [3,4,5] k (fun kq v3 v4 v5 w' => ∃ (x3_1 : Int) (x4_1 : Int) (x5_1 : Int),v3=.int .i64 x3_1∧v4=.int .u64 x4_1∧v5=.int .i64 x5_1∧Aside0 (psalteryref06_Index.l0 kq l0 x3_1 x4_1 x5_1=some r)∧Aside0 (kq≤k)∧Aside0 (Below w.heap.size w w'))
 case atStart=>exact ⟨(t838),(0),(0),yq,yq,yq,H',⟨Nat.le_refl _⟩,⟨yhb⟩⟩
 case round =>
  clear H'
  obtain ⟨x3_1,x4_1,x5_1,rfl,rfl,rfl,HA,HK1,HB⟩:=hrel
  obtain ⟨k1,rfl⟩:=ysu gk (fun h=>by subst h;exact absurd HA.out (by simp [psalteryref06_Index.l0]))
  have H:=HA.out;clear HA
  simp only [psalteryref06_Index.l0] at H
  by_cases c3 : x5_1 < (l0.length : Int)
  ·
   rw [if_pos c3] at H
   have c3b0 : decide (x5_1 < (l0.length : Int))=true:=decide_eq_true c3
   clear c3
   obtain ⟨t839,A4,H⟩:=ybi H
   obtain ⟨t842,A5,H⟩:=ybi H
   have H' := zm H
   clear H
   go_wp2_with (first|(go_at_call 81;(with_reducible refine (psalteryref06_Row.calls k1 (wrap64 ((wrap64 ((l0.length : Int) - x5_1)) - 1)) t839 _ A4.out).mono ?_);rintro e w6 ⟨v840,rfl,ho0,hb⟩;have HO841:=zm (Kd.R_lower ho0 (zE yhb));replace HB:=ybs hb;(try clear hb);(try clear ho0))|(go_at_call 82;(with_reducible refine (psalteryref06_order.calls k1 x3_1 t842 _ A5.out).mono ?_);rintro e w7 ⟨v843,rfl,ho0,hb⟩;replace HO841:=yRb HO841 hb;have HO844:=zm (Kd.R_lower ho0 (zE yhb));replace HB:=ybs hb;(try clear hb);(try clear ho0)))
   repeat (go_quiet (first|(go_at_call 81;(with_reducible refine (psalteryref06_Row.calls k1 (wrap64 ((wrap64 ((l0.length : Int) - x5_1)) - 1)) t839 _ A4.out).mono ?_);rintro e w6 ⟨v840,rfl,ho0,hb⟩;have HO841:=zm (Kd.R_lower ho0 (zE yhb));replace HB:=ybs hb;(try clear hb);(try clear ho0))|(go_at_call 82;(with_reducible refine (psalteryref06_order.calls k1 x3_1 t842 _ A5.out).mono ?_);rintro e w7 ⟨v843,rfl,ho0,hb⟩;replace HO841:=yRb HO841 hb;have HO844:=zm (Kd.R_lower ho0 (zE yhb));replace HB:=ybs hb;(try clear hb);(try clear ho0)));try go_wp2_with (first|(go_at_call 81;(with_reducible refine (psalteryref06_Row.calls k1 (wrap64 ((wrap64 ((l0.length : Int) - x5_1)) - 1)) t839 _ A4.out).mono ?_);rintro e w6 ⟨v840,rfl,ho0,hb⟩;have HO841:=zm (Kd.R_lower ho0 (zE yhb));replace HB:=ybs hb;(try clear hb);(try clear ho0))|(go_at_call 82;(with_reducible refine (psalteryref06_order.calls k1 x3_1 t842 _ A5.out).mono ?_);rintro e w7 ⟨v843,rfl,ho0,hb⟩;replace HO841:=yRb HO841 hb;have HO844:=zm (Kd.R_lower ho0 (zE yhb));replace HB:=ybs hb;(try clear hb);(try clear ho0))))
   go_loopg [4,8] k1 (fun kq v4 v8 w' => ∃ (x4_2 : Int) (x8_2 : Int),v4=.int .u64 x4_2∧v8=.int .i64 x8_2∧Aside0 (psalteryref06_Index.l1 kq l0 x3_1 x4_2 x5_1 t839 t842 x8_2=some r)∧Aside0 (kq≤k1)∧Aside0 (Kd.R (Kd.int .u64) 51 w' w.heap.size (fun _=>True) v840 t839)∧Aside0 (Kd.R (Kd.int .i64) 3 w' w.heap.size (fun _=>True) v843 t842)∧Aside0 (Below w.heap.size w w'))
   case atStart=>exact ⟨(x4_1),(0),yq,yq,H',⟨Nat.le_refl _⟩,⟨yr HO841⟩,⟨yr HO844⟩,⟨yhb⟩⟩
   case round =>
    clear H'
    try clear c3b0
    obtain ⟨x4_2,x8_2,rfl,rfl,HA,HK2,HO_6,HO_7,HB⟩:=hrel
    obtain ⟨k2,rfl⟩:=ysu gk (fun h=>by subst h;exact absurd HA.out (by simp [psalteryref06_Index.l1]))
    have H:=HA.out;clear HA
    simp only [psalteryref06_Index.l1] at H
    by_cases c8 : x8_2 < (t842.length : Int)
    ·
     rw [if_pos c8] at H
     have c8b0 : decide (x8_2 < (t842.length : Int))=true:=decide_eq_true c8
     clear c8
     obtain ⟨c9,H⟩:=yif H
     have c9b0 : decide (0≤x8_2)=true:=decide_eq_true c9
     clear c9
     obtain ⟨c10,H⟩:=yif H
     have c10b0 : decide (0≤x5_1)=true:=decide_eq_true c10
     clear c10
     obtain ⟨c11,H⟩:=yif H
     have c11b0 : decide (x5_1 < (l0.length : Int))=true:=decide_eq_true c11
     clear c11
     by_cases c12 : (rd t842 x8_2)=(rd l0 x5_1)
     ·
      rw [if_pos c12] at H
      have c12b0 : ((rd t842 x8_2) == (rd l0 x5_1))=true:=beq_iff_eq.mpr c12
      have c12b1 : ((rd t842 x8_2) != (rd l0 x5_1))=false:=bne_eq_false_iff_eq.mpr c12
      clear c12
      obtain ⟨t848,A13,H⟩:=ybi H
      have H' := zm H
      clear H
      obtain ⟨Ao14,co14,eo14⟩:=Kd.R_slice HO_7.out
      subst eo14
      have p845 : 0≤(x8_2 : Int):=yt
      have q845 : x8_2 < (t842.length : Int):=yt
      obtain ⟨ad845,e845,hx845_0⟩:=Kd.at_int (Kd.R_reads' HO_7.out).2.2 x8_2 p845 q845
      cases e845
      replace p845:=eq_true p845
      replace q845:=eq_true q845
      have p846 : 0≤(x5_1 : Int):=yt
      have q846 : x5_1 < (l0.length : Int):=yt
      obtain ⟨ad846,e846,hx846_0⟩:=Kd.at_int HR0.out x5_1 p846 q846
      cases e846
      replace hx846_0:=yhx HB hx846_0
      replace p846:=eq_true p846
      replace q846:=eq_true q846
      have p847 : 0≤(x5_1 : Int):=yt
      have q847 : x5_1 < (l0.length : Int):=yt
      obtain ⟨ad847,e847,hx847_0⟩:=Kd.at_int HR0.out x5_1 p847 q847
      obtain rfl : ad846=ad847:=(by injection e847)
      replace hx847_0:=yhx HB hx847_0
      replace p847:=eq_true p847
      replace q847:=eq_true q847
      go_wp2_with (first|(go_at_call 80;(with_reducible refine (psalteryref06_Size.calls k2 (rd l0 x5_1) t848 _ A13.out).mono ?_);rintro e w' ⟨rfl,⟨nd,rfl⟩⟩;(try exact yww)))
      repeat (go_quiet (first|(go_at_call 80;(with_reducible refine (psalteryref06_Size.calls k2 (rd l0 x5_1) t848 _ A13.out).mono ?_);rintro e w' ⟨rfl,⟨nd,rfl⟩⟩;(try exact yww)));try go_wp2_with (first|(go_at_call 80;(with_reducible refine (psalteryref06_Size.calls k2 (rd l0 x5_1) t848 _ A13.out).mono ?_);rintro e w' ⟨rfl,⟨nd,rfl⟩⟩;(try exact yww))))
      go_roundg k2
      case measure=>exact yom2 HK1 HK2
      case rel=>exact ⟨(wrap64 (x3_1 - t848)),(x4_2),(wrap64 (x5_1+1)),yq,yq,yq,H',⟨yom2 HK1 HK2⟩,⟨yhb⟩⟩
     ·
      rw [if_neg c12] at H
      have c12b0 : ((rd t842 x8_2) == (rd l0 x5_1))=false:=beq_eq_false_iff_ne.mpr c12
      have c12b1 : ((rd t842 x8_2) != (rd l0 x5_1))=true:=bne_iff_ne.mpr c12
      obtain ⟨t850,A15,H⟩:=ybi H
      obtain ⟨ji16,hji16⟩ : ∃ j_ : Int,(wrap64 (x3_1 - t850))=j_:=⟨_,rfl⟩
      replace H : (if 0≤(ji16) then (if (ji16) < (t839.length : Int) then (psalteryref06_Index.l1 k2 l0 x3_1 (IntKind.u64.wrap (x4_2+(rd t839 (ji16)))) x5_1 t839 t842 (wrap64 (x8_2+1))) else (none)) else (none))=some r:=by first|(rw [hji16] at H;exact H)|(simp only [hji16] at H ⊢; exact H)
      (try rw [hji16] at A15)
      have hji16w : (IntKind.i64.wrap (x3_1 - t850))=ji16:=(i64_w _).trans hji16
      obtain ⟨c17,H⟩:=yif H
      have c17b0 : decide (0≤(ji16))=true:=decide_eq_true c17
      clear c17
      obtain ⟨c18,H⟩:=yif H
      have c18b0 : decide ((ji16) < (t839.length : Int))=true:=decide_eq_true c18
      clear c18
      have H' := zm H
      clear H
      obtain ⟨Ao19,co19,eo19⟩:=Kd.R_slice HO_7.out
      subst eo19
      have p845 : 0≤(x8_2 : Int):=yt
      have q845 : x8_2 < (t842.length : Int):=yt
      obtain ⟨ad845,e845,hx845_0⟩:=Kd.at_int (Kd.R_reads' HO_7.out).2.2 x8_2 p845 q845
      cases e845
      replace p845:=eq_true p845
      replace q845:=eq_true q845
      have p846 : 0≤(x5_1 : Int):=yt
      have q846 : x5_1 < (l0.length : Int):=yt
      obtain ⟨ad846,e846,hx846_0⟩:=Kd.at_int HR0.out x5_1 p846 q846
      cases e846
      replace hx846_0:=yhx HB hx846_0
      replace p846:=eq_true p846
      replace q846:=eq_true q846
      have p849 : 0≤(x8_2 : Int):=yt
      have q849 : x8_2 < (t842.length : Int):=yt
      obtain ⟨ad849,e849,hx849_0⟩:=Kd.at_int (Kd.R_reads' HO_7.out).2.2 x8_2 p849 q849
      obtain rfl : ad845=ad849:=(by injection e849)
      replace p849:=eq_true p849
      replace q849:=eq_true q849
      go_wp2_with (first|(go_at_call 80;(with_reducible refine (psalteryref06_Size.calls k2 (rd t842 x8_2) t850 _ A15.out).mono ?_);rintro e w' ⟨rfl,⟨nd,rfl⟩⟩;(try exact yww);obtain ⟨Ao20,co20,eo20⟩:=Kd.R_slice HO_6.out;subst eo20;have p851 : 0≤((ji16) : Int):=yt;have q851 : (ji16) < (t839.length : Int):=yt;obtain ⟨ad851,e851,hx851_0⟩:=Kd.at_int (Kd.R_reads' HO_6.out).2.2 (ji16) p851 q851;cases e851;replace p851:=eq_true p851;replace q851:=eq_true q851))
      repeat (go_quiet (first|(go_at_call 80;(with_reducible refine (psalteryref06_Size.calls k2 (rd t842 x8_2) t850 _ A15.out).mono ?_);rintro e w' ⟨rfl,⟨nd,rfl⟩⟩;(try exact yww);obtain ⟨Ao20,co20,eo20⟩:=Kd.R_slice HO_6.out;subst eo20;have p851 : 0≤((ji16) : Int):=yt;have q851 : (ji16) < (t839.length : Int):=yt;obtain ⟨ad851,e851,hx851_0⟩:=Kd.at_int (Kd.R_reads' HO_6.out).2.2 (ji16) p851 q851;cases e851;replace p851:=eq_true p851;replace q851:=eq_true q851));try go_wp2_with (first|(go_at_call 80;(with_reducible refine (psalteryref06_Size.calls k2 (rd t842 x8_2) t850 _ A15.out).mono ?_);rintro e w' ⟨rfl,⟨nd,rfl⟩⟩;(try exact yww);obtain ⟨Ao20,co20,eo20⟩:=Kd.R_slice HO_6.out;subst eo20;have p851 : 0≤((ji16) : Int):=yt;have q851 : (ji16) < (t839.length : Int):=yt;obtain ⟨ad851,e851,hx851_0⟩:=Kd.at_int (Kd.R_reads' HO_6.out).2.2 (ji16) p851 q851;cases e851;replace p851:=eq_true p851;replace q851:=eq_true q851)))
      go_roundg k2
      case measure=>exact yom2 HK1 HK2
      case rel=>exact ⟨(IntKind.u64.wrap (x4_2+(rd t839 (ji16)))),(wrap64 (x8_2+1)),(by first|rfl|(simp;done)|(simp only [← hji16] <;> (first|rfl|simp))|(simp [*];done)),yq,H',⟨yom2 HK1 HK2⟩,⟨yr HO_6⟩,⟨yr HO_7⟩,⟨yhb⟩⟩
    ·
     rw [if_neg c8] at H
     have c8b0 : decide (x8_2 < (t842.length : Int))=false:=decide_eq_false c8
     clear c8
     obtain ⟨c21,H⟩:=yif H
     have c21b0 : decide (0≤x5_1)=true:=decide_eq_true c21
     clear c21
     obtain ⟨c22,H⟩:=yif H
     have c22b0 : decide (x5_1 < (l0.length : Int))=true:=decide_eq_true c22
     clear c22
     obtain ⟨t853,A23,H⟩:=ybi H
     have H' := zm H
     clear H
     obtain ⟨Ao24,co24,eo24⟩:=Kd.R_slice HO_7.out
     subst eo24
     have p852 : 0≤(x5_1 : Int):=yt
     have q852 : x5_1 < (l0.length : Int):=yt
     obtain ⟨ad852,e852,hx852_0⟩:=Kd.at_int HR0.out x5_1 p852 q852
     cases e852
     replace hx852_0:=yhx HB hx852_0
     replace p852:=eq_true p852
     replace q852:=eq_true q852
     go_wp2_with (first|(go_at_call 80;(with_reducible refine (psalteryref06_Size.calls k2 (rd l0 x5_1) t853 _ A23.out).mono ?_);rintro e w' ⟨rfl,⟨nd,rfl⟩⟩;(try exact yww)))
     repeat (go_quiet (first|(go_at_call 80;(with_reducible refine (psalteryref06_Size.calls k2 (rd l0 x5_1) t853 _ A23.out).mono ?_);rintro e w' ⟨rfl,⟨nd,rfl⟩⟩;(try exact yww)));try go_wp2_with (first|(go_at_call 80;(with_reducible refine (psalteryref06_Size.calls k2 (rd l0 x5_1) t853 _ A23.out).mono ?_);rintro e w' ⟨rfl,⟨nd,rfl⟩⟩;(try exact yww))))
     go_roundg k2
     case measure=>exact yom2 HK1 HK2
     case rel=>exact ⟨(wrap64 (x3_1 - t853)),(x4_2),(wrap64 (x5_1+1)),yq,yq,yq,H',⟨yom2 HK1 HK2⟩,⟨yhb⟩⟩
  ·
   rw [if_neg c3] at H
   have c3b0 : decide (x5_1 < (l0.length : Int))=false:=decide_eq_false c3
   clear c3
   obtain rfl:=Option.some.inj H
   go_wp2
   repeat (go_quiet (fail);try go_wp2)
   go_ret
   exact ⟨ye,yhb⟩
mutual
def psalteryref11_Put.j0 : Nat→List Int→List Int→Bool→Bool→Int→List Int→Option (Int × List Int × Int)
 | 0,_,_,_,_,_,_=>none
 | k+1,x1,x2,x3,x26,x806000,x806001=>if x26=true then (some (x806000,x806001,1)) else (psalteryref11_Put.l0 k x1 x2 x3 0 x806000 x806001 x806000 x806001)
def psalteryref11_Put.l0 : Nat→List Int→List Int→Bool→Int→Int→List Int→Int→List Int→Option (Int × List Int × Int)
 | 0,_,_,_,_,_,_,_,_=>none
 | k+1,x1,x2,x3,x11,x806000,x806001,x810000,x810001=>if x11 < 5 then (if x3=true then (psalteryref11_Put.j3 k x1 x2 x3 x11 x3 x806000 x806001 x810000 x810001) else (if 0≤x11 then (if x11 < (x1.length : Int) then (if x11 < (x2.length : Int) then (if (wrap64 ((wrap64 ((rd x1 x11) - (rd x2 x11)))+3)) < 0 then (psalteryref11_Put.j2 k x1 x2 x3 x11 x3 (wrap64 ((wrap64 ((rd x1 x11) - (rd x2 x11)))+3)) true x806000 x806001 x810000 x810001) else (psalteryref11_Put.j2 k x1 x2 x3 x11 x3 (wrap64 ((wrap64 ((rd x1 x11) - (rd x2 x11)))+3)) (decide ((wrap64 ((wrap64 ((rd x1 x11) - (rd x2 x11)))+3)) > 6)) x806000 x806001 x810000 x810001)) else (none)) else (none)) else (none))) else (some (x810000,x810001,0))
def psalteryref11_Put.j3 : Nat→List Int→List Int→Bool→Int→Bool→Int→List Int→Int→List Int→Option (Int × List Int × Int)
 | 0,_,_,_,_,_,_,_,_,_=>none
 | k+1,x1,x2,x3,x11,x13,x806000,x806001,x810000,x810001=>if x13=true then (if 0≤x11 then (if x11 < (x1.length : Int) then ((psalteryref05_PutNum.f k x810000 x810001 (IntKind.u64.wrap (rd x1 x11)) 45).bind fun bt823=>(if bt823.2.2=0 then (psalteryref11_Put.l0 k x1 x2 x3 (wrap64 (x11+1)) x806000 x806001 bt823.1 bt823.2.1) else (some (x806000,x806001,bt823.2.2)))) else (none)) else (none)) else (psalteryref11_Put.l0 k x1 x2 x3 (wrap64 (x11+1)) x806000 x806001 x810000 x810001)
def psalteryref11_Put.j2 : Nat→List Int→List Int→Bool→Int→Bool→Int→Bool→Int→List Int→Int→List Int→Option (Int × List Int × Int)
 | 0,_,_,_,_,_,_,_,_,_,_,_=>none
 | k+1,x1,x2,x3,x11,x13,x14,x51,x806000,x806001,x810000,x810001=>if x51=true then ((psalteryref05_Put.f k x810000 x810001 7 (7+1) 8).bind fun bt812=>(if bt812.2.2=0 then (psalteryref11_Put.j3 k x1 x2 x3 x11 true x806000 x806001 bt812.1 bt812.2.1) else (some (x806000,x806001,bt812.2.2)))) else ((psalteryref05_Put.f k x810000 x810001 x14 (wrap64 (x14+1)) 8).bind fun bt817=>(if bt817.2.2=0 then (psalteryref11_Put.j3 k x1 x2 x3 x11 x13 x806000 x806001 bt817.1 bt817.2.1) else (some (x806000,x806001,bt817.2.2))))
end
def psalteryref11_Put.f (k : Nat) (a0_0 : Int) (l0_1 : List Int) (l1 : List Int) (l2 : List Int) (a3 : Bool) : Option (Int × List Int × Int):=(psalteryref11_Right.f k l1).bind fun t807=>(if t807=true then (if a3=true then (psalteryref11_Put.j0 k l1 l2 a3 false a0_0 l0_1) else ((psalteryref11_Right.f k l2).bind fun t808=>(psalteryref11_Put.j0 k l1 l2 a3 (!t808) a0_0 l0_1))) else (psalteryref11_Put.j0 k l1 l2 a3 true a0_0 l0_1))
theorem psalteryref11_Put.mono_l : ∀ k,(∀ y0 y1 y2 y3 y4 y5,LeO (psalteryref11_Put.j0 k y0 y1 y2 y3 y4 y5) (psalteryref11_Put.j0 (k+1) y0 y1 y2 y3 y4 y5))∧(∀ y0 y1 y2 y3 y4 y5 y6 y7,LeO (psalteryref11_Put.l0 k y0 y1 y2 y3 y4 y5 y6 y7) (psalteryref11_Put.l0 (k+1) y0 y1 y2 y3 y4 y5 y6 y7))∧(∀ y0 y1 y2 y3 y4 y5 y6 y7 y8,LeO (psalteryref11_Put.j3 k y0 y1 y2 y3 y4 y5 y6 y7 y8) (psalteryref11_Put.j3 (k+1) y0 y1 y2 y3 y4 y5 y6 y7 y8))∧(∀ y0 y1 y2 y3 y4 y5 y6 y7 y8 y9 y10,LeO (psalteryref11_Put.j2 k y0 y1 y2 y3 y4 y5 y6 y7 y8 y9 y10) (psalteryref11_Put.j2 (k+1) y0 y1 y2 y3 y4 y5 y6 y7 y8 y9 y10))
 | 0=>⟨fun _ _ _ _ _ _ r h=>by simp [psalteryref11_Put.j0] at h,fun _ _ _ _ _ _ _ _ r h=>by simp [psalteryref11_Put.l0] at h,fun _ _ _ _ _ _ _ _ _ r h=>by simp [psalteryref11_Put.j3] at h,fun _ _ _ _ _ _ _ _ _ _ _ r h=>by simp [psalteryref11_Put.j2] at h⟩
 | k+1=>by
  obtain ⟨ih0,ih1,ih2,ih3⟩:=psalteryref11_Put.mono_l k
  refine ⟨?_, ?_, ?_, ?_⟩
  ·
   intro y0 y1 y2 y3 y4 y5
   unfold psalteryref11_Put.j0
   repeat' with_reducible first|apply ih0|apply ih1|apply ih2|apply ih3|apply psalteryref05_Put.mono|apply psalteryref05_PutNum.mono|apply psalteryref11_Right.mono|apply yLr|apply yLn|apply yLi|apply yLb|intro _
  ·
   intro y0 y1 y2 y3 y4 y5 y6 y7
   unfold psalteryref11_Put.l0
   repeat' with_reducible first|apply ih0|apply ih1|apply ih2|apply ih3|apply psalteryref05_Put.mono|apply psalteryref05_PutNum.mono|apply psalteryref11_Right.mono|apply yLr|apply yLn|apply yLi|apply yLb|intro _
  ·
   intro y0 y1 y2 y3 y4 y5 y6 y7 y8
   unfold psalteryref11_Put.j3
   repeat' with_reducible first|apply ih0|apply ih1|apply ih2|apply ih3|apply psalteryref05_Put.mono|apply psalteryref05_PutNum.mono|apply psalteryref11_Right.mono|apply yLr|apply yLn|apply yLi|apply yLb|intro _
  ·
   intro y0 y1 y2 y3 y4 y5 y6 y7 y8 y9 y10
   unfold psalteryref11_Put.j2
   repeat' with_reducible first|apply ih0|apply ih1|apply ih2|apply ih3|apply psalteryref05_Put.mono|apply psalteryref05_PutNum.mono|apply psalteryref11_Right.mono|apply yLr|apply yLn|apply yLi|apply yLb|intro _
theorem psalteryref11_Put.mono : ∀ a0 a1 a2 a3 a4 k,LeO (psalteryref11_Put.f k a0 a1 a2 a3 a4) (psalteryref11_Put.f (k+1) a0 a1 a2 a3 a4):=by
 intro a0 a1 a2 a3 a4 k
 obtain ⟨ih0,ih1,ih2,ih3⟩:=psalteryref11_Put.mono_l k
 unfold psalteryref11_Put.f
 repeat' with_reducible first|apply ih0|apply ih1|apply ih2|apply ih3|apply psalteryref05_Put.mono|apply psalteryref05_PutNum.mono|apply psalteryref11_Right.mono|apply yLr|apply yLn|apply yLi|apply yLb|intro _
def psalteryref11_Put.T10 : Bool × List (List Nat × List Nat):=(true, [([], []),([], []),([0,1], [0,1]),([2], [2]),([], []),([], []),([4,5], [4,5]),([6], [6]),([3,7], [3,7]),([8], [8]),([9,0,1,2,3,4,5,6,7,8,9], [9])])
def psalteryref11_Put.B10 : List Nat := [0,0,3,7,0,0,48,112,255,511,1023]
theorem psalteryref11_Put.tab10 : rtab .any (opsOf Try.f38 10)=psalteryref11_Put.T10:=by kernel_rfl
theorem psalteryref11_Put.bits10 : waitsOk psalteryref11_Put.T10.2 psalteryref11_Put.B10=true:=by kernel_rfl
def psalteryref11_Put.T18 : Bool × List (List Nat × List Nat):=(true, [([], []),([], []),([], []),([1,2], [1,2]),([3], [3]),([4], [4]),([0,5], [0,5]),([6], [6]),([7], [7]),([7], [7]),([8,6,0,1,2,3,4,5,6,7,8], [8]),([9,10,0,1,2,3,4,5,6,7,8,9,10], [9])])
def psalteryref11_Put.B18 : List Nat := [0,0,0,6,14,30,63,127,255,255,511,2047]
theorem psalteryref11_Put.tab18 : rtab .any (opsOf Try.f38 18)=psalteryref11_Put.T18:=by kernel_rfl
theorem psalteryref11_Put.bits18 : waitsOk psalteryref11_Put.T18.2 psalteryref11_Put.B18=true:=by kernel_rfl
set_option maxHeartbeats 8000000 in
set_option maxRecDepth 100000 in
theorem psalteryref11_Put.calls (k : Nat) (a0_0 : Int) (P0_1_ : Nat→Prop) (A0_1 : Option Addr) (c0_1 : Nat) (l0_1 : List Int) (A1 : Option Addr) (c1 : Nat) (l1 : List Int) (A2 : Option Addr) (c2 : Nat) (l2 : List Int) (a3 : Bool) (r1 : Int) (r2 : List Int) (r3 : Int) (w : World) (hs0_1 : Kd.V (Kd.int .i64) 3 w w.heap.size (fun k_=>P0_1_ k_) (.slice A0_1 l0_1.length c0_1) l0_1) (hr1 : Kd.C (Kd.int .i64) w A1 l1.length l1) (hc1 : l1.length≤c1) (hr2 : Kd.C (Kd.int .i64) w A2 l2.length l2) (hc2 : l2.length≤c2) (h : psalteryref11_Put.f k a0_0 l0_1 l1 l2 a3=some (r1,r2,r3)) :
  Calls Try.prog 38 #[.agg #[.int .u64 a0_0, .slice A0_1 l0_1.length c0_1], .slice A1 l1.length c1, .slice A2 l2.length c2, .bool a3] w fun e w' => ∃ v1_ : Value,e=.returned (.tuple #[.agg #[.int .u64 r1,v1_], .int .i64 r3])∧Kd.V (Kd.int .i64) 3 w' w.heap.size (fun k_=>(P0_1_ k_∨w.heap.size≤k_)) v1_ r2∧Below w.heap.size w w' := by
 have hu69:=Try.underlying69
 have HO0_1:=zm (show Kd.V (Kd.int .i64) 3 w w.heap.size (fun k_=>(P0_1_ k_∨w.heap.size≤k_)) (.slice A0_1 l0_1.length c0_1) l0_1 from zy hs0_1 (fun k_ hk => .inl hk))
 have HR1:=zm hr1;have HC1:=zm hc1;clear hr1 hc1;have HR2:=zm hr2;have HC2:=zm hc2;clear hr2 hc2;have HB:=zm (Below.refl w.heap.size w)
 have H : ((psalteryref11_Right.f k l1).bind fun t807=>(if t807=true then (if a3=true then (psalteryref11_Put.j0 k l1 l2 a3 false a0_0 l0_1) else ((psalteryref11_Right.f k l2).bind fun t808=>(psalteryref11_Put.j0 k l1 l2 a3 (!t808) a0_0 l0_1))) else (psalteryref11_Put.j0 k l1 l2 a3 true a0_0 l0_1)))=some (r1,r2,r3):=h
 clear h;have HC5:=zm H;clear H
 go_enter Try.func38,Try.ntmps38
 go_upto_region 1 with (first|((with_reducible refine gate_dst (N:=4) rfl ?_);refine ybx 4 #[.int .u64 a0_0, .slice A0_1 l0_1.length c0_1] 69 ?_;intro gb805 hg w6 hbox hb;replace HO0_1:=yVe HO0_1 hg hb;have BK805:=zm (hbox);have GW805:=ygw hg;have GE805:=ygw hg;replace HB:=ybs hb;clear hb hbox hg)|((with_reducible refine gate_dst (N:=8) rfl ?_);refine ybx 8 #[.int .u64 0, .slice none 0 0] 69 ?_;intro gb806 hg w7 hbox hb;replace HO0_1:=yVe HO0_1 hg hb;have BK806:=zm (hbox);have GW806:=ygw hg;have GE806:=ygw hg;replace HB:=ybs hb;have NB805_806:=ynl BK805 hg;have NB806_805:=yng BK805 hg;replace BK805:=ybb BK805 hb;clear hb hbox hg))
 (try simp only [Act.put,List.setIfInBounds_toArray,List.set_cons_zero,List.set_cons_succ])
 go_cut [26] (fun v26 wc => ∃ (kq : Nat) (x26_4 : Bool),v26=.bool x26_4∧Aside0 (psalteryref11_Put.j0 kq l1 l2 a3 x26_4 a0_0 l0_1=some (r1,r2,r3))∧Aside0 (kq≤k)∧Aside0 (Kd.V (Kd.int .i64) 3 wc w.heap.size (fun k_=>(P0_1_ k_∨w.heap.size≤k_)∧k_≠gb805∧k_≠gb806) (.slice A0_1 l0_1.length c0_1) l0_1)∧Aside0 (wc.heap[gb805]? = some (.cells #[.int .u64 a0_0,(.slice A0_1 l0_1.length c0_1)] 69 (0,0)))∧Aside0 (wc.heap[gb806]? = some (.cells #[.int .u64 0,(.slice none 0 0)] 69 (0,0)))∧Aside0 (Below w.heap.size w wc))
 case first =>
  have H:=HC5.out;clear HC5
  obtain ⟨t807,A8,H⟩:=ybi H
  by_cases c9 : t807=true
  ·
   subst c9
   rw [if_pos rfl] at H
   by_cases c10 : a3=true
   ·
    subst c10
    rw [if_pos rfl] at H
    have H' := zm H
    clear H
    go_wp2_with (first|((with_reducible refine gate_callee (f:=47) rfl ?_);refine ygl 16 Try.func47 #[.slice A1 l1.length c1] ?_;(with_reducible refine (psalteryref11_Right.calls k _ _ l1 true _ ?side1 HC1.out A8.out).mono ?_);(case side1=>exact ycb HR1);rintro e w' ⟨rfl,⟨nd,rfl⟩⟩;refine ⟨_,rfl, ?_⟩))
    go_meet
    case rel=>exact ⟨_,(false),yq,H',⟨yo⟩,⟨yV0 HO0_1⟩,⟨yk BK805⟩,⟨yk BK806⟩,⟨yhb⟩⟩
   ·
    replace c10:=Bool.eq_false_iff.mpr c10
    subst c10
    rw [ynf] at H
    obtain ⟨t808,A11,H⟩:=ybi H
    have H' := zm H
    clear H
    go_wp2_with (first|((with_reducible refine gate_callee (f:=47) rfl ?_);refine ygl 16 Try.func47 #[.slice A1 l1.length c1] ?_;(with_reducible refine (psalteryref11_Right.calls k _ _ l1 true _ ?side1 HC1.out A8.out).mono ?_);(case side1=>exact ycb HR1);rintro e w' ⟨rfl,⟨nd,rfl⟩⟩;refine ⟨_,rfl, ?_⟩)|(go_at_call 47;(with_reducible refine (psalteryref11_Right.calls k _ _ l2 t808 _ ?side1 HC2.out A11.out).mono ?_);(case side1=>exact ycb HR2);rintro e w' ⟨rfl,⟨nd,rfl⟩⟩))
    go_meet
    case rel=>exact ⟨_,(!t808),yq,H',⟨yo⟩,⟨yV0 HO0_1⟩,⟨yk BK805⟩,⟨yk BK806⟩,⟨yhb⟩⟩
  ·
   replace c9:=Bool.eq_false_iff.mpr c9
   subst c9
   rw [ynf] at H
   have H' := zm H
   clear H
   go_wp2_with (first|((with_reducible refine gate_callee (f:=47) rfl ?_);refine ygl 16 Try.func47 #[.slice A1 l1.length c1] ?_;(with_reducible refine (psalteryref11_Right.calls k _ _ l1 false _ ?side1 HC1.out A8.out).mono ?_);(case side1=>exact ycb HR1);rintro e w' ⟨rfl,⟨nd,rfl⟩⟩;refine ⟨_,rfl, ?_⟩))
   go_meet
   case rel=>exact ⟨_,(true),yq,H',⟨yo⟩,⟨yV0 HO0_1⟩,⟨yk BK805⟩,⟨yk BK806⟩,⟨yhb⟩⟩
 case rest =>
  clear HC5
  try clear c1
  try clear c2
  obtain ⟨kq,x26_4,rfl,HA,HJ4,HO_806001,BK805,BK806,HB⟩:=hcut
  obtain ⟨kj4,rfl⟩:=ysu kq (fun h=>by subst h;exact absurd HA.out (by simp [psalteryref11_Put.j0]))
  have H:=HA.out;clear HA
  simp only [psalteryref11_Put.j0] at H
  by_cases c12 : x26_4=true
  ·
   subst c12
   rw [if_pos rfl] at H
   simp only [Option.some.injEq,Prod.mk.injEq] at H
   obtain ⟨rfl,rfl,rfl⟩:=H
   have:=NB805_806.out
   have:=NB806_805.out
   obtain ⟨hcz14_0,hcz14_1,hfz14_0,hfz14_1⟩:=yc2 BK805
   obtain ⟨hcz15_0,hcz15_1,hfz15_0,hfz15_1⟩:=yc2 BK806
   go_wp2
   refine bodyPost_ret (results_ct rfl _ _ gb806 69 #[.int .u64 a0_0, .slice A0_1 l0_1.length c0_1] (0,0) _ rfl (ykp BK806) Try.underlying69 rfl (by kernel_rfl)) rfl ?_
   exact ⟨_,ye,yV0 HO_806001,yhb⟩
  ·
   replace c12:=Bool.eq_false_iff.mpr c12
   subst c12
   rw [ynf] at H
   have H' := zm H
   clear H
   have:=NB805_806.out
   have:=NB806_805.out
   obtain ⟨hcz17_0,hcz17_1,hfz17_0,hfz17_1⟩:=yc2 BK805
   go_wp2_with (first|((with_reducible refine gate_dst (N:=10) rfl ?_);refine ybx 10 #[.int .u64 0, .slice none 0 0] 69 ?_;intro gb809 hg w18 hbox hb;replace HO_806001:=yVe HO_806001 hg hb;have BK809:=zm (hbox);have GW809:=ygw hg;have GE809:=ygw hg;replace HB:=ybs hb;have NB805_809:=ynl BK805 hg;have NB809_805:=yng BK805 hg;replace BK805:=ybb BK805 hb;have NB806_809:=ynl BK806 hg;have NB809_806:=yng BK806 hg;replace BK806:=ybb BK806 hb;clear hb hbox hg;have:=NB809_805.out;have:=NB805_809.out;have:=NB809_806.out;have:=NB806_809.out;obtain ⟨hcz21_0,hcz21_1,hfz21_0,hfz21_1⟩:=yc2 BK809))
   go_loopg [11] kj4 (fun kq v11 w' => ∃ (x11_2 : Int) (x807000_2 : Int) (x810000_2 : Int) (x810001_2 : List Int) (u810001 : Value),v11=.int .i64 x11_2∧Aside0 (psalteryref11_Put.l0 kq l1 l2 a3 x11_2 a0_0 l0_1 x810000_2 x810001_2=some (r1,r2,r3))∧Aside0 (kq≤kj4)∧Aside0 (Kd.V (Kd.int .i64) 3 w' w.heap.size (fun k_=>(P0_1_ k_∨w.heap.size≤k_)∧k_≠gb805∧k_≠gb806∧k_≠gb809) (.slice A0_1 l0_1.length c0_1) l0_1)∧Aside0 (Kd.V (Kd.int .i64) 3 w' w.heap.size (fun k_=>(P0_1_ k_∨w.heap.size≤k_)∧k_≠gb805∧k_≠gb806∧k_≠gb809) u810001 x810001_2)∧Aside0 (w'.heap[gb805]? = some (.cells #[.int .u64 a0_0,(.slice A0_1 l0_1.length c0_1)] 69 (0,0)))∧Aside0 (w'.heap[gb806]? = some (.cells #[.int .u64 x807000_2,(.slice none 0 0)] 69 (0,0)))∧Aside0 (w'.heap[gb809]? = some (.cells #[.int .u64 x810000_2,u810001] 69 (0,0)))∧Aside0 (Below w.heap.size w w'))
   case atStart=>exact ⟨(0),(0),(a0_0),(l0_1),(.slice A0_1 l0_1.length c0_1),yq,H',⟨Nat.le_refl _⟩,⟨yV0 HO_806001⟩,⟨yV0 HO_806001⟩,⟨yk BK805⟩,⟨yk BK806⟩,⟨ykp BK809⟩,⟨yhb⟩⟩
   case round =>
    clear H'
    try clear hcz14_0
    try clear hcz14_1
    try clear hcz15_0
    try clear hcz15_1
    try clear hcz17_0
    try clear hcz17_1
    try clear hcz21_0
    try clear hcz21_1
    try clear hfz14_0
    try clear hfz14_1
    try clear hfz15_0
    try clear hfz15_1
    try clear hfz17_0
    try clear hfz17_1
    try clear hfz21_0
    try clear hfz21_1
    obtain ⟨x11_2,x807000_2,x810000_2,x810001_2,u810001,rfl,HA,HK2,HO_806001,HO_810001,BK805,BK806,BK809,HB⟩:=hrel
    obtain ⟨k2,rfl⟩:=ysu gk (fun h=>by subst h;exact absurd HA.out (by simp [psalteryref11_Put.l0]))
    have H:=HA.out;clear HA
    simp only [psalteryref11_Put.l0] at H
    by_cases c22 : x11_2 < 5
    ·
     rw [if_pos c22] at H
     have c22b0 : decide (x11_2 < 5)=true:=decide_eq_true c22
     clear c22;have HC23:=zm H;clear H
     go_upto_if 35 with (fail)
     go_cut [13] (fun v13 wc => ∃ (kq : Nat) (x13_22 : Bool) (x807000_22 : Int) (x810000_22 : Int) (x810001_22 : List Int) (u810001 : Value),v13=.bool x13_22∧Aside0 (psalteryref11_Put.j3 kq l1 l2 a3 x11_2 x13_22 a0_0 l0_1 x810000_22 x810001_22=some (r1,r2,r3))∧Aside0 (kq≤k2)∧Aside0 (Kd.V (Kd.int .i64) 3 wc w.heap.size (fun k_=>(P0_1_ k_∨w.heap.size≤k_)∧k_≠gb805∧k_≠gb806∧k_≠gb809) (.slice A0_1 l0_1.length c0_1) l0_1)∧Aside0 (Kd.V (Kd.int .i64) 3 wc w.heap.size (fun k_=>(P0_1_ k_∨w.heap.size≤k_)∧k_≠gb805∧k_≠gb806∧k_≠gb809) u810001 x810001_22)∧Aside0 (wc.heap[gb805]? = some (.cells #[.int .u64 a0_0,(.slice A0_1 l0_1.length c0_1)] 69 (0,0)))∧Aside0 (wc.heap[gb806]? = some (.cells #[.int .u64 x807000_22,(.slice none 0 0)] 69 (0,0)))∧Aside0 (wc.heap[gb809]? = some (.cells #[.int .u64 x810000_22,u810001] 69 (0,0)))∧Aside0 (Below w.heap.size w wc))
     case first =>
      have H:=HC23.out;clear HC23
      by_cases c24 : a3=true
      ·
       subst c24
       rw [if_pos rfl] at H
       have H' := zm H
       clear H
       go_wp2
       go_meet
       case rel=>exact ⟨_,(true),(x807000_2),(x810000_2),(x810001_2),(u810001),yq,H',⟨yom2 HJ4 HK2⟩,⟨yr HO_806001⟩,⟨yr HO_810001⟩,⟨yk BK805⟩,⟨yk BK806⟩,⟨yk BK809⟩,⟨yhb⟩⟩
      ·
       replace c24:=Bool.eq_false_iff.mpr c24
       subst c24
       rw [ynf] at H
       obtain ⟨c25,H⟩:=yif H
       have c25b0 : decide (0≤x11_2)=true:=decide_eq_true c25
       clear c25
       (first|rw [c25b0]|(simp only [i64_w,i32_w];rw [c25b0])|skip)
       obtain ⟨c26,H⟩:=yif H
       have c26b0 : decide (x11_2 < (l1.length : Int))=true:=decide_eq_true c26
       clear c26
       obtain ⟨c27,H⟩:=yif H
       have c27b0 : decide (x11_2 < (l2.length : Int))=true:=decide_eq_true c27
       clear c27;have HC28:=zm H;clear H
       try go_wp2
       replace HO_806001:=zm (zC HO_806001.out)
       replace HO_810001:=zm (zC HO_810001.out)
       replace BK805:=zm (zj BK805.out)
       replace BK806:=zm (zj BK806.out)
       replace BK809:=zm (zj BK809.out)
       replace HB:=zm (zf HB.out)
       have p810 : 0≤(x11_2 : Int):=yt
       have q810 : x11_2 < (l1.length : Int):=yt
       obtain ⟨ad810,e810,hx810_0⟩:=Kd.at_int HR1.out x11_2 p810 q810
       have hw810_0:=hx810_0
       cases e810
       replace hx810_0:=yhx HB hx810_0
       replace p810:=eq_true p810
       replace q810:=eq_true q810
       have p811 : 0≤(x11_2 : Int):=yt
       have q811 : x11_2 < (l2.length : Int):=yt
       obtain ⟨ad811,e811,hx811_0⟩:=Kd.at_int HR2.out x11_2 p811 q811
       have hw811_0:=hx811_0
       cases e811
       replace hx811_0:=yhx HB hx811_0
       replace p811:=eq_true p811
       replace q811:=eq_true q811
       refine yst (fun w' => w'.cell? (ad810.add (x11_2).toNat)=some (.int .i64 (rd l1 x11_2))∧w'.cell? (ad811.add (x11_2).toNat)=some (.int .i64 (rd l2 x11_2))) [] 11 psalteryref11_Put.tab10 psalteryref11_Put.bits10 (fun hHeld HT_ HW_ => ?_)
       generalize wr.drew=w29 at HO_806001 HO_810001 BK805 BK806 BK809 HB hx810_0 hx811_0 hHeld ⊢
       refine yp 0 36 HT_ ?_
       refine yp 1 37 HT_ ?_
       refine yp 2 38 HT_ ?_
       refine yp 4 40 HT_ ?_
       refine yp 5 41 HT_ ?_
       refine yp 6 42 HT_ ?_
       refine yl 3 39 HT_ HW_ hHeld ?_
       refine yl 7 43 HT_ HW_ hHeld ?_
       refine yp 8 44 HT_ ?_
       refine yp 9 45 HT_ ?_
       refine yp 10 14 HT_ ?_
       refine done_ (done_of HT_.out (by kernel_rfl)) ?_
       go_upto_region 11 with (fail)
       go_cut [51] (fun v51 wc => ∃ (kq : Nat) (x51_27 : Bool),v51=.bool x51_27∧Aside0 (psalteryref11_Put.j2 kq l1 l2 false x11_2 false (wrap64 ((wrap64 ((rd l1 x11_2) - (rd l2 x11_2)))+3)) x51_27 a0_0 l0_1 x810000_2 x810001_2=some (r1,r2,r3))∧Aside0 (kq≤k2)∧Aside0 (Kd.V (Kd.int .i64) 3 wc w.heap.size (fun k_=>(P0_1_ k_∨w.heap.size≤k_)∧k_≠gb805∧k_≠gb806∧k_≠gb809) (.slice A0_1 l0_1.length c0_1) l0_1)∧Aside0 (Kd.V (Kd.int .i64) 3 wc w.heap.size (fun k_=>(P0_1_ k_∨w.heap.size≤k_)∧k_≠gb805∧k_≠gb806∧k_≠gb809) u810001 x810001_2)∧Aside0 (wc.heap[gb805]? = some (.cells #[.int .u64 a0_0,(.slice A0_1 l0_1.length c0_1)] 69 (0,0)))∧Aside0 (wc.heap[gb806]? = some (.cells #[.int .u64 x807000_2,(.slice none 0 0)] 69 (0,0)))∧Aside0 (wc.heap[gb809]? = some (.cells #[.int .u64 x810000_2,u810001] 69 (0,0)))∧Aside0 (Below w.heap.size w wc))
       case first =>
        have H:=HC28.out;clear HC28
        by_cases c30 : (wrap64 ((wrap64 ((rd l1 x11_2) - (rd l2 x11_2)))+3)) < 0
        ·
         rw [if_pos c30] at H
         have c30b0 : decide ((wrap64 ((wrap64 ((rd l1 x11_2) - (rd l2 x11_2)))+3)) < 0)=true:=decide_eq_true c30
         clear c30
         (first|rw [c30b0]|(simp only [i64_w,i32_w];rw [c30b0])|skip)
         have H' := zm H
         clear H
         go_wp2
         go_meet
         case rel=>exact ⟨_,(true),yq,H',⟨yom2 HJ4 HK2⟩,⟨yr HO_806001⟩,⟨yr HO_810001⟩,⟨yk BK805⟩,⟨yk BK806⟩,⟨yk BK809⟩,⟨yhb⟩⟩
        ·
         rw [if_neg c30] at H
         have c30b0 : decide ((wrap64 ((wrap64 ((rd l1 x11_2) - (rd l2 x11_2)))+3)) < 0)=false:=decide_eq_false c30
         clear c30
         (first|rw [c30b0]|(simp only [i64_w,i32_w];rw [c30b0])|skip)
         have H' := zm H
         clear H
         go_wp2
         go_meet
         case rel=>exact ⟨_,(decide ((wrap64 ((wrap64 ((rd l1 x11_2) - (rd l2 x11_2)))+3)) > 6)),yq,H',⟨yom2 HJ4 HK2⟩,⟨yr HO_806001⟩,⟨yr HO_810001⟩,⟨yk BK805⟩,⟨yk BK806⟩,⟨yk BK809⟩,⟨yhb⟩⟩
       case rest =>
        clear HC28
        try clear c22b0
        try clear c25b0
        try clear c26b0
        try clear c27b0
        try clear hx810_0
        try clear hx811_0
        try clear p810
        try clear p811
        try clear q810
        try clear q811
        obtain ⟨kq,x51_27,rfl,HA,HJ27,HO_806001,HO_810001,BK805,BK806,BK809,HB⟩:=hcut
        obtain ⟨kj27,rfl⟩:=ysu kq (fun h=>by subst h;exact absurd HA.out (by simp [psalteryref11_Put.j2]))
        have H:=HA.out;clear HA
        simp only [psalteryref11_Put.j2] at H
        by_cases c31 : x51_27=true
        ·
         subst c31
         rw [if_pos rfl] at H
         obtain ⟨⟨t812,t813,t816⟩,A32,H⟩:=ybi H
         try dsimp only at H
         by_cases c33 : t816=0
         ·
          rw [if_pos c33] at H
          have c33b0 : (t816 == 0)=true:=beq_iff_eq.mpr c33
          have c33b1 : (t816 != 0)=false:=bne_eq_false_iff_eq.mpr c33
          clear c33
          have H' := zm H
          clear H
          have:=NB809_805.out
          have:=NB805_809.out
          have:=NB809_806.out
          have:=NB806_809.out
          obtain ⟨_,_,_,_⟩:=yc2 BK809
          obtain ⟨Ao37,co37,eo37⟩:=Kd.V_slice HO_810001.out
          subst eo37
          go_wp2_with (first|((with_reducible refine gate_callee (f:=37) rfl ?_);refine ygl 57 Try.func37 #[.agg #[.int .u64 x810000_2, .slice Ao37 x810001_2.length co37], .int .i64 7, .int .i64 (7+1), .int .i64 8] ?_;(with_reducible refine (psalteryref05_Put.calls kj27 x810000_2 (fun k_=>((P0_1_ k_∨w.heap.size≤k_)∧(k_≠gb805∧(k_≠gb806∧k_≠gb809)))) _ _ x810001_2 7 (7+1) 8 t812 t813 t816 _ HO_810001.out A32.out).mono ?_);rintro e w38 ⟨v814,rfl,ho0,hb⟩;refine ⟨_,rfl, ?_⟩;replace HO_806001:=yVb HO_806001 hb;replace HO_810001:=yVb HO_810001 hb;have HO815:=yho (fun k_=>(P0_1_ k_∨w.heap.size≤k_)∧k_≠gb805∧k_≠gb806∧k_≠gb809) ho0 (fun k_ hk_=>⟨Or.elim hk_ (fun hs_=>hs_.1) (fun hn_=>(.inr (Nat.le_trans (zE yhb) hn_))),yoB BK805 hk_,yoB BK806 hk_,yoB BK809 hk_⟩);replace BK805:=ybb BK805 hb;replace BK806:=ybb BK806 hb;replace BK809:=ybb BK809 hb;replace HB:=ybs hb;(try clear hb);(try clear ho0);obtain ⟨_,_,_,_⟩:=yc2 BK809;obtain ⟨Ao40,co40,eo40⟩:=Kd.V_slice HO815.out;subst eo40))
          go_meet
          case rel=>exact ⟨_,(true),(x807000_2),(t812),(t813),(.slice Ao40 t813.length co40),yq,H',⟨yom3 HJ4 HK2 HJ27⟩,⟨yV0 HO_806001⟩,⟨yV0 HO815⟩,⟨yk BK805⟩,⟨yk BK806⟩,⟨ykp BK809⟩,⟨yhb⟩⟩
         ·
          rw [if_neg c33] at H
          have c33b0 : (t816 == 0)=false:=beq_eq_false_iff_ne.mpr c33
          have c33b1 : (t816 != 0)=true:=bne_iff_ne.mpr c33
          simp only [Option.some.injEq,Prod.mk.injEq] at H
          obtain ⟨rfl,rfl,rfl⟩:=H
          have:=NB809_805.out
          have:=NB805_809.out
          have:=NB809_806.out
          have:=NB806_809.out
          obtain ⟨_,_,_,_⟩:=yc2 BK809
          obtain ⟨Ao44,co44,eo44⟩:=Kd.V_slice HO_810001.out
          subst eo44
          go_wp2_with (first|((with_reducible refine gate_callee (f:=37) rfl ?_);refine ygl 57 Try.func37 #[.agg #[.int .u64 x810000_2, .slice Ao44 x810001_2.length co44], .int .i64 7, .int .i64 (7+1), .int .i64 8] ?_;(with_reducible refine (psalteryref05_Put.calls kj27 x810000_2 (fun k_=>((P0_1_ k_∨w.heap.size≤k_)∧(k_≠gb805∧(k_≠gb806∧k_≠gb809)))) _ _ x810001_2 7 (7+1) 8 t812 t813 t816 _ HO_810001.out A32.out).mono ?_);rintro e w45 ⟨v814,rfl,ho0,hb⟩;refine ⟨_,rfl, ?_⟩;replace HO_806001:=yVb HO_806001 hb;replace HO_810001:=yVb HO_810001 hb;have HO815:=yho (fun k_=>(P0_1_ k_∨w.heap.size≤k_)∧k_≠gb805∧k_≠gb806∧k_≠gb809) ho0 (fun k_ hk_=>⟨Or.elim hk_ (fun hs_=>hs_.1) (fun hn_=>(.inr (Nat.le_trans (zE yhb) hn_))),yoB BK805 hk_,yoB BK806 hk_,yoB BK809 hk_⟩);replace BK805:=ybb BK805 hb;replace BK806:=ybb BK806 hb;replace BK809:=ybb BK809 hb;replace HB:=ybs hb;(try clear hb);(try clear ho0);obtain ⟨_,_,_,_⟩:=yc2 BK809;obtain ⟨Ao47,co47,eo47⟩:=Kd.V_slice HO815.out;subst eo47;have:=NB805_806.out;have:=NB806_805.out;obtain ⟨_,_,_,_⟩:=yc2 BK805;obtain ⟨_,_,_,_⟩:=yc2 BK806))
          refine bodyPost_ret (results_ct rfl _ _ gb806 69 #[.int .u64 a0_0, .slice A0_1 l0_1.length c0_1] (0,0) _ rfl (ykp BK806) Try.underlying69 rfl (by kernel_rfl)) rfl ?_
          exact ⟨_,ye,yV0 HO_806001,yhb⟩
        ·
         replace c31:=Bool.eq_false_iff.mpr c31
         subst c31
         rw [ynf] at H
         obtain ⟨⟨t817,t818,t821⟩,A51,H⟩:=ybi H
         try dsimp only at H
         by_cases c52 : t821=0
         ·
          rw [if_pos c52] at H
          have c52b0 : (t821 == 0)=true:=beq_iff_eq.mpr c52
          have c52b1 : (t821 != 0)=false:=bne_eq_false_iff_eq.mpr c52
          clear c52
          have H' := zm H
          clear H
          have:=NB809_805.out
          have:=NB805_809.out
          have:=NB809_806.out
          have:=NB806_809.out
          obtain ⟨_,_,_,_⟩:=yc2 BK809
          obtain ⟨Ao56,co56,eo56⟩:=Kd.V_slice HO_810001.out
          subst eo56
          go_wp2_with (first|((with_reducible refine gate_callee (f:=37) rfl ?_);refine ygl 57 Try.func37 #[.agg #[.int .u64 x810000_2, .slice Ao56 x810001_2.length co56], .int .i64 (wrap64 ((wrap64 ((rd l1 x11_2) - (rd l2 x11_2)))+3)), .int .i64 (wrap64 ((wrap64 ((wrap64 ((rd l1 x11_2) - (rd l2 x11_2)))+3))+1)), .int .i64 8] ?_;(with_reducible refine (psalteryref05_Put.calls kj27 x810000_2 (fun k_=>((P0_1_ k_∨w.heap.size≤k_)∧(k_≠gb805∧(k_≠gb806∧k_≠gb809)))) _ _ x810001_2 (wrap64 ((wrap64 ((rd l1 x11_2) - (rd l2 x11_2)))+3)) (wrap64 ((wrap64 ((wrap64 ((rd l1 x11_2) - (rd l2 x11_2)))+3))+1)) 8 t817 t818 t821 _ HO_810001.out A51.out).mono ?_);rintro e w57 ⟨v819,rfl,ho0,hb⟩;refine ⟨_,rfl, ?_⟩;replace HO_806001:=yVb HO_806001 hb;replace HO_810001:=yVb HO_810001 hb;have HO820:=yho (fun k_=>(P0_1_ k_∨w.heap.size≤k_)∧k_≠gb805∧k_≠gb806∧k_≠gb809) ho0 (fun k_ hk_=>⟨Or.elim hk_ (fun hs_=>hs_.1) (fun hn_=>(.inr (Nat.le_trans (zE yhb) hn_))),yoB BK805 hk_,yoB BK806 hk_,yoB BK809 hk_⟩);replace BK805:=ybb BK805 hb;replace BK806:=ybb BK806 hb;replace BK809:=ybb BK809 hb;replace HB:=ybs hb;(try clear hb);(try clear ho0);obtain ⟨_,_,_,_⟩:=yc2 BK809;obtain ⟨Ao59,co59,eo59⟩:=Kd.V_slice HO820.out;subst eo59))
          go_meet
          case rel=>exact ⟨_,(false),(x807000_2),(t817),(t818),(.slice Ao59 t818.length co59),yq,H',⟨yom3 HJ4 HK2 HJ27⟩,⟨yV0 HO_806001⟩,⟨yV0 HO820⟩,⟨yk BK805⟩,⟨yk BK806⟩,⟨ykp BK809⟩,⟨yhb⟩⟩
         ·
          rw [if_neg c52] at H
          have c52b0 : (t821 == 0)=false:=beq_eq_false_iff_ne.mpr c52
          have c52b1 : (t821 != 0)=true:=bne_iff_ne.mpr c52
          simp only [Option.some.injEq,Prod.mk.injEq] at H
          obtain ⟨rfl,rfl,rfl⟩:=H
          have:=NB809_805.out
          have:=NB805_809.out
          have:=NB809_806.out
          have:=NB806_809.out
          obtain ⟨_,_,_,_⟩:=yc2 BK809
          obtain ⟨Ao63,co63,eo63⟩:=Kd.V_slice HO_810001.out
          subst eo63
          go_wp2_with (first|((with_reducible refine gate_callee (f:=37) rfl ?_);refine ygl 57 Try.func37 #[.agg #[.int .u64 x810000_2, .slice Ao63 x810001_2.length co63], .int .i64 (wrap64 ((wrap64 ((rd l1 x11_2) - (rd l2 x11_2)))+3)), .int .i64 (wrap64 ((wrap64 ((wrap64 ((rd l1 x11_2) - (rd l2 x11_2)))+3))+1)), .int .i64 8] ?_;(with_reducible refine (psalteryref05_Put.calls kj27 x810000_2 (fun k_=>((P0_1_ k_∨w.heap.size≤k_)∧(k_≠gb805∧(k_≠gb806∧k_≠gb809)))) _ _ x810001_2 (wrap64 ((wrap64 ((rd l1 x11_2) - (rd l2 x11_2)))+3)) (wrap64 ((wrap64 ((wrap64 ((rd l1 x11_2) - (rd l2 x11_2)))+3))+1)) 8 t817 t818 t821 _ HO_810001.out A51.out).mono ?_);rintro e w64 ⟨v819,rfl,ho0,hb⟩;refine ⟨_,rfl, ?_⟩;replace HO_806001:=yVb HO_806001 hb;replace HO_810001:=yVb HO_810001 hb;have HO820:=yho (fun k_=>(P0_1_ k_∨w.heap.size≤k_)∧k_≠gb805∧k_≠gb806∧k_≠gb809) ho0 (fun k_ hk_=>⟨Or.elim hk_ (fun hs_=>hs_.1) (fun hn_=>(.inr (Nat.le_trans (zE yhb) hn_))),yoB BK805 hk_,yoB BK806 hk_,yoB BK809 hk_⟩);replace BK805:=ybb BK805 hb;replace BK806:=ybb BK806 hb;replace BK809:=ybb BK809 hb;replace HB:=ybs hb;(try clear hb);(try clear ho0);obtain ⟨_,_,_,_⟩:=yc2 BK809;obtain ⟨Ao66,co66,eo66⟩:=Kd.V_slice HO820.out;subst eo66;have:=NB805_806.out;have:=NB806_805.out;obtain ⟨_,_,_,_⟩:=yc2 BK805;obtain ⟨_,_,_,_⟩:=yc2 BK806))
          refine bodyPost_ret (results_ct rfl _ _ gb806 69 #[.int .u64 a0_0, .slice A0_1 l0_1.length c0_1] (0,0) _ rfl (ykp BK806) Try.underlying69 rfl (by kernel_rfl)) rfl ?_
          exact ⟨_,ye,yV0 HO_806001,yhb⟩
     case rest =>
      clear HC23
      try clear c22b0
      obtain ⟨kq,x13_22,x807000_22,x810000_22,x810001_22,u810001,rfl,HA,HJ22,HO_806001,HO_810001,BK805,BK806,BK809,HB⟩:=hcut
      obtain ⟨kj22,rfl⟩:=ysu kq (fun h=>by subst h;exact absurd HA.out (by simp [psalteryref11_Put.j3]))
      have H:=HA.out;clear HA
      simp only [psalteryref11_Put.j3] at H
      by_cases c70 : x13_22=true
      ·
       subst c70
       rw [if_pos rfl] at H
       obtain ⟨c71,H⟩:=yif H
       have c71b0 : decide (0≤x11_2)=true:=decide_eq_true c71
       clear c71
       obtain ⟨c72,H⟩:=yif H
       have c72b0 : decide (x11_2 < (l1.length : Int))=true:=decide_eq_true c72
       clear c72
       obtain ⟨⟨t823,t824,t827⟩,A73,H⟩:=ybi H
       try dsimp only at H
       by_cases c74 : t827=0
       ·
        rw [if_pos c74] at H
        have c74b0 : (t827 == 0)=true:=beq_iff_eq.mpr c74
        have c74b1 : (t827 != 0)=false:=bne_eq_false_iff_eq.mpr c74
        clear c74
        have H' := zm H
        clear H
        try go_wp2
        replace HO_806001:=zm (zC HO_806001.out)
        replace HO_810001:=zm (zC HO_810001.out)
        replace BK805:=zm (zj BK805.out)
        replace BK806:=zm (zj BK806.out)
        replace BK809:=zm (zj BK809.out)
        replace HB:=zm (zf HB.out)
        have p822 : 0≤(x11_2 : Int):=yt
        have q822 : x11_2 < (l1.length : Int):=yt
        obtain ⟨ad822,e822,hx822_0⟩:=Kd.at_int HR1.out x11_2 p822 q822
        have hw822_0:=hx822_0
        cases e822
        replace hx822_0:=yhx HB hx822_0
        replace p822:=eq_true p822
        replace q822:=eq_true q822
        obtain ⟨Ao76,co76,eo76⟩:=Kd.V_slice HO_810001.out
        (first|subst eo76|(injection eo76 with f1_ f2_ f3_;have f4_:=f1_.symm;have f5_:=f3_.symm;clear f1_ f2_ f3_;subst f4_;subst f5_))
        refine yst (fun w' => w'.cell? ⟨gb809,0,none⟩=some (.int .u64 x810000_22)∧w'.cell? ⟨gb809,1,none⟩=some (.slice Ao76 x810001_22.length co76)∧w'.cell? (ad822.add (x11_2).toNat)=some (.int .i64 (rd l1 x11_2))) [10] 12 psalteryref11_Put.tab18 psalteryref11_Put.bits18 (fun hHeld HT_ HW_ => ?_)
        generalize wc.drew=w75 at HO_806001 HO_810001 BK805 BK806 BK809 HB hx822_0 hHeld ⊢
        refine yp 1 67 HT_ ?_
        refine yp 2 68 HT_ ?_
        refine yp 3 69 HT_ ?_
        refine yl 0 66 HT_ HW_ hHeld ?_
        refine yl 4 70 HT_ HW_ hHeld ?_
        refine yp 5 71 HT_ ?_
        refine yw 6 72 HT_ (fun K hK => ?_)
        refine ygs Try.func41 #[.agg #[.int .u64 x810000_22, .slice Ao76 x810001_22.length co76], .int .u64 (IntKind.u64.wrap (rd l1 x11_2)), .int .u64 45] ?_
        with_reducible refine (psalteryref05_PutNum.calls kj22 x810000_22 (fun k_=>((P0_1_ k_∨w.heap.size≤k_)∧(k_≠gb805∧(k_≠gb806∧k_≠gb809)))) _ _ x810001_22 (IntKind.u64.wrap (rd l1 x11_2)) 45 t823 t824 t827 _ ?side1 A73.out).mono ?_
        (case side1=>exact HO_810001.out)
        rintro e w77 ⟨v825,rfl,ho0,hb⟩
        refine ⟨_,rfl, ?_⟩
        replace HO_806001:=yVb HO_806001 hb
        replace HO_810001:=yVb HO_810001 hb
        have HO826:=yho (fun k_=>(P0_1_ k_∨w.heap.size≤k_)∧k_≠gb805∧k_≠gb806∧k_≠gb809) ho0 (fun k_ hk_=>⟨Or.elim hk_ (fun hs_=>hs_.1) (fun hn_=>(.inr (Nat.le_trans (zE yhb) hn_))),yoB BK805 hk_,yoB BK806 hk_,yoB BK809 hk_⟩)
        replace BK805:=ybb BK805 hb
        replace BK806:=ybb BK806 hb
        replace BK809:=ybb BK809 hb
        replace HB:=ybs hb
        (try clear hb)
        (try clear ho0)
        obtain ⟨Ao79,co79,eo79⟩:=Kd.V_slice HO826.out
        (first|subst eo79|(injection eo79 with f1_ f2_ f3_;have f4_:=f1_.symm;have f5_:=f3_.symm;clear f1_ f2_ f3_;subst f4_;subst f5_))
        refine hK.out _ _ yH (fun hHeld => ?_)
        clear hK K
        refine ym (some 72) ?_
        refine yp 7 65 HT_ ?_
        refine yp 8 73 HT_ ?_
        refine yp 9 74 HT_ ?_
        refine last_ (i:=10) (N:=none) #[true,true,true,true,true,true,true,true,true,true,true,false] rfl rfl (one_of HT_.out (by kernel_rfl)) (by decide) (fun K hK => ?_)
        have hs78 : w77.cell? ⟨gb809,0,none⟩=some (.int .u64 x810000_22):=(zs BK809.out 0).trans rfl
        have hfs78:=zx BK809.out 0
        have:=NB805_809.out
        have:=NB806_809.out
        have:=NB809_805.out
        have:=NB809_806.out
        have hs80 : w77.cell? ⟨gb809,1,none⟩=some (.slice Ao76 x810001_22.length co76):=(zs BK809.out 1).trans rfl
        have hfs80:=zx BK809.out 1
        have:=NB805_809.out
        have:=NB806_809.out
        have:=NB809_805.out
        have:=NB809_806.out
        refine skip_ (w1 := ?_) (by rfl) rfl ?_ ?_
        rotate_left
        ·
         go_simp
         rfl
        refine hK.out _ _ ?_
        clear hK K
        refine yp 11 12 HT_ ?_
        refine done_ (done_of HT_.out (by kernel_rfl)) ?_
        try go_wp2
        go_roundg kj22
        case measure=>exact yom3 HJ4 HK2 HJ22
        case rel=>exact ⟨(wrap64 (x11_2+1)),(x807000_22),(t823),(t824),(.slice Ao79 t824.length co79),yq,H',⟨yom3 HJ4 HK2 HJ22⟩,⟨yV0 HO_806001⟩,⟨yV0 HO826⟩,⟨yk BK805⟩,⟨yk BK806⟩,⟨ykp BK809⟩,⟨yhb⟩⟩
       ·
        rw [if_neg c74] at H
        have c74b0 : (t827 == 0)=false:=beq_eq_false_iff_ne.mpr c74
        have c74b1 : (t827 != 0)=true:=bne_iff_ne.mpr c74
        simp only [Option.some.injEq,Prod.mk.injEq] at H
        obtain ⟨rfl,rfl,rfl⟩:=H
        try go_wp2
        replace HO_806001:=zm (zC HO_806001.out)
        replace HO_810001:=zm (zC HO_810001.out)
        replace BK805:=zm (zj BK805.out)
        replace BK806:=zm (zj BK806.out)
        replace BK809:=zm (zj BK809.out)
        replace HB:=zm (zf HB.out)
        have p822 : 0≤(x11_2 : Int):=yt
        have q822 : x11_2 < (l1.length : Int):=yt
        obtain ⟨ad822,e822,hx822_0⟩:=Kd.at_int HR1.out x11_2 p822 q822
        have hw822_0:=hx822_0
        cases e822
        replace hx822_0:=yhx HB hx822_0
        replace p822:=eq_true p822
        replace q822:=eq_true q822
        obtain ⟨Ao82,co82,eo82⟩:=Kd.V_slice HO_810001.out
        (first|subst eo82|(injection eo82 with f1_ f2_ f3_;have f4_:=f1_.symm;have f5_:=f3_.symm;clear f1_ f2_ f3_;subst f4_;subst f5_))
        refine yst (fun w' => w'.cell? ⟨gb809,0,none⟩=some (.int .u64 x810000_22)∧w'.cell? ⟨gb809,1,none⟩=some (.slice Ao82 x810001_22.length co82)∧w'.cell? (ad822.add (x11_2).toNat)=some (.int .i64 (rd l1 x11_2))) [10] 12 psalteryref11_Put.tab18 psalteryref11_Put.bits18 (fun hHeld HT_ HW_ => ?_)
        generalize wc.drew=w81 at HO_806001 HO_810001 BK805 BK806 BK809 HB hx822_0 hHeld ⊢
        refine yp 1 67 HT_ ?_
        refine yp 2 68 HT_ ?_
        refine yp 3 69 HT_ ?_
        refine yl 0 66 HT_ HW_ hHeld ?_
        refine yl 4 70 HT_ HW_ hHeld ?_
        refine yp 5 71 HT_ ?_
        refine yw 6 72 HT_ (fun K hK => ?_)
        refine ygs Try.func41 #[.agg #[.int .u64 x810000_22, .slice Ao82 x810001_22.length co82], .int .u64 (IntKind.u64.wrap (rd l1 x11_2)), .int .u64 45] ?_
        with_reducible refine (psalteryref05_PutNum.calls kj22 x810000_22 (fun k_=>((P0_1_ k_∨w.heap.size≤k_)∧(k_≠gb805∧(k_≠gb806∧k_≠gb809)))) _ _ x810001_22 (IntKind.u64.wrap (rd l1 x11_2)) 45 t823 t824 t827 _ ?side1 A73.out).mono ?_
        (case side1=>exact HO_810001.out)
        rintro e w83 ⟨v825,rfl,ho0,hb⟩
        refine ⟨_,rfl, ?_⟩
        replace HO_806001:=yVb HO_806001 hb
        replace HO_810001:=yVb HO_810001 hb
        have HO826:=yho (fun k_=>(P0_1_ k_∨w.heap.size≤k_)∧k_≠gb805∧k_≠gb806∧k_≠gb809) ho0 (fun k_ hk_=>⟨Or.elim hk_ (fun hs_=>hs_.1) (fun hn_=>(.inr (Nat.le_trans (zE yhb) hn_))),yoB BK805 hk_,yoB BK806 hk_,yoB BK809 hk_⟩)
        replace BK805:=ybb BK805 hb
        replace BK806:=ybb BK806 hb
        replace BK809:=ybb BK809 hb
        replace HB:=ybs hb
        (try clear hb)
        (try clear ho0)
        obtain ⟨Ao85,co85,eo85⟩:=Kd.V_slice HO826.out
        (first|subst eo85|(injection eo85 with f1_ f2_ f3_;have f4_:=f1_.symm;have f5_:=f3_.symm;clear f1_ f2_ f3_;subst f4_;subst f5_))
        refine hK.out _ _ yH (fun hHeld => ?_)
        clear hK K
        refine ym (some 72) ?_
        refine yp 7 65 HT_ ?_
        refine yp 8 73 HT_ ?_
        refine yp 9 74 HT_ ?_
        refine last_ (i:=10) (N:=none) #[true,true,true,true,true,true,true,true,true,true,true,false] rfl rfl (one_of HT_.out (by kernel_rfl)) (by decide) (fun K hK => ?_)
        have hs84 : w83.cell? ⟨gb809,0,none⟩=some (.int .u64 x810000_22):=(zs BK809.out 0).trans rfl
        have hfs84:=zx BK809.out 0
        have:=NB805_809.out
        have:=NB806_809.out
        have:=NB809_805.out
        have:=NB809_806.out
        have hs86 : w83.cell? ⟨gb809,1,none⟩=some (.slice Ao82 x810001_22.length co82):=(zs BK809.out 1).trans rfl
        have hfs86:=zx BK809.out 1
        have:=NB805_809.out
        have:=NB806_809.out
        have:=NB809_805.out
        have:=NB809_806.out
        refine skip_ (w1 := ?_) (by rfl) rfl ?_ ?_
        rotate_left
        ·
         go_simp
         rfl
        refine hK.out _ _ ?_
        clear hK K
        refine yp 11 12 HT_ ?_
        refine done_ (done_of HT_.out (by kernel_rfl)) ?_
        have:=NB805_806.out
        have:=NB806_805.out
        have:=NB805_809.out
        have:=NB809_805.out
        obtain ⟨_,_,_,_⟩:=yc2 BK805
        have:=NB806_809.out
        have:=NB809_806.out
        obtain ⟨_,_,_,_⟩:=yc2 BK806
        try go_wp2
        refine bodyPost_ret (results_ct rfl _ _ gb806 69 #[.int .u64 a0_0, .slice A0_1 l0_1.length c0_1] (0,0) _ rfl (ykp BK806) Try.underlying69 rfl (by kernel_rfl)) rfl ?_
        exact ⟨_,ye,yV0 HO_806001,yhb⟩
      ·
       replace c70:=Bool.eq_false_iff.mpr c70
       subst c70
       rw [ynf] at H
       have H' := zm H
       clear H
       go_wp2
       go_roundg kj22
       case measure=>exact yom3 HJ4 HK2 HJ22
       case rel=>exact ⟨(wrap64 (x11_2+1)),(x807000_22),(x810000_22),(x810001_22),(u810001),yq,H',⟨yom3 HJ4 HK2 HJ22⟩,⟨yr HO_806001⟩,⟨yr HO_810001⟩,⟨yk BK805⟩,⟨yk BK806⟩,⟨yk BK809⟩,⟨yhb⟩⟩
    ·
     rw [if_neg c22] at H
     have c22b0 : decide (x11_2 < 5)=false:=decide_eq_false c22
     clear c22
     simp only [Option.some.injEq,Prod.mk.injEq] at H
     obtain ⟨rfl,rfl,rfl⟩:=H
     have:=NB809_805.out
     have:=NB805_809.out
     have:=NB809_806.out
     have:=NB806_809.out
     obtain ⟨_,_,_,_⟩:=yc2 BK809
     have:=NB806_805.out
     have:=NB805_806.out
     obtain ⟨_,_,_,_⟩:=yc2 BK806
     obtain ⟨Ao97,co97,eo97⟩:=Kd.V_slice HO_810001.out
     subst eo97
     go_wp2
     refine bodyPost_ret (results_ct rfl _ _ gb806 69 #[.int .u64 x810000_2, .slice Ao97 x810001_2.length co97] (0,0) _ rfl (ykp BK806) Try.underlying69 rfl (by kernel_rfl)) rfl ?_
     exact ⟨_,ye,yV0 HO_810001,yhb⟩
def psalteryref13_At.f (l0 : List (List Int)) (a1 : Int) : Option (List Int):=if a1 < (l0.length : Int) then (if 0≤a1 then (some (rd_L1 l0 a1)) else (none)) else (some ([] : List Int))
set_option maxHeartbeats 8000000 in
set_option maxRecDepth 100000 in
theorem psalteryref13_At.calls (P0_ : Nat→Prop) (A0 : Option Addr) (c0 : Nat) (l0 : List (List Int)) (a1 : Int) (r : List Int) (w : World) (hs0 : Kd.V (Kd.slice 3 (Kd.int .i64)) 49 w w.heap.size (fun k_=>P0_ k_) (.slice A0 l0.length c0) l0) (h : psalteryref13_At.f l0 a1=some r) :
  Calls Try.prog 39 #[.slice A0 l0.length c0, .int .i64 a1] w fun e w' => ∃ v0_ : Value,e=.returned (v0_)∧Kd.V (Kd.int .i64) 3 w' w.heap.size (fun k_=>(P0_ k_∨w.heap.size≤k_)) v0_ r∧Below w.heap.size w w' := by
 have HO0:=zm (show Kd.V (Kd.slice 3 (Kd.int .i64)) 49 w w.heap.size (fun k_=>(P0_ k_∨w.heap.size≤k_)) (.slice A0 l0.length c0) l0 from zy hs0 (fun k_ hk => .inl hk))
 have HB:=zm (Below.refl w.heap.size w)
 have H : (if a1 < (l0.length : Int) then (if 0≤a1 then (some (rd_L1 l0 a1)) else (none)) else (some ([] : List Int)))=some r:=h
 clear h
 by_cases c3 : a1 < (l0.length : Int)
 ·
  rw [if_pos c3] at H
  have c3b0 : decide (a1 < (l0.length : Int))=true:=decide_eq_true c3
  clear c3
  obtain ⟨c4,H⟩:=yif H
  have c4b0 : decide (0≤a1)=true:=decide_eq_true c4
  clear c4
  obtain rfl:=Option.some.inj H
  have p828 : 0≤(a1 : Int):=yt
  have q828 : a1 < (l0.length : Int):=yt
  obtain ⟨ad828,A828_0,c828_0,e828,hx828_0,hl828_0,hi828_0⟩:=at_L1 (Kd.V_reads' HO0.out).2.2 a1 p828 q828
  cases e828
  obtain ⟨ce828,hce828,hMe828,hcc828⟩:=Kd.V_get HO0.out [] a1 p828 (by first|exact q828|exact yt|(have e_:=(Kd.V_reads' HO0.out).1;omega))
  obtain ⟨ua828_0,uc828_0,rfl,ul828_0,ge828_0⟩:=Kd.FK_slice_open hMe828
  have hv828_0:=hcc828 0 _ rfl
  rw [Nat.add_zero,show ((Kd.slice 3 (Kd.int .i64))).sz=1 from rfl,Nat.mul_one] at hv828_0
  replace hv828_0:=Option.some.inj (hv828_0.symm.trans hx828_0)
  injection hv828_0 with hva_ hvn_ hvc_
  rw [hva_] at ge828_0
  rw [hvc_] at ul828_0
  have HL828_0:=zm (show Kd.V (Kd.int .i64) 3 _ w.heap.size _ _ (rd_L1 l0 a1) from Kd.V_mk ul828_0 ge828_0)
  clear hva_ hvn_ hvc_ ge828_0 ul828_0;clear hcc828 hce828;have HR828_0:=zm hi828_0;have HC828_0:=zm hl828_0;clear hi828_0 hl828_0
  replace p828:=eq_true p828
  replace q828:=eq_true q828
  go_enter Try.func39,Try.ntmps39
  go_wp2
  go_ret
  exact ⟨_,ye,yr HL828_0,yhb⟩
 ·
  rw [if_neg c3] at H
  have c3b0 : decide (a1 < (l0.length : Int))=false:=decide_eq_false c3
  clear c3
  obtain rfl:=Option.some.inj H
  go_enter Try.func39,Try.ntmps39
  go_wp2
  go_ret
  exact ⟨_,ye,(by first|exact Kd.V_nil _ _ _ _ _|exact zy (Kd.R_V (yn)) (fun k_ hk=>by first|exact ⟨(.inr (hk.1)),hk.2⟩|exact (.inr (hk)))),yhb⟩
mutual
def psalteryref13_Write.j0 : Nat→Int→Int→List (List Int)→Bool→List (List Int)→List (List (List Int))→Int→List Int→Option (List Int)
 | 0,_,_,_,_,_,_,_,_=>none
 | k+1,x0,x1,x3,x855000,x855001,x855002,x860000,x860001=>psalteryref13_Write.l0 k x0 x1 x3 0 x855000 x855001 x855002 x860000 x860001
def psalteryref13_Write.l0 : Nat→Int→Int→List (List Int)→Int→Bool→List (List Int)→List (List (List Int))→Int→List Int→Option (List Int)
 | 0,_,_,_,_,_,_,_,_,_=>none
 | k+1,x0,x1,x3,x10,x855000,x855001,x855002,x860000,x860001=>if x10 < x1 then (if 0≤x10 then (if x10 < (x855001.length : Int) then ((psalteryref13_At.f x3 x10).bind fun t871=>((psalteryref11_Put.f k x860000 x860001 (rd_L1 x855001 x10) t871 x855000).bind fun bt874=>(psalteryref13_Write.l0 k x0 x1 x3 (wrap64 (x10+1)) x855000 x855001 x855002 bt874.1 bt874.2.1))) else (none)) else (none)) else (psalteryref13_Write.l1 k x0 x1 0 x855000 x855001 x855002 x860000 x860001)
def psalteryref13_Write.l1 : Nat→Int→Int→Int→Bool→List (List Int)→List (List (List Int))→Int→List Int→Option (List Int)
 | 0,_,_,_,_,_,_,_,_=>none
 | k+1,x0,x1,x11,x855000,x855001,x855002,x860000,x860001=>if x11 < x1 then (psalteryref13_Write.l2 k x0 x1 x11 0 x855000 x855001 x855002 x860000 x860001) else (psalteryref13_Write.l3 k x0 ([] : List Int) 0 x860000 x860001)
def psalteryref13_Write.l2 : Nat→Int→Int→Int→Int→Bool→List (List Int)→List (List (List Int))→Int→List Int→Option (List Int)
 | 0,_,_,_,_,_,_,_,_,_=>none
 | k+1,x0,x1,x11,x12,x855000,x855001,x855002,x860000,x860001=>if x12 < 5 then (if 0≤x11 then (if x11 < (x855002.length : Int) then (if 0≤x12 then (if x12 < ((rd_L2 x855002 x11).length : Int) then ((psalteryref06_Pulses.f k (rd_L1 (rd_L2 x855002 x11) x12)).bind fun t881=>(if t881 > 0 then ((psalteryref06_Index.f k (rd_L1 (rd_L2 x855002 x11) x12)).bind fun t882=>((psalteryref06_Count.f k ((rd_L1 (rd_L2 x855002 x11) x12).length : Int) t881).bind fun t883=>((psalteryref05_PutNum.f k x860000 x860001 t882 t883).bind fun bt884=>(psalteryref13_Write.l2 k x0 x1 x11 (wrap64 (x12+1)) x855000 x855001 x855002 bt884.1 bt884.2.1)))) else (psalteryref13_Write.l2 k x0 x1 x11 (wrap64 (x12+1)) x855000 x855001 x855002 x860000 x860001))) else (none)) else (none)) else (none)) else (none)) else (psalteryref13_Write.l1 k x0 x1 (wrap64 (x11+1)) x855000 x855001 x855002 x860000 x860001)
def psalteryref13_Write.l3 : Nat→Int→List Int→Int→Int→List Int→Option (List Int)
 | 0,_,_,_,_,_=>none
 | k+1,x0,x15,x16,x860000,x860001=>if x16 < x0 then (if x16 < (x860001.length : Int) then (if 0≤x16 then (if x15.length < 140737488355328 then (psalteryref13_Write.l3 k x0 (x15 ++ [(rd x860001 x16) % 256]) (wrap64 (x16+1)) x860000 x860001) else (none)) else (none)) else (if x15.length < 140737488355328 then (psalteryref13_Write.l3 k x0 (x15 ++ [0]) (wrap64 (x16+1)) x860000 x860001) else (none))) else (some x15)
end
def psalteryref13_Write.f (k : Nat) (a0 : Int) (a1 : Int) (a2_0 : Bool) (l2_1 : List (List Int)) (l2_2 : List (List (List Int))) (l3 : List (List Int)) : Option (List Int):=(psalteryref05_New.f).bind fun bt855=>(if a2_0=true then ((psalteryref05_Put.f k bt855.1 bt855.2 1 2 2).bind fun bt860=>(psalteryref13_Write.j0 k a0 a1 l3 a2_0 l2_1 l2_2 bt860.1 bt860.2.1)) else ((psalteryref05_Put.f k bt855.1 bt855.2 0 1 2).bind fun bt865=>(psalteryref13_Write.j0 k a0 a1 l3 a2_0 l2_1 l2_2 bt865.1 bt865.2.1)))
theorem psalteryref13_Write.mono_l : ∀ k,(∀ y0 y1 y2 y3 y4 y5 y6 y7,LeO (psalteryref13_Write.j0 k y0 y1 y2 y3 y4 y5 y6 y7) (psalteryref13_Write.j0 (k+1) y0 y1 y2 y3 y4 y5 y6 y7))∧(∀ y0 y1 y2 y3 y4 y5 y6 y7 y8,LeO (psalteryref13_Write.l0 k y0 y1 y2 y3 y4 y5 y6 y7 y8) (psalteryref13_Write.l0 (k+1) y0 y1 y2 y3 y4 y5 y6 y7 y8))∧(∀ y0 y1 y2 y3 y4 y5 y6 y7,LeO (psalteryref13_Write.l1 k y0 y1 y2 y3 y4 y5 y6 y7) (psalteryref13_Write.l1 (k+1) y0 y1 y2 y3 y4 y5 y6 y7))∧(∀ y0 y1 y2 y3 y4 y5 y6 y7 y8,LeO (psalteryref13_Write.l2 k y0 y1 y2 y3 y4 y5 y6 y7 y8) (psalteryref13_Write.l2 (k+1) y0 y1 y2 y3 y4 y5 y6 y7 y8))∧(∀ y0 y1 y2 y3 y4,LeO (psalteryref13_Write.l3 k y0 y1 y2 y3 y4) (psalteryref13_Write.l3 (k+1) y0 y1 y2 y3 y4))
 | 0=>⟨fun _ _ _ _ _ _ _ _ r h=>by simp [psalteryref13_Write.j0] at h,fun _ _ _ _ _ _ _ _ _ r h=>by simp [psalteryref13_Write.l0] at h,fun _ _ _ _ _ _ _ _ r h=>by simp [psalteryref13_Write.l1] at h,fun _ _ _ _ _ _ _ _ _ r h=>by simp [psalteryref13_Write.l2] at h,fun _ _ _ _ _ r h=>by simp [psalteryref13_Write.l3] at h⟩
 | k+1=>by
  obtain ⟨ih0,ih1,ih2,ih3,ih4⟩:=psalteryref13_Write.mono_l k
  refine ⟨?_, ?_, ?_, ?_, ?_⟩
  ·
   intro y0 y1 y2 y3 y4 y5 y6 y7
   unfold psalteryref13_Write.j0
   repeat' with_reducible first|apply ih0|apply ih1|apply ih2|apply ih3|apply ih4|apply psalteryref05_Put.mono|apply psalteryref05_PutNum.mono|apply psalteryref06_Count.mono|apply psalteryref06_Index.mono|apply psalteryref06_Pulses.mono|apply psalteryref11_Put.mono|apply yLr|apply yLn|apply yLi|apply yLb|intro _
  ·
   intro y0 y1 y2 y3 y4 y5 y6 y7 y8
   unfold psalteryref13_Write.l0
   repeat' with_reducible first|apply ih0|apply ih1|apply ih2|apply ih3|apply ih4|apply psalteryref05_Put.mono|apply psalteryref05_PutNum.mono|apply psalteryref06_Count.mono|apply psalteryref06_Index.mono|apply psalteryref06_Pulses.mono|apply psalteryref11_Put.mono|apply yLr|apply yLn|apply yLi|apply yLb|intro _
  ·
   intro y0 y1 y2 y3 y4 y5 y6 y7
   unfold psalteryref13_Write.l1
   repeat' with_reducible first|apply ih0|apply ih1|apply ih2|apply ih3|apply ih4|apply psalteryref05_Put.mono|apply psalteryref05_PutNum.mono|apply psalteryref06_Count.mono|apply psalteryref06_Index.mono|apply psalteryref06_Pulses.mono|apply psalteryref11_Put.mono|apply yLr|apply yLn|apply yLi|apply yLb|intro _
  ·
   intro y0 y1 y2 y3 y4 y5 y6 y7 y8
   unfold psalteryref13_Write.l2
   repeat' with_reducible first|apply ih0|apply ih1|apply ih2|apply ih3|apply ih4|apply psalteryref05_Put.mono|apply psalteryref05_PutNum.mono|apply psalteryref06_Count.mono|apply psalteryref06_Index.mono|apply psalteryref06_Pulses.mono|apply psalteryref11_Put.mono|apply yLr|apply yLn|apply yLi|apply yLb|intro _
  ·
   intro y0 y1 y2 y3 y4
   unfold psalteryref13_Write.l3
   repeat' with_reducible first|apply ih0|apply ih1|apply ih2|apply ih3|apply ih4|apply psalteryref05_Put.mono|apply psalteryref05_PutNum.mono|apply psalteryref06_Count.mono|apply psalteryref06_Index.mono|apply psalteryref06_Pulses.mono|apply psalteryref11_Put.mono|apply yLr|apply yLn|apply yLi|apply yLb|intro _
theorem psalteryref13_Write.mono : ∀ a0 a1 a2 a3 a4 a5 k,LeO (psalteryref13_Write.f k a0 a1 a2 a3 a4 a5) (psalteryref13_Write.f (k+1) a0 a1 a2 a3 a4 a5):=by
 intro a0 a1 a2 a3 a4 a5 k
 obtain ⟨ih0,ih1,ih2,ih3,ih4⟩:=psalteryref13_Write.mono_l k
 unfold psalteryref13_Write.f
 repeat' with_reducible first|apply ih0|apply ih1|apply ih2|apply ih3|apply ih4|apply psalteryref05_Put.mono|apply psalteryref05_PutNum.mono|apply psalteryref06_Count.mono|apply psalteryref06_Index.mono|apply psalteryref06_Pulses.mono|apply psalteryref11_Put.mono|apply yLr|apply yLn|apply yLi|apply yLb|intro _
def psalteryref13_Write.T8 : Bool × List (List Nat × List Nat):=(true, [([], []),([], []),([1], [1]),([], []),([2,3], [2,3]),([4], [4]),([], []),([], []),([6,7], [6,7]),([], []),([9], [9]),([0,5,8,10,8], [0,5,8,10]),([11], [11]),([12], [12]),([12], [12]),([13,11,0,1,2,3,4,5,6,7,8,9,10,11,12,13], [13])])
def psalteryref13_Write.B8 : List Nat := [0,0,2,0,14,30,0,0,192,0,512,2047,4095,8191,8191,16383]
theorem psalteryref13_Write.tab8 : rtab .any (opsOf Try.f18 8)=psalteryref13_Write.T8:=by kernel_rfl
theorem psalteryref13_Write.bits8 : waitsOk psalteryref13_Write.T8.2 psalteryref13_Write.B8=true:=by kernel_rfl
def psalteryref13_Write.T18 : Bool × List (List Nat × List Nat):=(true, [([], []),([], []),([1], [1]),([], []),([3], [3]),([], []),([4,5,2], [4,5]),([0,2,6,6], [0,2,6]),([7], [7]),([8], [8]),([8], [8]),([9,7,0,1,2,3,4,5,6,7,8,9], [9])])
def psalteryref13_Write.B18 : List Nat := [0,0,2,0,8,0,62,127,255,511,511,1023]
theorem psalteryref13_Write.tab18 : rtab .any (opsOf Try.f18 18)=psalteryref13_Write.T18:=by kernel_rfl
theorem psalteryref13_Write.bits18 : waitsOk psalteryref13_Write.T18.2 psalteryref13_Write.B18=true:=by kernel_rfl
set_option maxHeartbeats 8000000 in
set_option maxRecDepth 100000 in
theorem psalteryref13_Write.calls (k : Nat) (a0 : Int) (a1 : Int) (a2_0 : Bool) (A2_1 : Option Addr) (c2_1 : Nat) (l2_1 : List (List Int)) (A2_2 : Option Addr) (c2_2 : Nat) (l2_2 : List (List (List Int))) (A3 : Option Addr) (c3 : Nat) (l3 : List (List Int)) (r : List Int) (w : World) (hr2_1 : Kd.C (Kd.slice 3 (Kd.int .i64)) w A2_1 l2_1.length l2_1) (hc2_1 : l2_1.length≤c2_1) (hr2_2 : Kd.C (Kd.slice 49 (Kd.slice 3 (Kd.int .i64))) w A2_2 l2_2.length l2_2) (hc2_2 : l2_2.length≤c2_2) (hr3 : Kd.C (Kd.slice 3 (Kd.int .i64)) w A3 l3.length l3) (hc3 : l3.length≤c3) (h : psalteryref13_Write.f k a0 a1 a2_0 l2_1 l2_2 l3=some r) :
  Calls Try.prog 18 #[.int .i64 a0, .int .i64 a1, .agg #[.bool a2_0, .slice A2_1 l2_1.length c2_1, .slice A2_2 l2_2.length c2_2], .slice A3 l3.length c3] w fun e w' => ∃ v0_ : Value,e=.returned (v0_)∧Kd.R (Kd.int .u8) 5 w' w.heap.size (fun _=>True) v0_ r∧Below w.heap.size w w' := by
 have hu33:=Try.underlying33;have hu69:=Try.underlying69;have HR2_1:=zm hr2_1;have HC2_1:=zm hc2_1;clear hr2_1 hc2_1;have HR2_2:=zm hr2_2;have HC2_2:=zm hc2_2;clear hr2_2 hc2_2;have HR3:=zm hr3;have HC3:=zm hc3;clear hr3 hc3;have HB:=zm (Below.refl w.heap.size w)
 have H : ((psalteryref05_New.f).bind fun bt855=>(if a2_0=true then ((psalteryref05_Put.f k bt855.1 bt855.2 1 2 2).bind fun bt860=>(psalteryref13_Write.j0 k a0 a1 l3 a2_0 l2_1 l2_2 bt860.1 bt860.2.1)) else ((psalteryref05_Put.f k bt855.1 bt855.2 0 1 2).bind fun bt865=>(psalteryref13_Write.j0 k a0 a1 l3 a2_0 l2_1 l2_2 bt865.1 bt865.2.1))))=some r:=h
 clear h
 obtain ⟨⟨t855,t856⟩,A5,H⟩:=ybi H
 try dsimp only at H
 have HC6:=zm H;clear H
 go_enter Try.func18,Try.ntmps18
 go_upto_if 19 with (first|((with_reducible refine gate_dst (N:=6) rfl ?_);refine ybx 6 #[.bool a2_0, .slice A2_1 l2_1.length c2_1, .slice A2_2 l2_2.length c2_2] 33 ?_;intro gb854 hg w7 hbox hb;have BK854:=zm (hbox);have GW854:=ygw hg;have GE854:=ygw hg;replace HB:=ybs hb;clear hb hbox hg)|((with_reducible refine gate_callee (f:=36) rfl ?_);refine ygl 17 Try.func36 #[] ?_;(with_reducible refine (psalteryref05_New.calls  t855 t856 _ A5.out).mono ?_);rintro e w8 ⟨v857,rfl,ho0,hb⟩;refine ⟨_,rfl, ?_⟩;have HO858:=zm (Kd.R_lower ho0 (zE yhb));replace BK854:=ybb BK854 hb;replace HB:=ybs hb;(try clear hb);(try clear ho0))|((with_reducible refine gate_dst (N:=9) rfl ?_);refine ybx 9 #[.int .u64 0, .slice none 0 0] 69 ?_;intro gb859 hg w9 hbox hb;replace HO858:=yRb HO858 hb;have BK859:=zm (hbox);have GW859:=ygw hg;have GE859:=ygw hg;replace HB:=ybs hb;have NB854_859:=ynl BK854 hg;have NB859_854:=yng BK854 hg;replace BK854:=ybb BK854 hb;clear hb hbox hg;have:=NB859_854.out;have:=NB854_859.out;obtain ⟨hcz11_0,hcz11_1,hfz11_0,hfz11_1⟩:=yc2 BK859;obtain ⟨Ao12,co12,eo12⟩:=Kd.R_slice HO858.out;subst eo12)|((with_reducible refine gate_store (t:=69) (p:=9) rfl ?_);refine store_event (t:=69) (p:=9) (v := ?vo_w13) (w1:=((w9.setCell ⟨gb859,0,none⟩ (.int .u64 t855)).setCell ⟨gb859,1,none⟩ (.slice Ao12 t856.length co12))) ?hg ?ho ?hn ?hr ?_;(case ho=>rfl);(case hg=>rfl);(case hn=>rfl);(case hr=>first|(go_simp;done)|(go_simp;rfl));intro w13 hw;replace HO858 : Aside0 (Kd.R (Kd.int .i64) 3 w13 w.heap.size (fun _=>True) (.slice Ao12 t856.length co12) t856):=⟨(by rw [hw];exact (yR1 HO858 BK859))⟩;replace BK854 : Aside0 (w13.heap[gb854]? = some (.cells #[.bool a2_0, .slice A2_1 l2_1.length c2_1, .slice A2_2 l2_2.length c2_2] 33 (0,0))):=⟨(by rw [hw];exact (yk BK854))⟩;replace BK859 : Aside0 (w13.heap[gb859]? = some (.cells #[.int .u64 t855, .slice Ao12 t856.length co12] 69 (0,0))):=⟨(by rw [hw];exact (ykp BK859))⟩;replace HB : Aside0 (Below w.heap.size w w13):=⟨(by rw [hw];exact yhb)⟩;clear hw;obtain ⟨hcz14_0,hcz14_1,hcz14_2,hfz14_0,hfz14_1,hfz14_2⟩:=yc3 BK854))
 (try simp only [Act.put,List.setIfInBounds_toArray,List.set_cons_zero,List.set_cons_succ])
 go_cut [] (fun wc => ∃ (kq : Nat) (x860000_5 : Int) (x860001_5 : List Int) (u860001 : Value),Aside0 (psalteryref13_Write.j0 kq a0 a1 l3 a2_0 l2_1 l2_2 x860000_5 x860001_5=some r)∧Aside0 (kq≤k)∧Aside0 (Kd.V (Kd.int .i64) 3 wc w.heap.size (fun k_=>k_≠gb854∧k_≠gb859) u860001 x860001_5)∧Aside0 (wc.heap[gb854]? = some (.cells #[.bool a2_0,(.slice A2_1 l2_1.length c2_1),(.slice A2_2 l2_2.length c2_2)] 33 (0,0)))∧Aside0 (wc.heap[gb859]? = some (.cells #[.int .u64 x860000_5,u860001] 69 (0,0)))∧Aside0 (Below w.heap.size w wc))
 case first =>
  have H:=HC6.out;clear HC6
  by_cases c15 : a2_0=true
  ·
   subst c15
   rw [if_pos rfl] at H
   obtain ⟨⟨t860,t861,t864⟩,A16,H⟩:=ybi H
   try dsimp only at H
   have H' := zm H
   clear H
   have:=NB859_854.out
   have:=NB854_859.out
   obtain ⟨_,_,_,_⟩:=yc2 BK859
   go_wp2_with (first|((with_reducible refine gate_callee (f:=37) rfl ?_);refine ygl 22 Try.func37 #[.agg #[.int .u64 t855, .slice Ao12 t856.length co12], .int .i64 1, .int .i64 2, .int .i64 2] ?_;(with_reducible refine (psalteryref05_Put.calls k t855 (fun k_=>some k_=(.slice Ao12 t856.length co12 : Value).ownBlock) _ _ t856 1 2 2 t860 t861 t864 _ ?side1 A16.out).mono ?_);(case side1=>exact Kd.R_V (Kd.R_tight rfl (Kd.R_types (Kd.R_types (HO858.out) BK854.out (by decide)) BK859.out (by decide))));rintro e w19 ⟨v862,rfl,ho0,hb⟩;refine ⟨_,rfl, ?_⟩;have HO863:=yho (fun k_=>k_≠gb854∧k_≠gb859) ho0 (fun k_ hk_=>⟨Or.elim hk_ (fun hs_=>((Kd.R_types (Kd.R_types (HO858.out) BK854.out (by decide)) BK859.out (by decide)).1 k_ hs_.symm).1.2) (fun hn_=>(Kd.freshB (yk BK854) k_ hn_)),Or.elim hk_ (fun hs_=>((Kd.R_types (Kd.R_types (HO858.out) BK854.out (by decide)) BK859.out (by decide)).1 k_ hs_.symm).2) (fun hn_=>(Kd.freshB (yk BK859) k_ hn_))⟩);replace HO858:=yRb HO858 hb;replace BK854:=ybb BK854 hb;replace BK859:=ybb BK859 hb;replace HB:=ybs hb;(try clear hb);(try clear ho0);obtain ⟨_,_,_,_⟩:=yc2 BK859;obtain ⟨Ao21,co21,eo21⟩:=Kd.V_slice HO863.out;subst eo21)|((with_reducible refine gate_store (t:=69) (p:=9) rfl ?_);refine store_event (t:=69) (p:=9) (v := ?vo_w22) (w1:=((w19.setCell ⟨gb859,0,none⟩ (.int .u64 t860)).setCell ⟨gb859,1,none⟩ (.slice Ao21 t861.length co21))) ?hg ?ho ?hn ?hr ?_;(case ho=>rfl);(case hg=>rfl);(case hn=>rfl);(case hr=>first|(go_simp;done)|(go_simp;rfl));intro w22 hw;replace HO858 : Aside0 (Kd.R (Kd.int .i64) 3 w22 w.heap.size (fun _=>True) (.slice Ao12 t856.length co12) t856):=⟨(by rw [hw];exact (yR1 HO858 BK859))⟩;replace HO863 : Aside0 (Kd.V (Kd.int .i64) 3 w22 w.heap.size (fun k_=>k_≠gb854∧k_≠gb859) (.slice Ao21 t861.length co21) t861):=⟨(by rw [hw];exact (yV0 HO863))⟩;replace BK854 : Aside0 (w22.heap[gb854]? = some (.cells #[.bool true, .slice A2_1 l2_1.length c2_1, .slice A2_2 l2_2.length c2_2] 33 (0,0))):=⟨(by rw [hw];exact (yk BK854))⟩;replace BK859 : Aside0 (w22.heap[gb859]? = some (.cells #[.int .u64 t860, .slice Ao21 t861.length co21] 69 (0,0))):=⟨(by rw [hw];exact (ykp BK859))⟩;replace HB : Aside0 (Below w.heap.size w w22):=⟨(by rw [hw];exact yhb)⟩;clear hw))
   go_meet
   case rel=>exact ⟨_,(t860),(t861),(.slice Ao21 t861.length co21),H',⟨yo⟩,⟨yr HO863⟩,⟨yk BK854⟩,⟨yk BK859⟩,⟨yhb⟩⟩
  ·
   replace c15:=Bool.eq_false_iff.mpr c15
   subst c15
   rw [ynf] at H
   obtain ⟨⟨t865,t866,t869⟩,A23,H⟩:=ybi H
   try dsimp only at H
   have H' := zm H
   clear H
   have:=NB859_854.out
   have:=NB854_859.out
   obtain ⟨_,_,_,_⟩:=yc2 BK859
   go_wp2_with (first|((with_reducible refine gate_callee (f:=37) rfl ?_);refine ygl 27 Try.func37 #[.agg #[.int .u64 t855, .slice Ao12 t856.length co12], .int .i64 0, .int .i64 1, .int .i64 2] ?_;(with_reducible refine (psalteryref05_Put.calls k t855 (fun k_=>some k_=(.slice Ao12 t856.length co12 : Value).ownBlock) _ _ t856 0 1 2 t865 t866 t869 _ ?side1 A23.out).mono ?_);(case side1=>exact Kd.R_V (Kd.R_tight rfl (Kd.R_types (Kd.R_types (HO858.out) BK854.out (by decide)) BK859.out (by decide))));rintro e w26 ⟨v867,rfl,ho0,hb⟩;refine ⟨_,rfl, ?_⟩;have HO868:=yho (fun k_=>k_≠gb854∧k_≠gb859) ho0 (fun k_ hk_=>⟨Or.elim hk_ (fun hs_=>((Kd.R_types (Kd.R_types (HO858.out) BK854.out (by decide)) BK859.out (by decide)).1 k_ hs_.symm).1.2) (fun hn_=>(Kd.freshB (yk BK854) k_ hn_)),Or.elim hk_ (fun hs_=>((Kd.R_types (Kd.R_types (HO858.out) BK854.out (by decide)) BK859.out (by decide)).1 k_ hs_.symm).2) (fun hn_=>(Kd.freshB (yk BK859) k_ hn_))⟩);replace HO858:=yRb HO858 hb;replace BK854:=ybb BK854 hb;replace BK859:=ybb BK859 hb;replace HB:=ybs hb;(try clear hb);(try clear ho0);obtain ⟨_,_,_,_⟩:=yc2 BK859;obtain ⟨Ao28,co28,eo28⟩:=Kd.V_slice HO868.out;subst eo28)|((with_reducible refine gate_store (t:=69) (p:=9) rfl ?_);refine store_event (t:=69) (p:=9) (v := ?vo_w29) (w1:=((w26.setCell ⟨gb859,0,none⟩ (.int .u64 t865)).setCell ⟨gb859,1,none⟩ (.slice Ao28 t866.length co28))) ?hg ?ho ?hn ?hr ?_;(case ho=>rfl);(case hg=>rfl);(case hn=>rfl);(case hr=>first|(go_simp;done)|(go_simp;rfl));intro w29 hw;replace HO858 : Aside0 (Kd.R (Kd.int .i64) 3 w29 w.heap.size (fun _=>True) (.slice Ao12 t856.length co12) t856):=⟨(by rw [hw];exact (yR1 HO858 BK859))⟩;replace HO868 : Aside0 (Kd.V (Kd.int .i64) 3 w29 w.heap.size (fun k_=>k_≠gb854∧k_≠gb859) (.slice Ao28 t866.length co28) t866):=⟨(by rw [hw];exact (yV0 HO868))⟩;replace BK854 : Aside0 (w29.heap[gb854]? = some (.cells #[.bool false, .slice A2_1 l2_1.length c2_1, .slice A2_2 l2_2.length c2_2] 33 (0,0))):=⟨(by rw [hw];exact (yk BK854))⟩;replace BK859 : Aside0 (w29.heap[gb859]? = some (.cells #[.int .u64 t865, .slice Ao28 t866.length co28] 69 (0,0))):=⟨(by rw [hw];exact (ykp BK859))⟩;replace HB : Aside0 (Below w.heap.size w w29):=⟨(by rw [hw];exact yhb)⟩;clear hw))
   go_meet
   case rel=>exact ⟨_,(t865),(t866),(.slice Ao28 t866.length co28),H',⟨yo⟩,⟨yr HO868⟩,⟨yk BK854⟩,⟨yk BK859⟩,⟨yhb⟩⟩
 case rest =>
  clear HC6
  try clear c3
  try clear hcz11_0
  try clear hcz11_1
  try clear hcz14_0
  try clear hcz14_1
  try clear hcz14_2
  try clear hfz11_0
  try clear hfz11_1
  try clear hfz14_0
  try clear hfz14_1
  try clear hfz14_2
  obtain ⟨kq,x860000_5,x860001_5,u860001,HA,HJ5,HO_860001,BK854,BK859,HB⟩:=hcut
  obtain ⟨kj5,rfl⟩:=ysu kq (fun h=>by subst h;exact absurd HA.out (by simp [psalteryref13_Write.j0]))
  have H:=HA.out;clear HA
  simp only [psalteryref13_Write.j0] at H
  have H' := zm H
  clear H
  go_wp2
  go_loopg [10] kj5 (fun kq v10 w' => ∃ (x10_2 : Int) (x860000_2 : Int) (x860001_2 : List Int) (u860001 : Value),v10=.int .i64 x10_2∧Aside0 (psalteryref13_Write.l0 kq a0 a1 l3 x10_2 a2_0 l2_1 l2_2 x860000_2 x860001_2=some r)∧Aside0 (kq≤kj5)∧Aside0 (Kd.V (Kd.int .i64) 3 w' w.heap.size (fun k_=>k_≠gb854∧k_≠gb859) u860001 x860001_2)∧Aside0 (w'.heap[gb854]? = some (.cells #[.bool a2_0,(.slice A2_1 l2_1.length c2_1),(.slice A2_2 l2_2.length c2_2)] 33 (0,0)))∧Aside0 (w'.heap[gb859]? = some (.cells #[.int .u64 x860000_2,u860001] 69 (0,0)))∧Aside0 (Below w.heap.size w w'))
  case atStart=>exact ⟨(0),(x860000_5),(x860001_5),(u860001),yq,H',⟨Nat.le_refl _⟩,⟨yr HO_860001⟩,⟨yk BK854⟩,⟨yk BK859⟩,⟨yhb⟩⟩
  case round =>
   clear H'
   obtain ⟨x10_2,x860000_2,x860001_2,u860001,rfl,HA,HK2,HO_860001,BK854,BK859,HB⟩:=hrel
   obtain ⟨k2,rfl⟩:=ysu gk (fun h=>by subst h;exact absurd HA.out (by simp [psalteryref13_Write.l0]))
   have H:=HA.out;clear HA
   simp only [psalteryref13_Write.l0] at H
   by_cases c30 : x10_2 < a1
   ·
    rw [if_pos c30] at H
    have c30b0 : decide (x10_2 < a1)=true:=decide_eq_true c30
    clear c30
    obtain ⟨c31,H⟩:=yif H
    have c31b0 : decide (0≤x10_2)=true:=decide_eq_true c31
    clear c31
    obtain ⟨c32,H⟩:=yif H
    have c32b0 : decide (x10_2 < (l2_1.length : Int))=true:=decide_eq_true c32
    clear c32
    obtain ⟨t871,A33,H⟩:=ybi H
    obtain ⟨⟨t874,t875,t878⟩,A34,H⟩:=ybi H
    try dsimp only at H
    have H' := zm H
    clear H
    try go_wp2
    replace HO_860001:=zm (zC HO_860001.out)
    replace BK854:=zm (zj BK854.out)
    replace BK859:=zm (zj BK859.out)
    replace HB:=zm (zf HB.out)
    have p870 : 0≤(x10_2 : Int):=yt
    have q870 : x10_2 < (l2_1.length : Int):=yt
    obtain ⟨ad870,A870_0,c870_0,e870,hx870_0,hl870_0,hi870_0⟩:=at_L1 HR2_1.out x10_2 p870 q870
    have hw870_0:=hx870_0
    cases e870
    replace hx870_0:=yhx HB hx870_0
    have HR870_0:=zm hi870_0;have HC870_0:=zm hl870_0;clear hi870_0 hl870_0
    replace p870:=eq_true p870
    replace q870:=eq_true q870
    refine yst (fun w' => w'.cell? ⟨gb859,0,none⟩=some (.int .u64 x860000_2)∧w'.cell? ⟨gb859,1,none⟩=some (u860001)∧w'.cell? ⟨gb854,0,none⟩=some (.bool a2_0)∧w'.cell? ⟨gb854,1,none⟩=some (.slice (some ad870) l2_1.length c2_1)∧w'.cell? ⟨gb854,2,none⟩=some (.slice A2_2 l2_2.length c2_2)∧w'.cell? (ad870.add (x10_2).toNat)=some (.slice A870_0 (rd_L1 l2_1 x10_2).length c870_0)) [15] 16 psalteryref13_Write.tab8 psalteryref13_Write.bits8 (fun hHeld HT_ HW_ => ?_)
    generalize wr.drew=w35 at HO_860001 BK854 BK859 HB HR870_0 hx870_0 hHeld ⊢
    refine yp 1 37 HT_ ?_
    refine yp 3 39 HT_ ?_
    refine yp 6 42 HT_ ?_
    refine yp 7 43 HT_ ?_
    refine yp 9 45 HT_ ?_
    refine yl 0 36 HT_ HW_ hHeld ?_
    refine yl 2 38 HT_ HW_ hHeld ?_
    refine yp 4 40 HT_ ?_
    refine yl 5 41 HT_ HW_ hHeld ?_
    refine yl 10 46 HT_ HW_ hHeld ?_
    refine yw 8 44 HT_ (fun K hK => ?_)
    refine ygs Try.func39 #[.slice A3 l3.length c3, .int .i64 x10_2] ?_
    with_reducible refine (psalteryref13_At.calls (fun k_=>k_ < w.heap.size) _ _ l3 x10_2 t871 _ ?side1 A33.out).mono ?_
    (case side1=>exact Kd.V_mk HC3.out (Kd.F_below (Kd.C_F (Kd.heap_slice 3 (Kd.heap_int .i64)) HR3.out) yhb))
    rintro e w36 ⟨v872,rfl,ho0,hb⟩
    refine ⟨_,rfl, ?_⟩
    replace HO_860001:=yVb HO_860001 hb
    have HO873:=yho (fun k_=>k_≠gb854∧k_≠gb859) ho0 (fun k_ hk_=>⟨yoB BK854 hk_,yoB BK859 hk_⟩)
    replace BK854:=ybb BK854 hb
    replace BK859:=ybb BK859 hb
    replace HB:=ybs hb
    (try clear hb)
    (try clear ho0)
    obtain ⟨Ao37,co37,eo37⟩:=Kd.V_slice HO_860001.out
    (first|subst eo37|(injection eo37 with f1_ f2_ f3_;have f4_:=f1_.symm;have f5_:=f3_.symm;clear f1_ f2_ f3_;subst f4_;subst f5_))
    obtain ⟨Ao38,co38,eo38⟩:=Kd.V_slice HO873.out
    (first|subst eo38|(injection eo38 with f1_ f2_ f3_;have f4_:=f1_.symm;have f5_:=f3_.symm;clear f1_ f2_ f3_;subst f4_;subst f5_))
    refine hK.out _ _ yH (fun hHeld => ?_)
    clear hK K
    refine ym (some 44) ?_
    refine yw 11 47 HT_ (fun K hK => ?_)
    refine ygs Try.func38 #[.agg #[.int .u64 x860000_2, .slice Ao37 x860001_2.length co37], .slice A870_0 (rd_L1 l2_1 x10_2).length c870_0, .slice Ao38 t871.length co38, .bool a2_0] ?_
    with_reducible refine (psalteryref11_Put.calls k2 x860000_2 (fun k_=>(k_≠gb854∧k_≠gb859)) _ _ x860001_2 _ _ (rd_L1 l2_1 x10_2) _ _ t871 a2_0 t874 t875 t878 _ ?side1 ?side2 ?side3 ?side4 ?side5 A34.out).mono ?_
    (case side1=>exact HO_860001.out)
    (case side2=>exact ycb HR870_0)
    (case side3=>exact HC870_0.out)
    (case side4=>exact yce (Kd.V_reads' HO873.out).2.2)
    (case side5=>exact (Kd.V_reads' HO873.out).2.1)
    rintro e w39 ⟨v876,rfl,ho0,hb⟩
    refine ⟨_,rfl, ?_⟩
    replace HO_860001:=yVb HO_860001 hb
    replace HO873:=yVb HO873 hb
    have HO877:=yho (fun k_=>k_≠gb854∧k_≠gb859) ho0 (fun k_ hk_=>⟨yoB BK854 hk_,yoB BK859 hk_⟩)
    replace BK854:=ybb BK854 hb
    replace BK859:=ybb BK859 hb
    replace HB:=ybs hb
    (try clear hb)
    (try clear ho0)
    obtain ⟨Ao41,co41,eo41⟩:=Kd.V_slice HO877.out
    (first|subst eo41|(injection eo41 with f1_ f2_ f3_;have f4_:=f1_.symm;have f5_:=f3_.symm;clear f1_ f2_ f3_;subst f4_;subst f5_))
    refine hK.out _ _ yH (fun hHeld => ?_)
    clear hK K
    refine ym (some 47) ?_
    refine yp 12 35 HT_ ?_
    refine yp 13 48 HT_ ?_
    refine yp 14 49 HT_ ?_
    refine last_ (i:=15) (N:=none) #[true,true,true,true,true,true,true,true,true,true,true,true,true,true,true,true] rfl rfl (one_of HT_.out (by kernel_rfl)) (by decide) (fun K hK => ?_)
    have hs40 : w39.cell? ⟨gb859,0,none⟩=some (.int .u64 x860000_2):=(zs BK859.out 0).trans rfl
    have hfs40:=zx BK859.out 0
    have:=NB854_859.out
    have:=NB859_854.out
    have hs42 : w39.cell? ⟨gb859,1,none⟩=some (.slice Ao37 x860001_2.length co37):=(zs BK859.out 1).trans rfl
    have hfs42:=zx BK859.out 1
    have:=NB854_859.out
    have:=NB859_854.out
    refine skip_ (w1 := ?_) (by rfl) rfl ?_ ?_
    rotate_left
    ·
     go_simp
     rfl
    refine hK.out _ _ ?_
    clear hK K
    refine done_ (done_of HT_.out (by kernel_rfl)) ?_
    obtain ⟨w43,hw_⟩ : ∃ x,x=((w39.setCell ⟨gb859,0,none⟩ (.int .u64 t874)).setCell ⟨gb859,1,none⟩ (.slice Ao41 t875.length co41)):=⟨_,rfl⟩
    rw [← hw_]
    replace HO_860001 : Aside0 (Kd.V (Kd.int .i64) 3 w43 w.heap.size (fun k_=>k_≠gb854∧k_≠gb859) (.slice Ao37 x860001_2.length co37) x860001_2):=⟨by rw [hw_];exact (yV0 HO_860001)⟩
    replace HO873 : Aside0 (Kd.V (Kd.int .i64) 3 w43 w.heap.size (fun k_=>k_≠gb854∧k_≠gb859) (.slice Ao38 t871.length co38) t871):=⟨by rw [hw_];exact (yV0 HO873)⟩
    replace HO877 : Aside0 (Kd.V (Kd.int .i64) 3 w43 w.heap.size (fun k_=>k_≠gb854∧k_≠gb859) (.slice Ao41 t875.length co41) t875):=⟨by rw [hw_];exact (yV0 HO877)⟩
    replace BK854 : Aside0 (w43.heap[gb854]? = some (.cells #[.bool a2_0, .slice (some ad870) l2_1.length c2_1, .slice A2_2 l2_2.length c2_2] 33 (0,0))):=⟨by rw [hw_];exact (yk BK854)⟩
    replace BK859 : Aside0 (w43.heap[gb859]? = some (.cells #[.int .u64 t874, .slice Ao41 t875.length co41] 69 (0,0))):=⟨by rw [hw_];exact (ykp BK859)⟩
    replace HB : Aside0 (Below w.heap.size w w43):=⟨by rw [hw_];exact (yhb)⟩
    clear hw_
    try go_wp2
    go_roundg k2
    case measure=>exact yom2 HJ5 HK2
    case rel=>exact ⟨(wrap64 (x10_2+1)),(t874),(t875),(.slice Ao41 t875.length co41),yq,H',⟨yom2 HJ5 HK2⟩,⟨yr HO877⟩,⟨yk BK854⟩,⟨yk BK859⟩,⟨yhb⟩⟩
   ·
    rw [if_neg c30] at H
    have c30b0 : decide (x10_2 < a1)=false:=decide_eq_false c30
    clear c30
    have H' := zm H
    clear H
    go_wp2
    go_loopg [11] k2 (fun kq v11 w' => ∃ (x11_3 : Int) (x860000_3 : Int) (x860001_3 : List Int) (u860001 : Value),v11=.int .i64 x11_3∧Aside0 (psalteryref13_Write.l1 kq a0 a1 x11_3 a2_0 l2_1 l2_2 x860000_3 x860001_3=some r)∧Aside0 (kq≤k2)∧Aside0 (Kd.V (Kd.int .i64) 3 w' w.heap.size (fun k_=>k_≠gb854∧k_≠gb859) u860001 x860001_3)∧Aside0 (w'.heap[gb854]? = some (.cells #[.bool a2_0,(.slice A2_1 l2_1.length c2_1),(.slice A2_2 l2_2.length c2_2)] 33 (0,0)))∧Aside0 (w'.heap[gb859]? = some (.cells #[.int .u64 x860000_3,u860001] 69 (0,0)))∧Aside0 (Below w.heap.size w w'))
    case atStart=>exact ⟨(0),(x860000_2),(x860001_2),(u860001),yq,H',⟨Nat.le_refl _⟩,⟨yr HO_860001⟩,⟨yk BK854⟩,⟨yk BK859⟩,⟨yhb⟩⟩
    case round =>
     clear H'
     try clear c3
     try clear c30b0
     try clear c31b0
     try clear c32b0
     try clear hx870_0
     try clear p870
     try clear q870
     obtain ⟨x11_3,x860000_3,x860001_3,u860001,rfl,HA,HK3,HO_860001,BK854,BK859,HB⟩:=hrel
     obtain ⟨k3,rfl⟩:=ysu gk (fun h=>by subst h;exact absurd HA.out (by simp [psalteryref13_Write.l1]))
     have H:=HA.out;clear HA
     simp only [psalteryref13_Write.l1] at H
     by_cases c44 : x11_3 < a1
     ·
      rw [if_pos c44] at H
      have c44b0 : decide (x11_3 < a1)=true:=decide_eq_true c44
      clear c44
      have H' := zm H
      clear H
      go_wp2
      go_loopg [12] k3 (fun kq v12 w' => ∃ (x12_4 : Int) (x860000_4 : Int) (x860001_4 : List Int) (u860001 : Value),v12=.int .i64 x12_4∧Aside0 (psalteryref13_Write.l2 kq a0 a1 x11_3 x12_4 a2_0 l2_1 l2_2 x860000_4 x860001_4=some r)∧Aside0 (kq≤k3)∧Aside0 (Kd.V (Kd.int .i64) 3 w' w.heap.size (fun k_=>k_≠gb854∧k_≠gb859) u860001 x860001_4)∧Aside0 (w'.heap[gb854]? = some (.cells #[.bool a2_0,(.slice A2_1 l2_1.length c2_1),(.slice A2_2 l2_2.length c2_2)] 33 (0,0)))∧Aside0 (w'.heap[gb859]? = some (.cells #[.int .u64 x860000_4,u860001] 69 (0,0)))∧Aside0 (Below w.heap.size w w'))
      case atStart=>exact ⟨(0),(x860000_3),(x860001_3),(u860001),yq,H',⟨Nat.le_refl _⟩,⟨yr HO_860001⟩,⟨yk BK854⟩,⟨yk BK859⟩,⟨yhb⟩⟩
      case round =>
       clear H'
       try clear c44b0
       obtain ⟨x12_4,x860000_4,x860001_4,u860001,rfl,HA,HK4,HO_860001,BK854,BK859,HB⟩:=hrel
       obtain ⟨k4,rfl⟩:=ysu gk (fun h=>by subst h;exact absurd HA.out (by simp [psalteryref13_Write.l2]))
       have H:=HA.out;clear HA
       simp only [psalteryref13_Write.l2] at H
       by_cases c45 : x12_4 < 5
       ·
        rw [if_pos c45] at H
        have c45b0 : decide (x12_4 < 5)=true:=decide_eq_true c45
        clear c45
        obtain ⟨c46,H⟩:=yif H
        have c46b0 : decide (0≤x11_3)=true:=decide_eq_true c46
        clear c46
        obtain ⟨c47,H⟩:=yif H
        have c47b0 : decide (x11_3 < (l2_2.length : Int))=true:=decide_eq_true c47
        clear c47
        obtain ⟨c48,H⟩:=yif H
        have c48b0 : decide (0≤x12_4)=true:=decide_eq_true c48
        clear c48
        obtain ⟨c49,H⟩:=yif H
        have c49b0 : decide (x12_4 < ((rd_L2 l2_2 x11_3).length : Int))=true:=decide_eq_true c49
        clear c49
        obtain ⟨t881,A50,H⟩:=ybi H
        by_cases c51 : t881 > 0
        ·
         rw [if_pos c51] at H
         have c51b0 : decide (0 < t881)=true:=decide_eq_true c51
         clear c51
         obtain ⟨t882,A52,H⟩:=ybi H
         obtain ⟨t883,A53,H⟩:=ybi H
         obtain ⟨⟨t884,t885,t888⟩,A54,H⟩:=ybi H
         try dsimp only at H
         have H' := zm H
         clear H
         have:=NB854_859.out
         have:=NB859_854.out
         obtain ⟨_,_,_,_,_,_⟩:=yc3 BK854
         have p879 : 0≤(x11_3 : Int):=yt
         have q879 : x11_3 < (l2_2.length : Int):=yt
         obtain ⟨ad879,A879_0,c879_0,e879,hx879_0,hl879_0,hi879_0⟩:=at_L2 HR2_2.out x11_3 p879 q879
         cases e879
         replace hx879_0:=yhx HB hx879_0
         have HR879_0:=zm hi879_0;have HC879_0:=zm hl879_0;clear hi879_0 hl879_0
         replace p879:=eq_true p879
         replace q879:=eq_true q879
         have p880 : 0≤(x12_4 : Int):=yt
         have q880 : x12_4 < ((rd_L2 l2_2 x11_3).length : Int):=yt
         obtain ⟨ad880,A880_0,c880_0,e880,hx880_0,hl880_0,hi880_0⟩:=at_L1 HR879_0.out x12_4 p880 q880
         cases e880
         replace hx880_0:=yhx HB hx880_0
         have HR880_0:=zm hi880_0;have HC880_0:=zm hl880_0;clear hi880_0 hl880_0
         replace p880:=eq_true p880
         replace q880:=eq_true q880
         try go_wp2_with (first|((with_reducible refine gate_callee (f:=40) rfl ?_);refine ygl 68 Try.func40 #[.slice A880_0 (rd_L1 (rd_L2 l2_2 x11_3) x12_4).length c880_0] ?_;(with_reducible refine (psalteryref06_Pulses.calls k4 _ _ (rd_L1 (rd_L2 l2_2 x11_3) x12_4) t881 _ ?side1 HC880_0.out A50.out).mono ?_);(case side1=>exact ycb HR880_0);rintro e w' ⟨rfl,⟨nd,rfl⟩⟩;refine ⟨_,rfl, ?_⟩;(try (rw [drewN_self wr];generalize hq_ : World.drewN wr _=wr;have n0_ : Aside0 (Kd.V (Kd.int .i64) 3 wr w.heap.size (fun k_=>k_≠gb854∧k_≠gb859) u860001 x860001_4):=⟨by rw [← hq_];exact (yr HO_860001)⟩;have n1_ : Aside0 (wr.heap[gb854]? = some (.cells #[.bool a2_0, .slice A2_1 l2_1.length c2_1, .slice (some ad879) l2_2.length c2_2] 33 (0,0))):=⟨by rw [← hq_];exact (yk BK854)⟩;have n2_ : Aside0 (wr.heap[gb859]? = some (.cells #[.int .u64 x860000_4,u860001] 69 (0,0))):=⟨by rw [← hq_];exact (yk BK859)⟩;have n3_ : Aside0 (Below w.heap.size w wr):=⟨by rw [← hq_];exact yhb⟩;clear HO_860001 BK854 BK859 HB hq_;have HO_860001:=n0_;have BK854:=n1_;have BK859:=n2_;have HB:=n3_;clear n0_ n1_ n2_ n3_))))
         replace HO_860001:=zm (zC HO_860001.out)
         replace BK854:=zm (zj BK854.out)
         replace BK859:=zm (zj BK859.out)
         replace HB:=zm (zf HB.out)
         refine yst (fun w' => w'.cell? ⟨gb859,0,none⟩=some (.int .u64 x860000_4)∧w'.cell? ⟨gb859,1,none⟩=some (u860001)) [11] 12 psalteryref13_Write.tab18 psalteryref13_Write.bits18 (fun hHeld HT_ HW_ => ?_)
         generalize wr.drew=w57 at HO_860001 BK854 BK859 HB hHeld ⊢
         refine yp 1 73 HT_ ?_
         refine yp 3 75 HT_ ?_
         refine yp 4 76 HT_ ?_
         refine yp 5 77 HT_ ?_
         refine yl 0 72 HT_ HW_ hHeld ?_
         refine yw 2 74 HT_ (fun K hK => ?_)
         refine ygs Try.func42 #[.slice A880_0 (rd_L1 (rd_L2 l2_2 x11_3) x12_4).length c880_0] ?_
         with_reducible refine (psalteryref06_Index.calls k4 _ _ (rd_L1 (rd_L2 l2_2 x11_3) x12_4) t882 _ ?side1 ?side2 A52.out).mono ?_
         (case side1=>exact ycb HR880_0)
         (case side2=>exact HC880_0.out)
         rintro e w58 ⟨rfl,hb⟩
         refine ⟨_,rfl, ?_⟩
         replace HO_860001:=yVb HO_860001 hb
         replace BK854:=ybb BK854 hb
         replace BK859:=ybb BK859 hb
         replace HB:=ybs hb
         (try clear hb)
         refine hK.out _ _ yH (fun hHeld => ?_)
         clear hK K
         refine ym (some 74) ?_
         refine yw 6 78 HT_ (fun K hK => ?_)
         refine ygs Try.func43 #[.int .i64 ((rd_L1 (rd_L2 l2_2 x11_3) x12_4).length : Int), .int .i64 t881] ?_
         with_reducible refine (psalteryref06_Count.calls k4 ((rd_L1 (rd_L2 l2_2 x11_3) x12_4).length : Int) t881 t883 _ A53.out).mono ?_
         rintro e w59 ⟨rfl,hb⟩
         refine ⟨_,rfl, ?_⟩
         replace HO_860001:=yVb HO_860001 hb
         replace BK854:=ybb BK854 hb
         replace BK859:=ybb BK859 hb
         replace HB:=ybs hb
         (try clear hb)
         obtain ⟨Ao60,co60,eo60⟩:=Kd.V_slice HO_860001.out
         (first|subst eo60|(injection eo60 with f1_ f2_ f3_;have f4_:=f1_.symm;have f5_:=f3_.symm;clear f1_ f2_ f3_;subst f4_;subst f5_))
         refine hK.out _ _ yH (fun hHeld => ?_)
         clear hK K
         refine ym (some 78) ?_
         refine yw 7 79 HT_ (fun K hK => ?_)
         refine ygs Try.func41 #[.agg #[.int .u64 x860000_4, .slice Ao60 x860001_4.length co60], .int .u64 t882, .int .u64 t883] ?_
         with_reducible refine (psalteryref05_PutNum.calls k4 x860000_4 (fun k_=>(k_≠gb854∧k_≠gb859)) _ _ x860001_4 t882 t883 t884 t885 t888 _ ?side1 A54.out).mono ?_
         (case side1=>exact HO_860001.out)
         rintro e w61 ⟨v886,rfl,ho0,hb⟩
         refine ⟨_,rfl, ?_⟩
         replace HO_860001:=yVb HO_860001 hb
         have HO887:=yho (fun k_=>k_≠gb854∧k_≠gb859) ho0 (fun k_ hk_=>⟨yoB BK854 hk_,yoB BK859 hk_⟩)
         replace BK854:=ybb BK854 hb
         replace BK859:=ybb BK859 hb
         replace HB:=ybs hb
         (try clear hb)
         (try clear ho0)
         obtain ⟨Ao63,co63,eo63⟩:=Kd.V_slice HO887.out
         (first|subst eo63|(injection eo63 with f1_ f2_ f3_;have f4_:=f1_.symm;have f5_:=f3_.symm;clear f1_ f2_ f3_;subst f4_;subst f5_))
         refine hK.out _ _ yH (fun hHeld => ?_)
         clear hK K
         refine ym (some 79) ?_
         refine yp 8 71 HT_ ?_
         refine yp 9 80 HT_ ?_
         refine yp 10 81 HT_ ?_
         refine last_ (i:=11) (N:=none) #[true,true,true,true,true,true,true,true,true,true,true,true] rfl rfl (one_of HT_.out (by kernel_rfl)) (by decide) (fun K hK => ?_)
         have hs62 : w61.cell? ⟨gb859,0,none⟩=some (.int .u64 x860000_4):=(zs BK859.out 0).trans rfl
         have hfs62:=zx BK859.out 0
         have:=NB854_859.out
         have:=NB859_854.out
         have hs64 : w61.cell? ⟨gb859,1,none⟩=some (.slice Ao60 x860001_4.length co60):=(zs BK859.out 1).trans rfl
         have hfs64:=zx BK859.out 1
         have:=NB854_859.out
         have:=NB859_854.out
         refine skip_ (w1 := ?_) (by rfl) rfl ?_ ?_
         rotate_left
         ·
          go_simp
          rfl
         refine hK.out _ _ ?_
         clear hK K
         refine done_ (done_of HT_.out (by kernel_rfl)) ?_
         obtain ⟨w65,hw_⟩ : ∃ x,x=((w61.setCell ⟨gb859,0,none⟩ (.int .u64 t884)).setCell ⟨gb859,1,none⟩ (.slice Ao63 t885.length co63)):=⟨_,rfl⟩
         rw [← hw_]
         replace HO_860001 : Aside0 (Kd.V (Kd.int .i64) 3 w65 w.heap.size (fun k_=>k_≠gb854∧k_≠gb859) (.slice Ao60 x860001_4.length co60) x860001_4):=⟨by rw [hw_];exact (yV0 HO_860001)⟩
         replace HO887 : Aside0 (Kd.V (Kd.int .i64) 3 w65 w.heap.size (fun k_=>k_≠gb854∧k_≠gb859) (.slice Ao63 t885.length co63) t885):=⟨by rw [hw_];exact (yV0 HO887)⟩
         replace BK854 : Aside0 (w65.heap[gb854]? = some (.cells #[.bool a2_0, .slice A2_1 l2_1.length c2_1, .slice (some ad879) l2_2.length c2_2] 33 (0,0))):=⟨by rw [hw_];exact (yk BK854)⟩
         replace BK859 : Aside0 (w65.heap[gb859]? = some (.cells #[.int .u64 t884, .slice Ao63 t885.length co63] 69 (0,0))):=⟨by rw [hw_];exact (ykp BK859)⟩
         replace HB : Aside0 (Below w.heap.size w w65):=⟨by rw [hw_];exact (yhb)⟩
         clear hw_
         try go_wp2
         go_roundg k4
         case measure=>exact yom4 HJ5 HK2 HK3 HK4
         case rel=>exact ⟨(wrap64 (x12_4+1)),(t884),(t885),(.slice Ao63 t885.length co63),yq,H',⟨yom4 HJ5 HK2 HK3 HK4⟩,⟨yr HO887⟩,⟨yk BK854⟩,⟨yk BK859⟩,⟨yhb⟩⟩
        ·
         rw [if_neg c51] at H
         have c51b0 : decide (0 < t881)=false:=decide_eq_false c51
         clear c51
         have H' := zm H
         clear H
         have:=NB854_859.out
         have:=NB859_854.out
         obtain ⟨_,_,_,_,_,_⟩:=yc3 BK854
         have p879 : 0≤(x11_3 : Int):=yt
         have q879 : x11_3 < (l2_2.length : Int):=yt
         obtain ⟨ad879,A879_0,c879_0,e879,hx879_0,hl879_0,hi879_0⟩:=at_L2 HR2_2.out x11_3 p879 q879
         cases e879
         replace hx879_0:=yhx HB hx879_0
         have HR879_0:=zm hi879_0;have HC879_0:=zm hl879_0;clear hi879_0 hl879_0
         replace p879:=eq_true p879
         replace q879:=eq_true q879
         have p880 : 0≤(x12_4 : Int):=yt
         have q880 : x12_4 < ((rd_L2 l2_2 x11_3).length : Int):=yt
         obtain ⟨ad880,A880_0,c880_0,e880,hx880_0,hl880_0,hi880_0⟩:=at_L1 HR879_0.out x12_4 p880 q880
         cases e880
         replace hx880_0:=yhx HB hx880_0
         have HR880_0:=zm hi880_0;have HC880_0:=zm hl880_0;clear hi880_0 hl880_0
         replace p880:=eq_true p880
         replace q880:=eq_true q880
         go_wp2_with (first|((with_reducible refine gate_callee (f:=40) rfl ?_);refine ygl 68 Try.func40 #[.slice A880_0 (rd_L1 (rd_L2 l2_2 x11_3) x12_4).length c880_0] ?_;(with_reducible refine (psalteryref06_Pulses.calls k4 _ _ (rd_L1 (rd_L2 l2_2 x11_3) x12_4) t881 _ ?side1 HC880_0.out A50.out).mono ?_);(case side1=>exact ycb HR880_0);rintro e w' ⟨rfl,⟨nd,rfl⟩⟩;refine ⟨_,rfl, ?_⟩))
         go_roundg k4
         case measure=>exact yom4 HJ5 HK2 HK3 HK4
         case rel=>exact ⟨(wrap64 (x12_4+1)),(x860000_4),(x860001_4),(u860001),yq,H',⟨yom4 HJ5 HK2 HK3 HK4⟩,⟨yr HO_860001⟩,⟨yk BK854⟩,⟨yk BK859⟩,⟨yhb⟩⟩
       ·
        rw [if_neg c45] at H
        have c45b0 : decide (x12_4 < 5)=false:=decide_eq_false c45
        clear c45
        have H' := zm H
        clear H
        go_wp2
        go_roundg k4
        case measure=>exact yom4 HJ5 HK2 HK3 HK4
        case rel=>exact ⟨(wrap64 (x11_3+1)),(x860000_4),(x860001_4),(u860001),yq,H',⟨yom4 HJ5 HK2 HK3 HK4⟩,⟨yr HO_860001⟩,⟨yk BK854⟩,⟨yk BK859⟩,⟨yhb⟩⟩
     ·
      rw [if_neg c44] at H
      have c44b0 : decide (x11_3 < a1)=false:=decide_eq_false c44
      clear c44
      have H' := zm H
      clear H
      go_wp2
      go_loopg [15,16] k3 (fun kq v15 v16 w' => ∃ (x15_4 : List Int) (x16_4 : Int),v16=.int .i64 x16_4∧Aside0 (psalteryref13_Write.l3 kq a0 x15_4 x16_4 x860000_3 x860001_3=some r)∧Aside0 (kq≤k3)∧Aside0 (Kd.R (Kd.int .u8) 5 w' w.heap.size (fun _=>True) v15 x15_4)∧Aside0 (Kd.V (Kd.int .i64) 3 w' w.heap.size (fun k_=>some k_≠(v15 : Value).ownBlock∧k_≠gb854∧k_≠gb859) u860001 x860001_3)∧Aside0 (w'.heap[gb854]? = some (.cells #[.bool a2_0,(.slice A2_1 l2_1.length c2_1),(.slice A2_2 l2_2.length c2_2)] 33 (0,0)))∧Aside0 (w'.heap[gb859]? = some (.cells #[.int .u64 x860000_3,u860001] 69 (0,0)))∧Aside0 (Below w.heap.size w w'))
      case atStart=>exact ⟨(([] : List Int)),(0),yq,H',⟨Nat.le_refl _⟩,⟨yn⟩,⟨yV0 HO_860001⟩,⟨yk BK854⟩,⟨yk BK859⟩,⟨yhb⟩⟩
      case round =>
       clear H'
       try clear c44b0
       obtain ⟨x15_4,x16_4,rfl,HA,HK4,HO_15,HO_860001,BK854,BK859,HB⟩:=hrel
       obtain ⟨k4,rfl⟩:=ysu gk (fun h=>by subst h;exact absurd HA.out (by simp [psalteryref13_Write.l3]))
       have H:=HA.out;clear HA
       simp only [psalteryref13_Write.l3] at H
       by_cases c68 : x16_4 < a0
       ·
        rw [if_pos c68] at H
        have c68b0 : decide (x16_4 < a0)=true:=decide_eq_true c68
        clear c68
        by_cases c69 : x16_4 < (x860001_3.length : Int)
        ·
         rw [if_pos c69] at H
         have c69b0 : decide (x16_4 < (x860001_3.length : Int))=true:=decide_eq_true c69
         clear c69
         obtain ⟨c70,H⟩:=yif H
         have c70b0 : decide (0≤x16_4)=true:=decide_eq_true c70
         clear c70
         obtain ⟨c71,H⟩:=yif H
         have LMc71:=zm c71;clear c71
         obtain ⟨y890,hy890⟩ : ∃ y_ : List Int,y_=(x15_4 ++ [(rd x860001_3 x16_4) % 256]):=⟨_,rfl⟩
         replace H : (psalteryref13_Write.l3 k4 a0 y890 (wrap64 (x16_4+1)) x860000_3 x860001_3)=some r:=yrw hy890 H
         have Ny890:=zm hy890;clear hy890
         have H' := zm H
         clear H
         have:=NB859_854.out
         have:=NB854_859.out
         obtain ⟨_,_,_,_⟩:=yc2 BK859
         obtain ⟨Ao74,co74,eo74⟩:=Kd.V_slice HO_860001.out
         subst eo74
         have p889 : 0≤(x16_4 : Int):=yt
         have q889 : x16_4 < (x860001_3.length : Int):=yt
         obtain ⟨ad889,e889,hx889_0⟩:=Kd.at_int (Kd.V_reads' HO_860001.out).2.2 x16_4 p889 q889
         cases e889
         replace p889:=eq_true p889
         replace q889:=eq_true q889
         go_wp2_with (first|((with_reducible refine gate_builtin (b:=.append) (xs := #[.tmp 92, .tmp 99]) rfl ?_);at_builtin;refine Kd.R_append (Kd.int .u8) (w0:=w) w.heap.size rfl (.tmp 92) (.tmp 99) 28 5 (.int .u8 0) 1 rfl Try.underlying28 info5 rfl (by decide) (by omega) u15 x15_4 ((rd x860001_3 x16_4) % 256) [.int .u8 ((rd x860001_3 x16_4) % 256)] (fun _=>True) (fun _=>False) rfl rfl ?aP (fun _ hk=>hk.elim) ?aF ?aO ?aB ?aS ?aL ?_;(case aP=>exact rfl);(case aB=>exact yhb);(case aF=>exact (fun _ _=>trivial));(case aO=>exact (yr HO_15));(case aS=>exact (zE yhb));(case aL=>have:=LMc71.out;omega);intro v891 w75 ho hb hg hat;rw [← Ny890.out] at ho;replace HO_860001:=zm (Kd.V_afterv (ok:=(fun k_=>k_≠gb854∧k_≠gb859)) (yV0 HO_860001) hg hat);replace BK854:=zm (blk_grown (yk BK854) hg (zu HO_15.out BK854.out (by decide)));replace BK859:=zm (blk_grown (yk BK859) hg (zu HO_15.out BK859.out (by decide)));replace HB:=zm (hb);have HO892:=zm (ho);clear HO_15;clear ho hb hg hat))
         go_roundg k4
         case measure=>exact yom4 HJ5 HK2 HK3 HK4
         case rel=>exact ⟨(y890),(wrap64 (x16_4+1)),yq,H',⟨yom4 HJ5 HK2 HK3 HK4⟩,⟨yr HO892⟩,⟨yV0 HO_860001⟩,⟨yk BK854⟩,⟨yk BK859⟩,⟨yhb⟩⟩
        ·
         rw [if_neg c69] at H
         have c69b0 : decide (x16_4 < (x860001_3.length : Int))=false:=decide_eq_false c69
         clear c69
         obtain ⟨c76,H⟩:=yif H
         have LMc76:=zm c76;clear c76
         obtain ⟨y893,hy893⟩ : ∃ y_ : List Int,y_=(x15_4 ++ [0]):=⟨_,rfl⟩
         replace H : (psalteryref13_Write.l3 k4 a0 y893 (wrap64 (x16_4+1)) x860000_3 x860001_3)=some r:=yrw hy893 H
         have Ny893:=zm hy893;clear hy893
         have H' := zm H
         clear H
         have:=NB859_854.out
         have:=NB854_859.out
         obtain ⟨_,_,_,_⟩:=yc2 BK859
         obtain ⟨Ao79,co79,eo79⟩:=Kd.V_slice HO_860001.out
         subst eo79
         go_wp2_with (first|((with_reducible refine gate_builtin (b:=.append) (xs := #[.tmp 101, .tmp 102]) rfl ?_);at_builtin;refine Kd.R_append (Kd.int .u8) (w0:=w) w.heap.size rfl (.tmp 101) (.tmp 102) 28 5 (.int .u8 0) 1 rfl Try.underlying28 info5 rfl (by decide) (by omega) u15 x15_4 0 [.int .u8 0] (fun _=>True) (fun _=>False) rfl rfl ?aP (fun _ hk=>hk.elim) ?aF ?aO ?aB ?aS ?aL ?_;(case aP=>exact rfl);(case aB=>exact yhb);(case aF=>exact (fun _ _=>trivial));(case aO=>exact (yr HO_15));(case aS=>exact (zE yhb));(case aL=>have:=LMc76.out;omega);intro v894 w80 ho hb hg hat;rw [← Ny893.out] at ho;replace HO_860001:=zm (Kd.V_afterv (ok:=(fun k_=>k_≠gb854∧k_≠gb859)) (yV0 HO_860001) hg hat);replace BK854:=zm (blk_grown (yk BK854) hg (zu HO_15.out BK854.out (by decide)));replace BK859:=zm (blk_grown (yk BK859) hg (zu HO_15.out BK859.out (by decide)));replace HB:=zm (hb);have HO895:=zm (ho);clear HO_15;clear ho hb hg hat))
         go_roundg k4
         case measure=>exact yom4 HJ5 HK2 HK3 HK4
         case rel=>exact ⟨(y893),(wrap64 (x16_4+1)),yq,H',⟨yom4 HJ5 HK2 HK3 HK4⟩,⟨yr HO895⟩,⟨yV0 HO_860001⟩,⟨yk BK854⟩,⟨yk BK859⟩,⟨yhb⟩⟩
       ·
        rw [if_neg c68] at H
        have c68b0 : decide (x16_4 < a0)=false:=decide_eq_false c68
        clear c68
        obtain rfl:=Option.some.inj H
        go_wp2
        go_ret
        exact ⟨_,ye,yr HO_15,yhb⟩
def psalterylaw13_PackWrites.j0 : Nat→Int→Int→List (List Int)→List Int→Int→Bool→Bool→List (List Int)→List (List (List Int))→Option (Bool)
 | 0,_,_,_,_,_,_,_,_,_=>none
 | k+1,x0,x1,x3,x9,x10,x39,x897000,x897001,x897002=>if x39=true then (if (x9.length : Int)=0 then (if x10=1 then ((psalterylaw13_knows.f k).bind fun t912=>(some t912)) else (none)) else (none)) else ((psalterylaw13_As.f x897000 x897001 x897002).bind fun bt913=>((psalteryref13_Write.f k x0 x1 bt913.1 bt913.2.1 bt913.2.2 x3).bind fun t920=>(if (strOfNums x9).toList=(strOfNums t920).toList then (if x10=0 then ((psalterylaw13_knows.f k).bind fun t923=>(some t923)) else (none)) else (none))))
def psalterylaw13_PackWrites.f (k : Nat) (a0 : Int) (a1 : Int) (a2_0 : Bool) (l2_1 : List (List Int)) (l2_2 : List (List (List Int))) (l3 : List (List Int)) : Option (Bool):=(psalterylaw13_great.f k a2_0 l2_1 l2_2 l3).bind fun t897=>(if t897=true then ((psalterylaw13_knows.f k).bind fun t898=>(some t898)) else ((cpack_Write.f k a0 a1 a2_0 l2_1 l2_2 l3).bind fun bt899=>((psalterylaw13_As.f a2_0 l2_1 l2_2).bind fun bt903=>((psalteryref13_Right.f k a0 a1 bt903.1 bt903.2.1 bt903.2.2).bind fun t910=>(if t910=true then (if a2_0=true then (psalterylaw13_PackWrites.j0 k a0 a1 l3 bt899.1 bt899.2 false a2_0 l2_1 l2_2) else ((psalteryref12_Fair.f k a1 l3).bind fun t911=>(psalterylaw13_PackWrites.j0 k a0 a1 l3 bt899.1 bt899.2 (!t911) a2_0 l2_1 l2_2))) else (psalterylaw13_PackWrites.j0 k a0 a1 l3 bt899.1 bt899.2 true a2_0 l2_1 l2_2))))))
theorem psalterylaw13_PackWrites.mono_l : ∀ k,(∀ y0 y1 y2 y3 y4 y5 y6 y7 y8,LeO (psalterylaw13_PackWrites.j0 k y0 y1 y2 y3 y4 y5 y6 y7 y8) (psalterylaw13_PackWrites.j0 (k+1) y0 y1 y2 y3 y4 y5 y6 y7 y8))
 | 0=>fun _ _ _ _ _ _ _ _ _ r h=>by simp [psalterylaw13_PackWrites.j0] at h
 | k+1=>by
  have ih0:=psalterylaw13_PackWrites.mono_l k
  ·
   intro y0 y1 y2 y3 y4 y5 y6 y7 y8
   unfold psalterylaw13_PackWrites.j0
   repeat' with_reducible first|apply ih0|apply cpack_Write.mono|apply psalterylaw13_great.mono|apply psalterylaw13_knows.mono|apply psalteryref12_Fair.mono|apply psalteryref13_Right.mono|apply psalteryref13_Write.mono|apply yLr|apply yLn|apply yLi|apply yLb|intro _
theorem psalterylaw13_PackWrites.mono : ∀ a0 a1 a2 a3 a4 a5 k,LeO (psalterylaw13_PackWrites.f k a0 a1 a2 a3 a4 a5) (psalterylaw13_PackWrites.f (k+1) a0 a1 a2 a3 a4 a5):=by
 intro a0 a1 a2 a3 a4 a5 k
 have ih0:=psalterylaw13_PackWrites.mono_l k
 unfold psalterylaw13_PackWrites.f
 repeat' with_reducible first|apply ih0|apply cpack_Write.mono|apply psalterylaw13_great.mono|apply psalterylaw13_knows.mono|apply psalteryref12_Fair.mono|apply psalteryref13_Right.mono|apply psalteryref13_Write.mono|apply yLr|apply yLn|apply yLi|apply yLb|intro _
def psalterylaw13_PackWrites.T6 : Bool × List (List Nat × List Nat):=(true, [([], []),([0], [0]),([], []),([], []),([], []),([4], [4]),([], []),([2,3,5,6,5], [2,3,5,6]),([7], [7]),([1,8], [1,8]),([9,7], [9]),([10], [10]),([11,10], [10,11]),([10,12], [10,12]),([13,10], [13]),([14,14], [14]),([14,15], [14,15]),([16,15,0,1,2,3,4,5,6,7,8,9,10,11,12,13,14,15,16], [16])])
def psalterylaw13_PackWrites.B6 : List Nat := [0,1,0,0,0,16,0,124,252,511,1023,2047,4095,8191,16383,32767,65535,131071]
theorem psalterylaw13_PackWrites.tab6 : rtab .any (opsOf Try.f5 6)=psalterylaw13_PackWrites.T6:=by kernel_rfl
theorem psalterylaw13_PackWrites.bits6 : waitsOk psalterylaw13_PackWrites.T6.2 psalterylaw13_PackWrites.B6=true:=by kernel_rfl
set_option maxHeartbeats 8000000 in
set_option maxRecDepth 100000 in
theorem psalterylaw13_PackWrites.calls (k : Nat) (a0 : Int) (a1 : Int) (a2_0 : Bool) (A2_1 : Option Addr) (c2_1 : Nat) (l2_1 : List (List Int)) (A2_2 : Option Addr) (c2_2 : Nat) (l2_2 : List (List (List Int))) (A3 : Option Addr) (c3 : Nat) (l3 : List (List Int)) (r : Bool) (w : World) (hr2_1 : Kd.C (Kd.slice 3 (Kd.int .i64)) w A2_1 l2_1.length l2_1) (hc2_1 : l2_1.length≤c2_1) (hr2_2 : Kd.C (Kd.slice 49 (Kd.slice 3 (Kd.int .i64))) w A2_2 l2_2.length l2_2) (hc2_2 : l2_2.length≤c2_2) (hr3 : Kd.C (Kd.slice 3 (Kd.int .i64)) w A3 l3.length l3) (hc3 : l3.length≤c3) (h : psalterylaw13_PackWrites.f k a0 a1 a2_0 l2_1 l2_2 l3=some r) :
  Calls Try.prog 5 #[.int .i64 a0, .int .i64 a1, .agg #[.bool a2_0, .slice A2_1 l2_1.length c2_1, .slice A2_2 l2_2.length c2_2], .slice A3 l3.length c3] w fun e w' => e=.returned (.bool r)∧Below w.heap.size w w' := by
 have hu25:=Try.underlying25;have HR2_1:=zm hr2_1;have HC2_1:=zm hc2_1;clear hr2_1 hc2_1;have HR2_2:=zm hr2_2;have HC2_2:=zm hc2_2;clear hr2_2 hc2_2;have HR3:=zm hr3;have HC3:=zm hc3;clear hr3 hc3;have HB:=zm (Below.refl w.heap.size w)
 have H : ((psalterylaw13_great.f k a2_0 l2_1 l2_2 l3).bind fun t897=>(if t897=true then ((psalterylaw13_knows.f k).bind fun t898=>(some t898)) else ((cpack_Write.f k a0 a1 a2_0 l2_1 l2_2 l3).bind fun bt899=>((psalterylaw13_As.f a2_0 l2_1 l2_2).bind fun bt903=>((psalteryref13_Right.f k a0 a1 bt903.1 bt903.2.1 bt903.2.2).bind fun t910=>(if t910=true then (if a2_0=true then (psalterylaw13_PackWrites.j0 k a0 a1 l3 bt899.1 bt899.2 false a2_0 l2_1 l2_2) else ((psalteryref12_Fair.f k a1 l3).bind fun t911=>(psalterylaw13_PackWrites.j0 k a0 a1 l3 bt899.1 bt899.2 (!t911) a2_0 l2_1 l2_2))) else (psalterylaw13_PackWrites.j0 k a0 a1 l3 bt899.1 bt899.2 true a2_0 l2_1 l2_2)))))))=some r:=h
 clear h
 replace H:=ybi H;obtain ⟨t897,A5,H⟩:=H
 by_cases c6 : t897=true
 ·
  subst c6
  rw [if_pos rfl] at H
  replace H:=ybi H;obtain ⟨t898,A7,H⟩:=H
  obtain rfl:=Option.some.inj H
  go_enter Try.func5,Try.ntmps5
  go_wp2_with (first|((with_reducible refine gate_dst (N:=6) rfl ?_);refine ybx 6 #[.bool a2_0, .slice A2_1 l2_1.length c2_1, .slice A2_2 l2_2.length c2_2] 25 ?_;intro gb896 hg w8 hbox hb;have BK896:=zm (hbox);have GW896:=ygw hg;have GE896:=ygw hg;replace HB:=ybs hb;clear hb hbox hg;obtain ⟨hcz9_0,hcz9_1,hcz9_2,hfz9_0,hfz9_1,hfz9_2⟩:=yc3 BK896)|((with_reducible refine gate_callee (f:=10) rfl ?_);refine ygl 13 Try.func10 #[.agg #[.bool a2_0, .slice A2_1 l2_1.length c2_1, .slice A2_2 l2_2.length c2_2], .slice A3 l3.length c3] ?_;(with_reducible refine (psalterylaw13_great.calls k a2_0 _ _ l2_1 _ _ l2_2 _ _ l3 true _ ?side1 HC2_1.out ?side3 HC2_2.out ?side5 HC3.out A5.out).mono ?_);(case side1=>exact ycb HR2_1);(case side3=>exact ycb HR2_2);(case side5=>exact ycb HR3);rintro e w10 ⟨rfl,hb⟩;refine ⟨_,rfl, ?_⟩;replace BK896:=ybb BK896 hb;replace HB:=ybs hb;(try clear hb))|((with_reducible refine gate_callee (f:=11) rfl ?_);refine ygl 14 Try.func11 #[] ?_;(with_reducible refine (psalterylaw13_knows.calls k  t898 _ A7.out).mono ?_);rintro e w11 ⟨rfl,hb⟩;refine ⟨_,rfl, ?_⟩;replace BK896:=ybb BK896 hb;replace HB:=ybs hb;(try clear hb)))
  go_ret
  exact ⟨ye,yhb⟩
 ·
  replace c6:=Bool.eq_false_iff.mpr c6
  subst c6
  rw [ynf] at H
  replace H:=ybi H;obtain ⟨⟨t899,t902⟩,A12,H⟩:=H
  try dsimp only at H
  have HC13:=zm H;clear H
  go_enter Try.func5,Try.ntmps5
  go_upto_region 4 with (first|((with_reducible refine gate_dst (N:=6) rfl ?_);refine ybx 6 #[.bool a2_0, .slice A2_1 l2_1.length c2_1, .slice A2_2 l2_2.length c2_2] 25 ?_;intro gb896 hg w14 hbox hb;have BK896:=zm (hbox);have GW896:=ygw hg;have GE896:=ygw hg;replace HB:=ybs hb;clear hb hbox hg;obtain ⟨hcz15_0,hcz15_1,hcz15_2,hfz15_0,hfz15_1,hfz15_2⟩:=yc3 BK896)|((with_reducible refine gate_callee (f:=10) rfl ?_);refine ygl 13 Try.func10 #[.agg #[.bool a2_0, .slice A2_1 l2_1.length c2_1, .slice A2_2 l2_2.length c2_2], .slice A3 l3.length c3] ?_;(with_reducible refine (psalterylaw13_great.calls k a2_0 _ _ l2_1 _ _ l2_2 _ _ l3 false _ ?side1 HC2_1.out ?side3 HC2_2.out ?side5 HC3.out A5.out).mono ?_);(case side1=>exact ycb HR2_1);(case side3=>exact ycb HR2_2);(case side5=>exact ycb HR3);rintro e w16 ⟨rfl,hb⟩;refine ⟨_,rfl, ?_⟩;replace BK896:=ybb BK896 hb;replace HB:=ybs hb;(try clear hb);obtain ⟨hcz17_0,hcz17_1,hcz17_2,hfz17_0,hfz17_1,hfz17_2⟩:=yc3 BK896)|((with_reducible refine gate_callee (f:=12) rfl ?_);refine ygl 20 Try.func12 #[.int .i64 a0, .int .i64 a1, .agg #[.bool a2_0, .slice A2_1 l2_1.length c2_1, .slice A2_2 l2_2.length c2_2], .slice A3 l3.length c3] ?_;(with_reducible refine (cpack_Write.calls k a0 a1 a2_0 _ _ l2_1 _ _ l2_2 _ _ l3 t899 t902 _ ?side1 HC2_1.out ?side3 HC2_2.out ?side5 HC3.out A12.out).mono ?_);(case side1=>exact ycb HR2_1);(case side3=>exact ycb HR2_2);(case side5=>exact ycb HR3);rintro e w18 ⟨v900,rfl,ho0,hb⟩;refine ⟨_,rfl, ?_⟩;have HO901:=zm (Kd.R_lower ho0 (zE yhb));replace BK896:=ybb BK896 hb;replace HB:=ybs hb;(try clear hb);(try clear ho0)))
  (try simp only [Act.put,List.setIfInBounds_toArray,List.set_cons_zero,List.set_cons_succ])
  go_cut [39] (fun v39 wc => ∃ (kq : Nat) (x39_12 : Bool),v39=.bool x39_12∧Aside0 (psalterylaw13_PackWrites.j0 kq a0 a1 l3 t899 t902 x39_12 a2_0 l2_1 l2_2=some r)∧Aside0 (kq≤k)∧Aside0 (Kd.R (Kd.int .u8) 5 wc w.heap.size (fun _=>True) v900 t899)∧Aside0 (wc.heap[gb896]? = some (.cells #[.bool a2_0,(.slice A2_1 l2_1.length c2_1),(.slice A2_2 l2_2.length c2_2)] 25 (0,0)))∧Aside0 (Below w.heap.size w wc))
  case first =>
   have H:=HC13.out;clear HC13
   replace H:=ybi H;obtain ⟨⟨t903,t904,t907⟩,A19,H⟩:=H
   try dsimp only at H
   replace H:=ybi H;obtain ⟨t910,A20,H⟩:=H
   by_cases c21 : t910=true
   ·
    subst c21
    rw [if_pos rfl] at H
    by_cases c22 : a2_0=true
    ·
     subst c22
     rw [if_pos rfl] at H
     have H' := zm H
     clear H
     obtain ⟨_,_,_,_,_,_⟩:=yc3 BK896
     go_wp2_with (first|((with_reducible refine gate_callee (f:=14) rfl ?_);refine ygl 26 Try.func14 #[.agg #[.bool true, .slice A2_1 l2_1.length c2_1, .slice A2_2 l2_2.length c2_2]] ?_;(with_reducible refine (psalterylaw13_As.calls true (fun k_=>k_ < w.heap.size) _ _ l2_1 (fun k_=>k_ < w.heap.size) _ _ l2_2 t903 t904 t907 _ ?side1 ?side2 A19.out).mono ?_);(case side1=>exact Kd.V_mk HC2_1.out (Kd.F_below (Kd.C_F (Kd.heap_slice 3 (Kd.heap_int .i64)) HR2_1.out) yhb));(case side2=>exact Kd.V_mk HC2_2.out (Kd.F_below (Kd.C_F (Kd.heap_slice 49 (Kd.heap_slice 3 (Kd.heap_int .i64))) HR2_2.out) yhb));rintro e w24 ⟨v905,v908,rfl,ho0,ho1,hb⟩;refine ⟨_,rfl, ?_⟩;have HO906:=yho (fun k_=>some k_≠(v900 : Value).ownBlock∧k_≠gb896) ho0 (fun k_ hk_=>⟨yoR HO901 hk_,yoB BK896 hk_⟩);have HO909:=yho (fun k_=>some k_≠(v900 : Value).ownBlock∧k_≠gb896) ho1 (fun k_ hk_=>⟨yoR HO901 hk_,yoB BK896 hk_⟩);replace HO901:=yRb HO901 hb;replace BK896:=ybb BK896 hb;replace HB:=ybs hb;(try clear hb);(try clear ho0);(try clear ho1);obtain ⟨Ao25,co25,eo25⟩:=Kd.V_slice HO906.out;subst eo25;obtain ⟨Ao26,co26,eo26⟩:=Kd.V_slice HO909.out;subst eo26)|((with_reducible refine gate_callee (f:=16) rfl ?_);refine ygl 27 Try.func16 #[.int .i64 a0, .int .i64 a1, .agg #[.bool t903, .slice Ao25 t904.length co25, .slice Ao26 t907.length co26]] ?_;(with_reducible refine (psalteryref13_Right.calls k a0 a1 t903 _ _ t904 _ _ t907 true _ ?side1 ?side2 ?side3 ?side4 A20.out).mono ?_);(case side1=>exact yce (Kd.V_reads' HO906.out).2.2);(case side2=>exact (Kd.V_reads' HO906.out).2.1);(case side3=>exact yce (Kd.V_reads' HO909.out).2.2);(case side4=>exact (Kd.V_reads' HO909.out).2.1);rintro e w27 ⟨rfl,hb⟩;refine ⟨_,rfl, ?_⟩;replace HO901:=yRb HO901 hb;replace HO906:=yVb HO906 hb;replace HO909:=yVb HO909 hb;replace BK896:=ybb BK896 hb;replace HB:=ybs hb;(try clear hb);obtain ⟨_,_,_,_,_,_⟩:=yc3 BK896))
     go_meet
     case rel=>exact ⟨_,(false),yq,H',⟨yo⟩,⟨yr HO901⟩,⟨yk BK896⟩,⟨yhb⟩⟩
    ·
     replace c22:=Bool.eq_false_iff.mpr c22
     subst c22
     rw [ynf] at H
     replace H:=ybi H;obtain ⟨t911,A29,H⟩:=H
     have H' := zm H
     clear H
     obtain ⟨_,_,_,_,_,_⟩:=yc3 BK896
     go_wp2_with (first|((with_reducible refine gate_callee (f:=14) rfl ?_);refine ygl 26 Try.func14 #[.agg #[.bool false, .slice A2_1 l2_1.length c2_1, .slice A2_2 l2_2.length c2_2]] ?_;(with_reducible refine (psalterylaw13_As.calls false (fun k_=>k_ < w.heap.size) _ _ l2_1 (fun k_=>k_ < w.heap.size) _ _ l2_2 t903 t904 t907 _ ?side1 ?side2 A19.out).mono ?_);(case side1=>exact Kd.V_mk HC2_1.out (Kd.F_below (Kd.C_F (Kd.heap_slice 3 (Kd.heap_int .i64)) HR2_1.out) yhb));(case side2=>exact Kd.V_mk HC2_2.out (Kd.F_below (Kd.C_F (Kd.heap_slice 49 (Kd.heap_slice 3 (Kd.heap_int .i64))) HR2_2.out) yhb));rintro e w31 ⟨v905,v908,rfl,ho0,ho1,hb⟩;refine ⟨_,rfl, ?_⟩;have HO906:=yho (fun k_=>some k_≠(v900 : Value).ownBlock∧k_≠gb896) ho0 (fun k_ hk_=>⟨yoR HO901 hk_,yoB BK896 hk_⟩);have HO909:=yho (fun k_=>some k_≠(v900 : Value).ownBlock∧k_≠gb896) ho1 (fun k_ hk_=>⟨yoR HO901 hk_,yoB BK896 hk_⟩);replace HO901:=yRb HO901 hb;replace BK896:=ybb BK896 hb;replace HB:=ybs hb;(try clear hb);(try clear ho0);(try clear ho1);obtain ⟨Ao32,co32,eo32⟩:=Kd.V_slice HO906.out;subst eo32;obtain ⟨Ao33,co33,eo33⟩:=Kd.V_slice HO909.out;subst eo33)|((with_reducible refine gate_callee (f:=16) rfl ?_);refine ygl 27 Try.func16 #[.int .i64 a0, .int .i64 a1, .agg #[.bool t903, .slice Ao32 t904.length co32, .slice Ao33 t907.length co33]] ?_;(with_reducible refine (psalteryref13_Right.calls k a0 a1 t903 _ _ t904 _ _ t907 true _ ?side1 ?side2 ?side3 ?side4 A20.out).mono ?_);(case side1=>exact yce (Kd.V_reads' HO906.out).2.2);(case side2=>exact (Kd.V_reads' HO906.out).2.1);(case side3=>exact yce (Kd.V_reads' HO909.out).2.2);(case side4=>exact (Kd.V_reads' HO909.out).2.1);rintro e w34 ⟨rfl,hb⟩;refine ⟨_,rfl, ?_⟩;replace HO901:=yRb HO901 hb;replace HO906:=yVb HO906 hb;replace HO909:=yVb HO909 hb;replace BK896:=ybb BK896 hb;replace HB:=ybs hb;(try clear hb);obtain ⟨_,_,_,_,_,_⟩:=yc3 BK896)|(go_at_call 17;(with_reducible refine (psalteryref12_Fair.calls k a1 _ _ l3 t911 _ ?side1 HC3.out A29.out).mono ?_);(case side1=>exact ycb HR3);rintro e w' ⟨rfl,⟨nd,rfl⟩⟩))
     go_meet
     case rel=>exact ⟨_,(!t911),yq,H',⟨yo⟩,⟨yr HO901⟩,⟨yk BK896⟩,⟨yhb⟩⟩
   ·
    replace c21:=Bool.eq_false_iff.mpr c21
    subst c21
    rw [ynf] at H
    have H' := zm H
    clear H
    obtain ⟨_,_,_,_,_,_⟩:=yc3 BK896
    go_wp2_with (first|((with_reducible refine gate_callee (f:=14) rfl ?_);refine ygl 26 Try.func14 #[.agg #[.bool a2_0, .slice A2_1 l2_1.length c2_1, .slice A2_2 l2_2.length c2_2]] ?_;(with_reducible refine (psalterylaw13_As.calls a2_0 (fun k_=>k_ < w.heap.size) _ _ l2_1 (fun k_=>k_ < w.heap.size) _ _ l2_2 t903 t904 t907 _ ?side1 ?side2 A19.out).mono ?_);(case side1=>exact Kd.V_mk HC2_1.out (Kd.F_below (Kd.C_F (Kd.heap_slice 3 (Kd.heap_int .i64)) HR2_1.out) yhb));(case side2=>exact Kd.V_mk HC2_2.out (Kd.F_below (Kd.C_F (Kd.heap_slice 49 (Kd.heap_slice 3 (Kd.heap_int .i64))) HR2_2.out) yhb));rintro e w37 ⟨v905,v908,rfl,ho0,ho1,hb⟩;refine ⟨_,rfl, ?_⟩;have HO906:=yho (fun k_=>some k_≠(v900 : Value).ownBlock∧k_≠gb896) ho0 (fun k_ hk_=>⟨yoR HO901 hk_,yoB BK896 hk_⟩);have HO909:=yho (fun k_=>some k_≠(v900 : Value).ownBlock∧k_≠gb896) ho1 (fun k_ hk_=>⟨yoR HO901 hk_,yoB BK896 hk_⟩);replace HO901:=yRb HO901 hb;replace BK896:=ybb BK896 hb;replace HB:=ybs hb;(try clear hb);(try clear ho0);(try clear ho1);obtain ⟨Ao38,co38,eo38⟩:=Kd.V_slice HO906.out;subst eo38;obtain ⟨Ao39,co39,eo39⟩:=Kd.V_slice HO909.out;subst eo39)|((with_reducible refine gate_callee (f:=16) rfl ?_);refine ygl 27 Try.func16 #[.int .i64 a0, .int .i64 a1, .agg #[.bool t903, .slice Ao38 t904.length co38, .slice Ao39 t907.length co39]] ?_;(with_reducible refine (psalteryref13_Right.calls k a0 a1 t903 _ _ t904 _ _ t907 false _ ?side1 ?side2 ?side3 ?side4 A20.out).mono ?_);(case side1=>exact yce (Kd.V_reads' HO906.out).2.2);(case side2=>exact (Kd.V_reads' HO906.out).2.1);(case side3=>exact yce (Kd.V_reads' HO909.out).2.2);(case side4=>exact (Kd.V_reads' HO909.out).2.1);rintro e w40 ⟨rfl,hb⟩;refine ⟨_,rfl, ?_⟩;replace HO901:=yRb HO901 hb;replace HO906:=yVb HO906 hb;replace HO909:=yVb HO909 hb;replace BK896:=ybb BK896 hb;replace HB:=ybs hb;(try clear hb)))
    go_meet
    case rel=>exact ⟨_,(true),yq,H',⟨yo⟩,⟨yr HO901⟩,⟨yk BK896⟩,⟨yhb⟩⟩
  case rest =>
   clear HC13
   try clear c3
   try clear hcz15_0
   try clear hcz15_1
   try clear hcz15_2
   try clear hcz17_0
   try clear hcz17_1
   try clear hcz17_2
   try clear hcz9_0
   try clear hcz9_1
   try clear hcz9_2
   try clear hfz15_0
   try clear hfz15_1
   try clear hfz15_2
   try clear hfz17_0
   try clear hfz17_1
   try clear hfz17_2
   try clear hfz9_0
   try clear hfz9_1
   try clear hfz9_2
   obtain ⟨kq,x39_12,rfl,HA,HJ12,HO_9,BK896,HB⟩:=hcut
   obtain ⟨kj12,rfl⟩:=ysu kq (fun h=>by subst h;exact absurd HA.out (by simp [psalterylaw13_PackWrites.j0]))
   have H:=HA.out;clear HA
   simp only [psalterylaw13_PackWrites.j0] at H
   by_cases c41 : x39_12=true
   ·
    subst c41
    rw [if_pos rfl] at H
    replace H:=yif H;obtain ⟨c42,H⟩:=H
    have c42b0 : ((t899.length : Int) == 0)=true:=beq_iff_eq.mpr c42
    have c42b1 : ((t899.length : Int) != 0)=false:=bne_eq_false_iff_eq.mpr c42
    clear c42
    replace H:=yif H;obtain ⟨c43,H⟩:=H
    have c43b0 : (t902 == 1)=true:=beq_iff_eq.mpr c43
    have c43b1 : (t902 != 1)=false:=bne_eq_false_iff_eq.mpr c43
    clear c43
    replace H:=ybi H;obtain ⟨t912,A44,H⟩:=H
    obtain rfl:=Option.some.inj H
    obtain ⟨Ao45,co45,eo45⟩:=Kd.R_slice HO_9.out
    subst eo45
    go_wp2_with (first|(go_at_call 11;(with_reducible refine (psalterylaw13_knows.calls kj12  t912 _ A44.out).mono ?_);rintro e w46 ⟨rfl,hb⟩;replace HO_9:=yRb HO_9 hb;replace BK896:=ybb BK896 hb;replace HB:=ybs hb;(try clear hb)))
    go_ret
    exact ⟨ye,yhb⟩
   ·
    replace c41:=Bool.eq_false_iff.mpr c41
    subst c41
    rw [ynf] at H
    replace H:=ybi H;obtain ⟨⟨t913,t914,t917⟩,A47,H⟩:=H
    try dsimp only at H
    replace H:=ybi H;obtain ⟨t920,A48,H⟩:=H
    by_cases c49 : (strOfNums t899).toList=(strOfNums t920).toList
    ·
     rw [if_pos c49] at H
     have c49b0 : ((strOfNums t899).toList == (strOfNums t920).toList)=true:=beq_iff_eq.mpr c49
     have c49b1 : ((strOfNums t899).toList != (strOfNums t920).toList)=false:=bne_eq_false_iff_eq.mpr c49
     clear c49
     by_cases c50 : t902=0
     ·
      rw [if_pos c50] at H
      have c50b0 : (t902 == 0)=true:=beq_iff_eq.mpr c50
      have c50b1 : (t902 != 0)=false:=bne_eq_false_iff_eq.mpr c50
      clear c50
      replace H:=ybi H;obtain ⟨t923,A51,H⟩:=H
      obtain rfl:=Option.some.inj H
      try go_wp2
      replace HO_9:=zm (zq HO_9.out)
      replace BK896:=zm (zj BK896.out)
      replace HB:=zm (zf HB.out)
      refine yst (fun w' => (convert 28 9 v900).run Try.prog w' = .ok (.string (strOfNums t899)) w'∧w'.cell? ⟨gb896,0,none⟩=some (.bool a2_0)∧w'.cell? ⟨gb896,1,none⟩=some (.slice A2_1 l2_1.length c2_1)∧w'.cell? ⟨gb896,2,none⟩=some (.slice A2_2 l2_2.length c2_2)) [] 18 psalterylaw13_PackWrites.tab6 psalterylaw13_PackWrites.bits6 (fun hHeld HT_ HW_ => ?_) (hS:=⟨own_string (P:=Try.prog) Try.underlying28 Try.underlying5 Try.underlying9 (Kd.own_of_R HO_9.out),(zs BK896.out 0).trans rfl,(zs BK896.out 1).trans rfl,(zs BK896.out 2).trans rfl⟩)
      generalize wc.drew=w52 at HO_9 BK896 HB hHeld ⊢
      refine yp 0 50 HT_ ?_
      refine yl 1 51 HT_ HW_ hHeld ?_
      refine yp 2 52 HT_ ?_
      refine yl 3 53 HT_ HW_ hHeld ?_
      refine yp 6 56 HT_ ?_
      refine yl 4 54 HT_ HW_ hHeld ?_
      refine yw 5 55 HT_ (fun K hK => ?_)
      refine ygs Try.func14 #[.agg #[.bool a2_0, .slice A2_1 l2_1.length c2_1, .slice A2_2 l2_2.length c2_2]] ?_
      with_reducible refine (psalterylaw13_As.calls a2_0 (fun k_=>k_ < w.heap.size) _ _ l2_1 (fun k_=>k_ < w.heap.size) _ _ l2_2 t913 t914 t917 _ ?side1 ?side2 A47.out).mono ?_
      (case side1=>exact Kd.V_mk HC2_1.out (Kd.F_below (Kd.C_F (Kd.heap_slice 3 (Kd.heap_int .i64)) HR2_1.out) yhb))
      (case side2=>exact Kd.V_mk HC2_2.out (Kd.F_below (Kd.C_F (Kd.heap_slice 49 (Kd.heap_slice 3 (Kd.heap_int .i64))) HR2_2.out) yhb))
      rintro e w54 ⟨v915,v918,rfl,ho0,ho1,hb⟩
      refine ⟨_,rfl, ?_⟩
      have HO916:=yho (fun k_=>some k_≠(v900 : Value).ownBlock∧k_≠gb896) ho0 (fun k_ hk_=>⟨yoR HO_9 hk_,yoB BK896 hk_⟩)
      have HO919:=yho (fun k_=>some k_≠(v900 : Value).ownBlock∧k_≠gb896) ho1 (fun k_ hk_=>⟨yoR HO_9 hk_,yoB BK896 hk_⟩)
      replace HO_9:=yRb HO_9 hb
      replace BK896:=ybb BK896 hb
      replace HB:=ybs hb
      (try clear hb)
      (try clear ho0)
      (try clear ho1)
      obtain ⟨Ao55,co55,eo55⟩:=Kd.V_slice HO916.out
      (first|subst eo55|(injection eo55 with f1_ f2_ f3_;have f4_:=f1_.symm;have f5_:=f3_.symm;clear f1_ f2_ f3_;subst f4_;subst f5_))
      obtain ⟨Ao56,co56,eo56⟩:=Kd.V_slice HO919.out
      (first|subst eo56|(injection eo56 with f1_ f2_ f3_;have f4_:=f1_.symm;have f5_:=f3_.symm;clear f1_ f2_ f3_;subst f4_;subst f5_))
      refine hK.out _ _ ⟨own_string (P:=Try.prog) Try.underlying28 Try.underlying5 Try.underlying9 (Kd.own_of_R HO_9.out),(zs BK896.out 0).trans rfl,(zs BK896.out 1).trans rfl,(zs BK896.out 2).trans rfl⟩ (fun hHeld => ?_)
      clear hK K
      refine ym (some 55) ?_
      refine yw 7 57 HT_ (fun K hK => ?_)
      refine ygs Try.func18 #[.int .i64 a0, .int .i64 a1, .agg #[.bool t913, .slice Ao55 t914.length co55, .slice Ao56 t917.length co56], .slice A3 l3.length c3] ?_
      with_reducible refine (psalteryref13_Write.calls kj12 a0 a1 t913 _ _ t914 _ _ t917 _ _ l3 t920 _ ?side1 ?side2 ?side3 ?side4 ?side5 ?side6 A48.out).mono ?_
      (case side1=>exact yce (Kd.V_reads' HO916.out).2.2)
      (case side2=>exact (Kd.V_reads' HO916.out).2.1)
      (case side3=>exact yce (Kd.V_reads' HO919.out).2.2)
      (case side4=>exact (Kd.V_reads' HO919.out).2.1)
      (case side5=>exact ycb HR3)
      (case side6=>exact HC3.out)
      rintro e w57 ⟨v921,rfl,ho0,hb⟩
      refine ⟨_,rfl, ?_⟩
      replace HO916:=zm (Kd.V_elder' (yr HO916) (Kd.R_base ho0) hb)
      replace HO919:=zm (Kd.V_elder' (yr HO919) (Kd.R_base ho0) hb)
      have HO922:=zm (Kd.R_lower (Kd.R_new' ho0 (Kd.R_lt (yr HO_9))) (zE yhb))
      replace HO_9:=zm (Kd.R_elder' (yr HO_9) (Kd.R_base ho0) hb)
      replace BK896:=ybb BK896 hb
      replace HB:=ybs hb
      (try clear hb)
      (try clear ho0)
      refine hK.out _ _ ⟨own_string (P:=Try.prog) Try.underlying28 Try.underlying5 Try.underlying9 (Kd.own_of_R HO_9.out),(zs BK896.out 0).trans rfl,(zs BK896.out 1).trans rfl,(zs BK896.out 2).trans rfl⟩ (fun hHeld => ?_)
      clear hK K
      refine ym (some 57) ?_
      refine yw 8 58 HT_ (fun K hK => ?_)
      have hcv58:=own_string (P:=Try.prog) Try.underlying28 Try.underlying5 Try.underlying9 (Kd.own_of_R HO922.out)
      refine value_ (w1 := ?_) (v := ?_) (by rfl) rfl ?_ ?_
      rotate_left 2
      ·
       go_simp
       constructor
       ·
        rfl
       ·
        rfl
      clear hcv58
      refine hK.out _ _ ⟨own_string (P:=Try.prog) Try.underlying28 Try.underlying5 Try.underlying9 (Kd.own_of_R HO_9.out),(zs BK896.out 0).trans rfl,(zs BK896.out 1).trans rfl,(zs BK896.out 2).trans rfl⟩ (fun hHeld => ?_)
      clear hK K
      refine ym (some 58) ?_
      refine yp 9 59 HT_ ?_
      refine yp 10 60 HT_ ?_
      refine yp 11 61 HT_ ?_
      refine yp 12 62 HT_ ?_
      refine yp 13 63 HT_ ?_
      refine yp 14 64 HT_ ?_
      refine yw 15 65 HT_ (fun K hK => ?_)
      refine ygs Try.func11 #[] ?_
      with_reducible refine (psalterylaw13_knows.calls kj12  t923 _ A51.out).mono ?_
      rintro e w60 ⟨rfl,hb⟩
      refine ⟨_,rfl, ?_⟩
      replace HO_9:=yRb HO_9 hb
      replace HO916:=yVb HO916 hb
      replace HO919:=yVb HO919 hb
      replace HO922:=yRb HO922 hb
      replace BK896:=ybb BK896 hb
      replace HB:=ybs hb
      (try clear hb)
      refine hK.out _ _ ⟨own_string (P:=Try.prog) Try.underlying28 Try.underlying5 Try.underlying9 (Kd.own_of_R HO_9.out),(zs BK896.out 0).trans rfl,(zs BK896.out 1).trans rfl,(zs BK896.out 2).trans rfl⟩ (fun hHeld => ?_)
      clear hK K
      refine ym (some 65) ?_
      refine yp 16 66 HT_ ?_
      refine yp 17 8 HT_ ?_
      refine done_ (done_of HT_.out (by kernel_rfl)) ?_
      try go_wp2
      go_ret
      exact ⟨ye,yhb⟩
     ·
      rw [if_neg c50] at H
      have c50b0 : (t902 == 0)=false:=beq_eq_false_iff_ne.mpr c50
      have c50b1 : (t902 != 0)=true:=bne_iff_ne.mpr c50
      exact absurd H (by simp)
    ·
     rw [if_neg c49] at H
     have c49b0 : ((strOfNums t899).toList == (strOfNums t920).toList)=false:=beq_eq_false_iff_ne.mpr c49
     have c49b1 : ((strOfNums t899).toList != (strOfNums t920).toList)=true:=bne_iff_ne.mpr c49
     exact absurd H (by simp)
end Go.Proofs.Ytnmbndkojpjkmaa.Prt
