-- Functions of the program and of the document as plain Lean, each with the proof that the code comes to it. Written by a program of this session (wip/tools/myprint.py, pack.py) over the kit's printer; Lean checks it.
import Derived.Test.YtifkhfnmbiefaaaZToneEncodesPrt0
import Derived.Test.YtifkhfnmbiefaaaZToneEncodesSh
import Derived.Test.YtifkhfnmbiefaaaZToneEncodesM2
import Derived.Test.YtifkhfnmbiefaaaZToneEncodesM1
namespace Go.Proofs.Ytifkhfnmbiefaaa.Prt
open Go.RowKit Go.Proofs.YtifkhfnmbiefaaaW.PrintWords Go.Proofs.YtifkhfnmbiefaaaW.PrintLast Go.Proofs.YtifkhfnmbiefaaaW.PrintMore
attribute [local go_sem] max2_int min2_int max_two min_two max_three min_three max_four min_four   -- for this text's walks alone
set_option linter.unusedVariables false
set_option linter.unusedSimpArgs false


def psalteryref07_tried.l0 : Nat→List Int→List Int→Int→Int→Int→Int→Option (Int × Int)
 | 0,_,_,_,_,_,_=>none
 | k+1,x0,x1,x2,x8,x9,x10=>if x10 < (x0.length : Int) then (if 0≤x10 then (if x10 < (x1.length : Int) then (if x10=x2 then (psalteryref07_tried.l0 k x0 x1 x2 (wrap64 (x8+(wrap64 ((rd x0 x10) * (wrap64 ((rd x1 x10)+1)))))) (wrap64 (x9+(wrap64 ((wrap64 ((rd x1 x10)+1)) * (wrap64 ((rd x1 x10)+1)))))) (wrap64 (x10+1))) else (psalteryref07_tried.l0 k x0 x1 x2 (wrap64 (x8+(wrap64 ((rd x0 x10) * (rd x1 x10))))) (wrap64 (x9+(wrap64 ((rd x1 x10) * (rd x1 x10))))) (wrap64 (x10+1)))) else (none)) else (none)) else (some (x8,x9))
def psalteryref07_tried.f (k : Nat) (l0 : List Int) (l1 : List Int) (a2 : Int) : Option (Int × Int):=psalteryref07_tried.l0 k l0 l1 a2 0 0 0
theorem psalteryref07_tried.mono_l : ∀ k,(∀ y0 y1 y2 y3 y4 y5,LeO (psalteryref07_tried.l0 k y0 y1 y2 y3 y4 y5) (psalteryref07_tried.l0 (k+1) y0 y1 y2 y3 y4 y5))
 | 0=>fun _ _ _ _ _ _ r h=>by simp [psalteryref07_tried.l0] at h
 | k+1=>by
  have ih0:=psalteryref07_tried.mono_l k
  ·
   intro y0 y1 y2 y3 y4 y5
   unfold psalteryref07_tried.l0
   repeat' with_reducible first|apply ih0|apply yLr|apply yLn|apply yLi|apply yLb|intro _
theorem psalteryref07_tried.mono : ∀ a0 a1 a2 k,LeO (psalteryref07_tried.f k a0 a1 a2) (psalteryref07_tried.f (k+1) a0 a1 a2):=by
 intro a0 a1 a2 k
 have ih0:=psalteryref07_tried.mono_l k
 unfold psalteryref07_tried.f
 repeat' with_reducible first|apply ih0|apply yLr|apply yLn|apply yLi|apply yLb|intro _
set_option maxHeartbeats 8000000 in
set_option maxRecDepth 100000 in
theorem psalteryref07_tried.calls (k : Nat) (A0 : Option Addr) (c0 : Nat) (l0 : List Int) (A1 : Option Addr) (c1 : Nat) (l1 : List Int) (a2 : Int) (r1 : Int) (r2 : Int) (w : World) (hr0 : Kd.C (Kd.int .i64) w A0 l0.length l0) (hc0 : l0.length≤c0) (hr1 : Kd.C (Kd.int .i64) w A1 l1.length l1) (hc1 : l1.length≤c1) (h : psalteryref07_tried.f k l0 l1 a2=some (r1,r2)) :
  Calls Try.prog 100 #[.slice A0 l0.length c0, .slice A1 l1.length c1, .int .i64 a2] w fun e w' => e=.returned (.tuple #[.int .i64 r1, .int .i64 r2])∧Drawn0 w w' := by
 have HR0:=zm hr0;have HC0:=zm hc0;clear hr0 hc0;have HR1:=zm hr1;have HC1:=zm hc1;clear hr1 hc1
 have H : (psalteryref07_tried.l0 k l0 l1 a2 0 0 0)=some (r1,r2):=h
 clear h
 have H' := zm H
 clear H
 go_enter Try.func100,Try.ntmps100
 go_wp2
 go_loopg [8,9,10] k (fun kq v8 v9 v10 w' => ∃ (x8_1 : Int) (x9_1 : Int) (x10_1 : Int),v8=.int .i64 x8_1∧v9=.int .i64 x9_1∧v10=.int .i64 x10_1∧Aside0 (psalteryref07_tried.l0 kq l0 l1 a2 x8_1 x9_1 x10_1=some (r1,r2))∧Aside0 (kq≤k)∧Drawn0 w w')
 case atStart=>exact ⟨(0),(0),(0),yq,yq,yq,H',⟨Nat.le_refl _⟩,yd⟩
 case round =>
  clear H'
  try clear c1
  obtain ⟨x8_1,x9_1,x10_1,rfl,rfl,rfl,HA,HK1,⟨m1,rfl⟩⟩:=hrel
  obtain ⟨k1,rfl⟩:=ysu gk (fun h=>by subst h;exact absurd HA.out (by simp [psalteryref07_tried.l0]))
  have H:=HA.out;clear HA
  simp only [psalteryref07_tried.l0] at H
  by_cases c4 : x10_1 < (l0.length : Int)
  ·
   rw [if_pos c4] at H
   have c4b0 : decide (x10_1 < (l0.length : Int))=true:=decide_eq_true c4
   clear c4
   replace H:=yif H;obtain ⟨c5,H⟩:=H
   have c5b0 : decide (0≤x10_1)=true:=decide_eq_true c5
   clear c5
   replace H:=yif H;obtain ⟨c6,H⟩:=H
   have c6b0 : decide (x10_1 < (l1.length : Int))=true:=decide_eq_true c6
   clear c6
   by_cases c7 : x10_1=a2
   ·
    rw [if_pos c7] at H
    have c7b0 : (x10_1 == a2)=true:=beq_iff_eq.mpr c7
    have c7b1 : (x10_1 != a2)=false:=bne_eq_false_iff_eq.mpr c7
    clear c7
    have H' := zm H
    clear H
    obtain ⟨ad477,e477,hx477_0,p477,q477⟩:=yai HR1 x10_1
    cases e477
    obtain ⟨ad478,e478,hx478_0,p478,q478⟩:=yai HR0 x10_1
    cases e478
    go_wp2
    go_roundg k1
    case measure=>exact yom1 HK1
    case rel=>exact ⟨(wrap64 (x8_1+(wrap64 ((rd l0 x10_1) * (wrap64 ((rd l1 x10_1)+1)))))),(wrap64 (x9_1+(wrap64 ((wrap64 ((rd l1 x10_1)+1)) * (wrap64 ((rd l1 x10_1)+1)))))),(wrap64 (x10_1+1)),yq,yq,yq,H',⟨yom1 HK1⟩,yd⟩
   ·
    rw [if_neg c7] at H
    have c7b0 : (x10_1 == a2)=false:=beq_eq_false_iff_ne.mpr c7
    have c7b1 : (x10_1 != a2)=true:=bne_iff_ne.mpr c7
    have H' := zm H
    clear H
    obtain ⟨ad477,e477,hx477_0,p477,q477⟩:=yai HR1 x10_1
    cases e477
    obtain ⟨ad479,e479,hx479_0,p479,q479⟩:=yai HR0 x10_1
    cases e479
    go_wp2
    go_roundg k1
    case measure=>exact yom1 HK1
    case rel=>exact ⟨(wrap64 (x8_1+(wrap64 ((rd l0 x10_1) * (rd l1 x10_1))))),(wrap64 (x9_1+(wrap64 ((rd l1 x10_1) * (rd l1 x10_1))))),(wrap64 (x10_1+1)),yq,yq,yq,H',⟨yom1 HK1⟩,yd⟩
  ·
   rw [if_neg c4] at H
   have c4b0 : decide (x10_1 < (l0.length : Int))=false:=decide_eq_false c4
   clear c4
   simp only [Option.some.injEq,Prod.mk.injEq] at H
   obtain ⟨rfl,rfl⟩:=H
   go_wp2
   go_ret2
   exact ⟨yq,yd⟩
mutual
def psalteryref07_Search.l0 : Nat→List Int→Int→List Int→List Int→Int→Option (List Int)
 | 0,_,_,_,_,_=>none
 | k+1,x0,x1,x5,x6,x7=>if x7 < x1 then (psalteryref07_Search.l1 k x0 x1 x5 x6 x7 0 1) else (psalteryref07_Search.l2 k x0 x6 0)
def psalteryref07_Search.l1 : Nat→List Int→Int→List Int→List Int→Int→Int→Int→Option (List Int)
 | 0,_,_,_,_,_,_,_=>none
 | k+1,x0,x1,x5,x6,x7,x8,x9=>if x9 < (x5.length : Int) then ((psalteryref07_tried.f k x5 x6 x9).bind fun bt488=>((psalteryref07_tried.f k x5 x6 x8).bind fun bt490=>(if (wrap64 ((wrap64 (bt488.1 * bt488.1)) * bt490.2)) > (wrap64 ((wrap64 (bt490.1 * bt490.1)) * bt488.2)) then (psalteryref07_Search.l1 k x0 x1 x5 x6 x7 x9 (wrap64 (x9+1))) else (psalteryref07_Search.l1 k x0 x1 x5 x6 x7 x8 (wrap64 (x9+1)))))) else (if 0≤x8 then (if x8 < (x6.length : Int) then (psalteryref07_Search.l0 k x0 x1 x5 (x6.set (x8 : Int).toNat (wrap64 ((rd x6 x8)+1))) (wrap64 (x7+1))) else (none)) else (none))
def psalteryref07_Search.l2 : Nat→List Int→List Int→Int→Option (List Int)
 | 0,_,_,_=>none
 | k+1,x0,x6,x14=>if x14 < (x0.length : Int) then (if 0≤x14 then (if (rd x0 x14) < 0 then (if x14 < (x6.length : Int) then (psalteryref07_Search.l2 k x0 (x6.set (x14 : Int).toNat (wrap64 (-(rd x6 x14)))) (wrap64 (x14+1))) else (none)) else (psalteryref07_Search.l2 k x0 x6 (wrap64 (x14+1)))) else (none)) else (some x6)
end
def psalteryref07_Search.f (k : Nat) (l0 : List Int) (a1 : Int) : Option (List Int):=(psalteryref07_sizes.f k l0).bind fun t480=>(if 0≤(l0.length : Int) then (if ((l0.length : Int) : Int).toNat≤35184372088832 then (psalteryref07_Search.l0 k l0 a1 t480 (List.replicate ((l0.length : Int) : Int).toNat 0) 0) else (none)) else (none))
theorem psalteryref07_Search.mono_l : ∀ k,(∀ y0 y1 y2 y3 y4,LeO (psalteryref07_Search.l0 k y0 y1 y2 y3 y4) (psalteryref07_Search.l0 (k+1) y0 y1 y2 y3 y4))∧(∀ y0 y1 y2 y3 y4 y5 y6,LeO (psalteryref07_Search.l1 k y0 y1 y2 y3 y4 y5 y6) (psalteryref07_Search.l1 (k+1) y0 y1 y2 y3 y4 y5 y6))∧(∀ y0 y1 y2,LeO (psalteryref07_Search.l2 k y0 y1 y2) (psalteryref07_Search.l2 (k+1) y0 y1 y2))
 | 0=>⟨fun _ _ _ _ _ r h=>by simp [psalteryref07_Search.l0] at h,fun _ _ _ _ _ _ _ r h=>by simp [psalteryref07_Search.l1] at h,fun _ _ _ r h=>by simp [psalteryref07_Search.l2] at h⟩
 | k+1=>by
  obtain ⟨ih0,ih1,ih2⟩:=psalteryref07_Search.mono_l k
  refine ⟨?_, ?_, ?_⟩
  ·
   intro y0 y1 y2 y3 y4
   unfold psalteryref07_Search.l0
   repeat' with_reducible first|apply ih0|apply ih1|apply ih2|apply psalteryref07_sizes.mono|apply psalteryref07_tried.mono|apply yLr|apply yLn|apply yLi|apply yLb|intro _
  ·
   intro y0 y1 y2 y3 y4 y5 y6
   unfold psalteryref07_Search.l1
   repeat' with_reducible first|apply ih0|apply ih1|apply ih2|apply psalteryref07_sizes.mono|apply psalteryref07_tried.mono|apply yLr|apply yLn|apply yLi|apply yLb|intro _
  ·
   intro y0 y1 y2
   unfold psalteryref07_Search.l2
   repeat' with_reducible first|apply ih0|apply ih1|apply ih2|apply psalteryref07_sizes.mono|apply psalteryref07_tried.mono|apply yLr|apply yLn|apply yLi|apply yLb|intro _
theorem psalteryref07_Search.mono : ∀ a0 a1 k,LeO (psalteryref07_Search.f k a0 a1) (psalteryref07_Search.f (k+1) a0 a1):=by
 intro a0 a1 k
 obtain ⟨ih0,ih1,ih2⟩:=psalteryref07_Search.mono_l k
 unfold psalteryref07_Search.f
 repeat' with_reducible first|apply ih0|apply ih1|apply ih2|apply psalteryref07_sizes.mono|apply psalteryref07_tried.mono|apply yLr|apply yLn|apply yLi|apply yLb|intro _
set_option maxHeartbeats 8000000 in
set_option maxRecDepth 100000 in
theorem psalteryref07_Search.calls (k : Nat) (A0 : Option Addr) (c0 : Nat) (l0 : List Int) (a1 : Int) (r : List Int) (w : World) (hr0 : Kd.C (Kd.int .i64) w A0 l0.length l0) (hc0 : l0.length≤c0) (h : psalteryref07_Search.f k l0 a1=some r) :
  Calls Try.prog 63 #[.slice A0 l0.length c0, .int .i64 a1] w fun e w' => ∃ v0_ : Value,e=.returned (v0_)∧Kd.R (Kd.int .i64) 3 w' w.heap.size (fun _=>True) v0_ r∧Below w.heap.size w w' := by
 have HR0:=zm hr0;have HC0:=zm hc0;clear hr0 hc0;have HB:=zm (Below.refl w.heap.size w)
 have H : ((psalteryref07_sizes.f k l0).bind fun t480=>(if 0≤(l0.length : Int) then (if ((l0.length : Int) : Int).toNat≤35184372088832 then (psalteryref07_Search.l0 k l0 a1 t480 (List.replicate ((l0.length : Int) : Int).toNat 0) 0) else (none)) else (none)))=some r:=h
 clear h
 replace H:=ybi H;obtain ⟨t480,A3,H⟩:=H
 replace H:=yif H;obtain ⟨c4,H⟩:=H
 have c4b0:=eq_true c4
 have c4b1 : decide (0≤(l0.length : Int))=true:=decide_eq_true c4
 clear c4
 replace H:=yif H;obtain ⟨c5,H⟩:=H
 have c5b0:=eq_true c5
 have c5b1 : decide (((l0.length : Int) : Int).toNat≤35184372088832)=true:=decide_eq_true c5
 clear c5
 obtain ⟨y483,hy483⟩ : ∃ y_ : List Int,y_=(List.replicate ((l0.length : Int) : Int).toNat 0):=⟨_,rfl⟩
 replace H : (psalteryref07_Search.l0 k l0 a1 t480 y483 0)=some r:=yrw hy483 H
 have Ny483:=zm hy483;clear hy483
 have H' := zm H
 clear H
 go_enter Try.func63,Try.ntmps63
 go_wp2_with (first|((with_reducible refine gate_callee (f:=99) rfl ?_);refine ygl 16 Try.func99 #[.slice A0 l0.length c0] ?_;(with_reducible refine (psalteryref07_sizes.calls k _ _ l0 t480 _ ?side1 HC0.out A3.out).mono ?_);(case side1=>exact yce HR0.out);rintro e w6 ⟨v481,rfl,ho0,hb⟩;refine ⟨_,rfl, ?_⟩;have HO482:=zm (Kd.R_lower ho0 (zE yhb));replace HB:=ybs hb;(try clear hb);(try clear ho0))|((with_reducible refine gate_dst (N:=19) rfl ?_);refine Kd.R_make (Kd.int .i64) _ 3 rfl (N:=19) rfl 55 _ _ rfl (l0.length : Int) rfl rfl Try.underlying55 (.int .i64 0) 8 info3 rfl (by decide) (by omega) 0 (ok:=fun _=>True) (okp:=fun _=>True) rfl (fun _ hk=>hk) trivial (yt) (Nat.le_trans (Nat.mul_le_mul_right _ (yt : (l0.length : Int).toNat≤35184372088832)) (by omega)) (Below.refl _ _) (Nat.le_refl _) ?_;intro v484 w7 ho8 hb hg_ hnew_;clear hg_ hnew_;(first|rw [← Ny483.out] at ho8|(simp only [Int.reduceToNat] at ho8;rw [← Ny483.out] at ho8));replace HO482:=yRb HO482 hb;have HO485:=zm (Kd.R_lower ho8 (zE yhb));replace HB:=ybs hb;clear hb ho8))
 go_loopg [7] k (fun kq v7 w' => ∃ (x6_1 : List Int) (x7_1 : Int),v7=.int .i64 x7_1∧Aside0 (psalteryref07_Search.l0 kq l0 a1 t480 x6_1 x7_1=some r)∧Aside0 (kq≤k)∧Aside0 (Kd.R (Kd.int .i64) 2 w' w.heap.size (fun _=>True) v481 t480)∧Aside0 (Kd.R (Kd.int .i64) 3 w' w.heap.size (fun _=>True) v484 x6_1)∧Aside0 (Below w.heap.size w w'))
 case atStart=>exact ⟨(y483),(0),yq,H',⟨Nat.le_refl _⟩,⟨yr HO482⟩,⟨yr HO485⟩,⟨yhb⟩⟩
 case round =>
  clear H'
  try clear c4b0
  try clear c4b1
  try clear c5b0
  try clear c5b1
  obtain ⟨x6_1,x7_1,rfl,HA,HK1,HO_5,HO_6,HB⟩:=hrel
  obtain ⟨k1,rfl⟩:=ysu gk (fun h=>by subst h;exact absurd HA.out (by simp [psalteryref07_Search.l0]))
  have H:=HA.out;clear HA
  simp only [psalteryref07_Search.l0] at H
  by_cases c9 : x7_1 < a1
  ·
   rw [if_pos c9] at H
   have c9b0 : decide (x7_1 < a1)=true:=decide_eq_true c9
   clear c9
   have H' := zm H
   clear H
   go_wp2
   go_loopg [8,9] k1 (fun kq v8 v9 w' => ∃ (x8_2 : Int) (x9_2 : Int),v8=.int .i64 x8_2∧v9=.int .i64 x9_2∧Aside0 (psalteryref07_Search.l1 kq l0 a1 t480 x6_1 x7_1 x8_2 x9_2=some r)∧Aside0 (kq≤k1)∧Aside0 (Kd.R (Kd.int .i64) 2 w' w.heap.size (fun _=>True) v481 t480)∧Aside0 (Kd.R (Kd.int .i64) 3 w' w.heap.size (fun _=>True) v484 x6_1)∧Aside0 (Below w.heap.size w w'))
   case atStart=>exact ⟨(0),(1),yq,yq,H',⟨Nat.le_refl _⟩,⟨yr HO_5⟩,⟨yr HO_6⟩,⟨yhb⟩⟩
   case round =>
    clear H'
    try clear c9b0
    obtain ⟨x8_2,x9_2,rfl,rfl,HA,HK2,HO_5,HO_6,HB⟩:=hrel
    obtain ⟨k2,rfl⟩:=ysu gk (fun h=>by subst h;exact absurd HA.out (by simp [psalteryref07_Search.l1]))
    have H:=HA.out;clear HA
    simp only [psalteryref07_Search.l1] at H
    by_cases c10 : x9_2 < (t480.length : Int)
    ·
     rw [if_pos c10] at H
     have c10b0 : decide (x9_2 < (t480.length : Int))=true:=decide_eq_true c10
     clear c10
     replace H:=ybi H;obtain ⟨⟨t488,t489⟩,A11,H⟩:=H
     try dsimp only at H
     replace H:=ybi H;obtain ⟨⟨t490,t491⟩,A12,H⟩:=H
     try dsimp only at H
     by_cases c13 : (wrap64 ((wrap64 (t488 * t488)) * t491)) > (wrap64 ((wrap64 (t490 * t490)) * t489))
     ·
      rw [if_pos c13] at H
      have c13b0 : decide ((wrap64 ((wrap64 (t490 * t490)) * t489)) < (wrap64 ((wrap64 (t488 * t488)) * t491)))=true:=decide_eq_true c13
      clear c13
      have H' := zm H
      clear H
      obtain ⟨Ao14,co14,eo14⟩:=Kd.R_slice HO_5.out
      subst eo14
      obtain ⟨Ao15,co15,eo15⟩:=Kd.R_slice HO_6.out
      subst eo15
      go_wp2_with (first|((with_reducible refine gate_callee (f:=100) rfl ?_);refine ygl 35 Try.func100 #[.slice Ao14 t480.length co14, .slice Ao15 x6_1.length co15, .int .i64 x9_2] ?_;(with_reducible refine (psalteryref07_tried.calls k2 _ _ t480 _ _ x6_1 x9_2 t488 t489 _ ?side1 ?side2 ?side3 ?side4 A11.out).mono ?_);(case side1=>exact yce (Kd.R_reads' HO_5.out).2.2);(case side2=>exact (Kd.R_reads' HO_5.out).2.1);(case side3=>exact yce (Kd.R_reads' HO_6.out).2.2);(case side4=>exact (Kd.R_reads' HO_6.out).2.1);rintro e w' ⟨rfl,⟨nd,rfl⟩⟩;refine ⟨_,rfl, ?_⟩)|((with_reducible refine gate_callee (f:=100) rfl ?_);refine ygl 42 Try.func100 #[.slice Ao14 t480.length co14, .slice Ao15 x6_1.length co15, .int .i64 x8_2] ?_;(with_reducible refine (psalteryref07_tried.calls k2 _ _ t480 _ _ x6_1 x8_2 t490 t491 _ ?side1 ?side2 ?side3 ?side4 A12.out).mono ?_);(case side1=>exact yce (Kd.R_reads' HO_5.out).2.2);(case side2=>exact (Kd.R_reads' HO_5.out).2.1);(case side3=>exact yce (Kd.R_reads' HO_6.out).2.2);(case side4=>exact (Kd.R_reads' HO_6.out).2.1);rintro e w' ⟨rfl,⟨nd,rfl⟩⟩;refine ⟨_,rfl, ?_⟩))
      go_roundg k2
      case measure=>exact yom2 HK1 HK2
      case rel=>exact ⟨(x9_2),(wrap64 (x9_2+1)),yq,yq,H',⟨yom2 HK1 HK2⟩,⟨yr HO_5⟩,⟨yr HO_6⟩,⟨yhb⟩⟩
     ·
      rw [if_neg c13] at H
      have c13b0 : decide ((wrap64 ((wrap64 (t490 * t490)) * t489)) < (wrap64 ((wrap64 (t488 * t488)) * t491)))=false:=decide_eq_false c13
      clear c13
      have H' := zm H
      clear H
      obtain ⟨Ao16,co16,eo16⟩:=Kd.R_slice HO_5.out
      subst eo16
      obtain ⟨Ao17,co17,eo17⟩:=Kd.R_slice HO_6.out
      subst eo17
      go_wp2_with (first|((with_reducible refine gate_callee (f:=100) rfl ?_);refine ygl 35 Try.func100 #[.slice Ao16 t480.length co16, .slice Ao17 x6_1.length co17, .int .i64 x9_2] ?_;(with_reducible refine (psalteryref07_tried.calls k2 _ _ t480 _ _ x6_1 x9_2 t488 t489 _ ?side1 ?side2 ?side3 ?side4 A11.out).mono ?_);(case side1=>exact yce (Kd.R_reads' HO_5.out).2.2);(case side2=>exact (Kd.R_reads' HO_5.out).2.1);(case side3=>exact yce (Kd.R_reads' HO_6.out).2.2);(case side4=>exact (Kd.R_reads' HO_6.out).2.1);rintro e w' ⟨rfl,⟨nd,rfl⟩⟩;refine ⟨_,rfl, ?_⟩)|((with_reducible refine gate_callee (f:=100) rfl ?_);refine ygl 42 Try.func100 #[.slice Ao16 t480.length co16, .slice Ao17 x6_1.length co17, .int .i64 x8_2] ?_;(with_reducible refine (psalteryref07_tried.calls k2 _ _ t480 _ _ x6_1 x8_2 t490 t491 _ ?side1 ?side2 ?side3 ?side4 A12.out).mono ?_);(case side1=>exact yce (Kd.R_reads' HO_5.out).2.2);(case side2=>exact (Kd.R_reads' HO_5.out).2.1);(case side3=>exact yce (Kd.R_reads' HO_6.out).2.2);(case side4=>exact (Kd.R_reads' HO_6.out).2.1);rintro e w' ⟨rfl,⟨nd,rfl⟩⟩;refine ⟨_,rfl, ?_⟩))
      go_roundg k2
      case measure=>exact yom2 HK1 HK2
      case rel=>exact ⟨(x8_2),(wrap64 (x9_2+1)),yq,yq,H',⟨yom2 HK1 HK2⟩,⟨yr HO_5⟩,⟨yr HO_6⟩,⟨yhb⟩⟩
    ·
     rw [if_neg c10] at H
     have c10b0 : decide (x9_2 < (t480.length : Int))=false:=decide_eq_false c10
     clear c10
     replace H:=yif H;obtain ⟨c18,H⟩:=H
     have c18b0 : decide (0≤x8_2)=true:=decide_eq_true c18
     clear c18
     replace H:=yif H;obtain ⟨c19,H⟩:=H
     have c19b0 : decide (x8_2 < (x6_1.length : Int))=true:=decide_eq_true c19
     clear c19
     obtain ⟨y487,hy487⟩ : ∃ y_ : List Int,y_=(x6_1.set (x8_2 : Int).toNat (wrap64 ((rd x6_1 x8_2)+1))):=⟨_,rfl⟩
     replace H : (psalteryref07_Search.l0 k2 l0 a1 t480 y487 (wrap64 (x7_1+1)))=some r:=yrw hy487 H
     have Ny487:=zm hy487;clear hy487
     have H' := zm H
     clear H
     obtain ⟨Ao21,co21,eo21⟩:=Kd.R_slice HO_5.out
     subst eo21
     obtain ⟨Ao22,co22,eo22⟩:=Kd.R_slice HO_6.out
     subst eo22
     have p486 : 0≤(x8_2 : Int):=yt
     have q486 : x8_2 < (x6_1.length : Int):=yt
     obtain ⟨ad486,e486,hx486_0⟩:=Kd.at_int (Kd.R_reads' HO_6.out).2.2 x8_2 p486 q486
     cases e486
     replace p486:=eq_true p486
     replace q486:=eq_true q486
     have p20 : 0≤(x8_2 : Int):=yt
     have q20 : (x8_2 : Int) < ((x6_1.length : Int) : Int):=yt
     obtain ⟨go20,co20,eo20,gb20,gl20,cl20,HG20⟩:=Kd.R_form HO_6.out (by omega)
     (first|cases eo20|(injection eo20 with ea_ en_ ec_;(first|subst ea_|(injection ea_ with ea_;subst ea_));subst ec_;clear en_))
     have GB20:=zm gb20;have GG20:=zm HG20;clear gb20 gl20 HG20
     (first|simp only [add_plain] at hx486_0|skip)
     obtain ⟨hx20_0,hf20_0⟩:=Kd.R_celln 0 HO_6.out (x8_2 : Int) p20 q20
     replace p20:=eq_true p20
     replace q20:=eq_true q20
     have HP23:=Kd.R_putg HO_6.out (x8_2 : Int) (wrap64 ((rd x6_1 x8_2)+1))
     go_wp2_with (first|((with_reducible refine gate_store (t:=3) (p:=62) rfl ?_);refine store_event (t:=3) (p:=62) (v := ?vo_w24) (w1:=(wr.setCell ⟨go20,(x8_2 : Int).toNat,none⟩ (.int .i64 (wrap64 ((rd x6_1 x8_2)+1))))) ?hg ?ho ?hn ?hr ?_;(case ho=>rfl);(case hg=>rfl);(case hn=>rfl);(case hr=>first|(go_simp;done)|(go_simp;rfl));intro w24 hw;have hg : wr.grownBy w24 (some go20):=(by rw [hw];exact HP23.2);have hp_ : Kd.R (Kd.int .i64) 3 w24 w.heap.size (fun _=>True) (.slice (some ⟨go20,0,none⟩) x6_1.length co22) y487:=(by rw [hw,Ny487.out];exact HP23.1);clear HP23;replace HO_5:=zm (Kd.R_over' (v:=(.slice (some ⟨go20,0,none⟩) x6_1.length co22)) (yr HO_5) (Kd.R_typed HO_6.out) (by decide) hg);replace HO_6:=zm (hp_);replace HB:=zm ((by rw [hw];exact zk (HB.out) GB20.out : Below w.heap.size w w24));clear hg hw hp_))
     go_roundg k2
     case measure=>exact yom2 HK1 HK2
     case rel=>exact ⟨(y487),(wrap64 (x7_1+1)),yq,H',⟨yom2 HK1 HK2⟩,⟨yr HO_5⟩,⟨yr HO_6⟩,⟨yhb⟩⟩
  ·
   rw [if_neg c9] at H
   have c9b0 : decide (x7_1 < a1)=false:=decide_eq_false c9
   clear c9
   have H' := zm H
   clear H
   go_wp2
   go_loopg [14] k1 (fun kq v14 w' => ∃ (x6_2 : List Int) (x14_2 : Int),v14=.int .i64 x14_2∧Aside0 (psalteryref07_Search.l2 kq l0 x6_2 x14_2=some r)∧Aside0 (kq≤k1)∧Aside0 (Kd.R (Kd.int .i64) 3 w' w.heap.size (fun _=>True) v484 x6_2)∧Aside0 (Below w.heap.size w w'))
   case atStart=>exact ⟨(x6_1),(0),yq,H',⟨Nat.le_refl _⟩,⟨yr HO_6⟩,⟨yhb⟩⟩
   case round =>
    clear H'
    try clear c9b0
    obtain ⟨x6_2,x14_2,rfl,HA,HK2,HO_6,HB⟩:=hrel
    obtain ⟨k2,rfl⟩:=ysu gk (fun h=>by subst h;exact absurd HA.out (by simp [psalteryref07_Search.l2]))
    have H:=HA.out;clear HA
    simp only [psalteryref07_Search.l2] at H
    by_cases c25 : x14_2 < (l0.length : Int)
    ·
     rw [if_pos c25] at H
     have c25b0 : decide (x14_2 < (l0.length : Int))=true:=decide_eq_true c25
     clear c25
     replace H:=yif H;obtain ⟨c26,H⟩:=H
     have c26b0 : decide (0≤x14_2)=true:=decide_eq_true c26
     clear c26
     by_cases c27 : (rd l0 x14_2) < 0
     ·
      rw [if_pos c27] at H
      have c27b0 : decide ((rd l0 x14_2) < 0)=true:=decide_eq_true c27
      clear c27
      replace H:=yif H;obtain ⟨c28,H⟩:=H
      have c28b0 : decide (x14_2 < (x6_2.length : Int))=true:=decide_eq_true c28
      clear c28
      obtain ⟨y494,hy494⟩ : ∃ y_ : List Int,y_=(x6_2.set (x14_2 : Int).toNat (wrap64 (-(rd x6_2 x14_2)))):=⟨_,rfl⟩
      replace H : (psalteryref07_Search.l2 k2 l0 y494 (wrap64 (x14_2+1)))=some r:=yrw hy494 H
      have Ny494:=zm hy494;clear hy494
      have H' := zm H
      clear H
      have p492 : 0≤(x14_2 : Int):=yt
      have q492 : x14_2 < (l0.length : Int):=yt
      obtain ⟨ad492,e492,hx492_0⟩:=Kd.at_int HR0.out x14_2 p492 q492
      cases e492
      replace hx492_0:=yhx HB hx492_0
      replace p492:=eq_true p492
      replace q492:=eq_true q492
      obtain ⟨Ao30,co30,eo30⟩:=Kd.R_slice HO_6.out
      subst eo30
      have p493 : 0≤(x14_2 : Int):=yt
      have q493 : x14_2 < (x6_2.length : Int):=yt
      obtain ⟨ad493,e493,hx493_0⟩:=Kd.at_int (Kd.R_reads' HO_6.out).2.2 x14_2 p493 q493
      cases e493
      replace p493:=eq_true p493
      replace q493:=eq_true q493
      have p29 : 0≤(x14_2 : Int):=yt
      have q29 : (x14_2 : Int) < ((x6_2.length : Int) : Int):=yt
      obtain ⟨go29,co29,eo29,gb29,gl29,cl29,HG29⟩:=Kd.R_form HO_6.out (by omega)
      (first|cases eo29|(injection eo29 with ea_ en_ ec_;(first|subst ea_|(injection ea_ with ea_;subst ea_));subst ec_;clear en_))
      have GB29:=zm gb29;have GG29:=zm HG29;clear gb29 gl29 HG29
      (first|simp only [add_plain] at hx493_0|skip)
      obtain ⟨hx29_0,hf29_0⟩:=Kd.R_celln 0 HO_6.out (x14_2 : Int) p29 q29
      replace p29:=eq_true p29
      replace q29:=eq_true q29
      have HP31:=Kd.R_putg HO_6.out (x14_2 : Int) (wrap64 (-(rd x6_2 x14_2)))
      go_wp2_with (first|((with_reducible refine gate_store (t:=3) (p:=81) rfl ?_);refine store_event (t:=3) (p:=81) (v := ?vo_w32) (w1:=(wr.setCell ⟨go29,(x14_2 : Int).toNat,none⟩ (.int .i64 (wrap64 (-(rd x6_2 x14_2)))))) ?hg ?ho ?hn ?hr ?_;(case ho=>rfl);(case hg=>rfl);(case hn=>rfl);(case hr=>first|(go_simp;done)|(go_simp;rfl));intro w32 hw;have hg : wr.grownBy w32 (some go29):=(by rw [hw];exact HP31.2);have hp_ : Kd.R (Kd.int .i64) 3 w32 w.heap.size (fun _=>True) (.slice (some ⟨go29,0,none⟩) x6_2.length co30) y494:=(by rw [hw,Ny494.out];exact HP31.1);clear HP31;replace HO_6:=zm (hp_);replace HB:=zm ((by rw [hw];exact zk (HB.out) GB29.out : Below w.heap.size w w32));clear hg hw hp_))
      go_roundg k2
      case measure=>exact yom2 HK1 HK2
      case rel=>exact ⟨(y494),(wrap64 (x14_2+1)),yq,H',⟨yom2 HK1 HK2⟩,⟨yr HO_6⟩,⟨yhb⟩⟩
     ·
      rw [if_neg c27] at H
      have c27b0 : decide ((rd l0 x14_2) < 0)=false:=decide_eq_false c27
      clear c27
      have H' := zm H
      clear H
      have p492 : 0≤(x14_2 : Int):=yt
      have q492 : x14_2 < (l0.length : Int):=yt
      obtain ⟨ad492,e492,hx492_0⟩:=Kd.at_int HR0.out x14_2 p492 q492
      cases e492
      replace hx492_0:=yhx HB hx492_0
      replace p492:=eq_true p492
      replace q492:=eq_true q492
      go_wp2
      go_roundg k2
      case measure=>exact yom2 HK1 HK2
      case rel=>exact ⟨(x6_2),(wrap64 (x14_2+1)),yq,H',⟨yom2 HK1 HK2⟩,⟨yr HO_6⟩,⟨yhb⟩⟩
    ·
     rw [if_neg c25] at H
     have c25b0 : decide (x14_2 < (l0.length : Int))=false:=decide_eq_false c25
     clear c25
     obtain rfl:=Option.some.inj H
     go_wp2
     go_ret
     exact ⟨_,ye,yr HO_6,yhb⟩
def psalteryref10_From.f (a0 : Int) : Option (Int):=if a0=1 then (some 1) else (if a0=2 then (some 2) else (if a0=3 then (some 4) else (if a0=4 then (some 8) else (some 0))))
set_option maxHeartbeats 8000000 in
set_option maxRecDepth 100000 in
theorem psalteryref10_From.calls (a0 : Int) (r : Int) (w : World) (h : psalteryref10_From.f a0=some r) :
  Calls Try.prog 69 #[.int .i64 a0] w fun e w' => e=.returned (.int .i64 r)∧Drawn0 w w' := by
 have H : (if a0=1 then (some 1) else (if a0=2 then (some 2) else (if a0=3 then (some 4) else (if a0=4 then (some 8) else (some 0)))))=some r:=h
 clear h
 by_cases c2 : a0=1
 ·
  rw [if_pos c2] at H
  have c2b0 : (a0 == 1)=true:=beq_iff_eq.mpr c2
  have c2b1 : (a0 != 1)=false:=bne_eq_false_iff_eq.mpr c2
  clear c2
  obtain rfl:=Option.some.inj H
  go_enter Try.func69,Try.ntmps69
  go_wp2
  go_ret
  exact ⟨yq,yd⟩
 ·
  rw [if_neg c2] at H
  have c2b0 : (a0 == 1)=false:=beq_eq_false_iff_ne.mpr c2
  have c2b1 : (a0 != 1)=true:=bne_iff_ne.mpr c2
  by_cases c3 : a0=2
  ·
   rw [if_pos c3] at H
   have c3b0 : (a0 == 2)=true:=beq_iff_eq.mpr c3
   have c3b1 : (a0 != 2)=false:=bne_eq_false_iff_eq.mpr c3
   clear c3
   obtain rfl:=Option.some.inj H
   go_enter Try.func69,Try.ntmps69
   go_wp2
   go_ret
   exact ⟨yq,yd⟩
  ·
   rw [if_neg c3] at H
   have c3b0 : (a0 == 2)=false:=beq_eq_false_iff_ne.mpr c3
   have c3b1 : (a0 != 2)=true:=bne_iff_ne.mpr c3
   by_cases c4 : a0=3
   ·
    rw [if_pos c4] at H
    have c4b0 : (a0 == 3)=true:=beq_iff_eq.mpr c4
    have c4b1 : (a0 != 3)=false:=bne_eq_false_iff_eq.mpr c4
    clear c4
    obtain rfl:=Option.some.inj H
    go_enter Try.func69,Try.ntmps69
    go_wp2
    go_ret
    exact ⟨yq,yd⟩
   ·
    rw [if_neg c4] at H
    have c4b0 : (a0 == 3)=false:=beq_eq_false_iff_ne.mpr c4
    have c4b1 : (a0 != 3)=true:=bne_iff_ne.mpr c4
    by_cases c5 : a0=4
    ·
     rw [if_pos c5] at H
     have c5b0 : (a0 == 4)=true:=beq_iff_eq.mpr c5
     have c5b1 : (a0 != 4)=false:=bne_eq_false_iff_eq.mpr c5
     clear c5
     obtain rfl:=Option.some.inj H
     go_enter Try.func69,Try.ntmps69
     go_wp2
     go_ret
     exact ⟨yq,yd⟩
    ·
     rw [if_neg c5] at H
     have c5b0 : (a0 == 4)=false:=beq_eq_false_iff_ne.mpr c5
     have c5b1 : (a0 != 4)=true:=bne_iff_ne.mpr c5
     obtain rfl:=Option.some.inj H
     go_enter Try.func69,Try.ntmps69
     go_wp2
     go_ret
     exact ⟨yq,yd⟩
def psalteryref10_Width.j0 : Nat→Int→Bool→Option (Int)
 | 0,_,_=>none
 | k+1,x3,x4=>if x4=true then (some 1) else (if x3=2 then (some 2) else (if x3=3 then (some 4) else (if x3=4 then (some 8) else (some 0))))
def psalteryref10_Width.f (k : Nat) (a0 : Int) : Option (Int):=if a0=0 then (psalteryref10_Width.j0 k a0 (a0 == 0)) else (psalteryref10_Width.j0 k a0 (a0 == 1))
theorem psalteryref10_Width.mono_l : ∀ k,(∀ y0 y1,LeO (psalteryref10_Width.j0 k y0 y1) (psalteryref10_Width.j0 (k+1) y0 y1))
 | 0=>fun _ _ r h=>by simp [psalteryref10_Width.j0] at h
 | k+1=>by
  have ih0:=psalteryref10_Width.mono_l k
  ·
   intro y0 y1
   unfold psalteryref10_Width.j0
   repeat' with_reducible first|apply ih0|apply yLr|apply yLn|apply yLi|apply yLb|intro _
theorem psalteryref10_Width.mono : ∀ a0 k,LeO (psalteryref10_Width.f k a0) (psalteryref10_Width.f (k+1) a0):=by
 intro a0 k
 have ih0:=psalteryref10_Width.mono_l k
 unfold psalteryref10_Width.f
 repeat' with_reducible first|apply ih0|apply yLr|apply yLn|apply yLi|apply yLb|intro _
set_option maxHeartbeats 8000000 in
set_option maxRecDepth 100000 in
theorem psalteryref10_Width.calls (k : Nat) (a0 : Int) (r : Int) (w : World) (h : psalteryref10_Width.f k a0=some r) :
  Calls Try.prog 65 #[.int .i64 a0] w fun e w' => e=.returned (.int .i64 r)∧Drawn0 w w' := by
 have H : (if a0=0 then (psalteryref10_Width.j0 k a0 (a0 == 0)) else (psalteryref10_Width.j0 k a0 (a0 == 1)))=some r:=h
 clear h;have HC2:=zm H;clear H
 go_enter Try.func65,Try.ntmps65
 go_upto_if 4 with (fail)
 go_cut [4] (fun v4 wc => ∃ (kq : Nat) (x4_1 : Bool),v4=.bool x4_1∧Aside0 (psalteryref10_Width.j0 kq a0 x4_1=some r)∧Aside0 (kq≤k)∧Drawn0 w wc)
 case first =>
  have H:=HC2.out;clear HC2
  by_cases c3 : a0=0
  ·
   rw [if_pos c3] at H
   have c3b0 : (a0 == 0)=true:=beq_iff_eq.mpr c3
   have c3b1 : (a0 != 0)=false:=bne_eq_false_iff_eq.mpr c3
   clear c3
   (first|rw [c3b0]|(simp only [i64_w,i32_w];rw [c3b0])|skip)
   have H' := zm H
   clear H
   go_wp2
   go_meet
   case rel=>exact ⟨_,((a0 == 0)),yq,H',⟨yo⟩,yd⟩
  ·
   rw [if_neg c3] at H
   have c3b0 : (a0 == 0)=false:=beq_eq_false_iff_ne.mpr c3
   have c3b1 : (a0 != 0)=true:=bne_iff_ne.mpr c3
   (first|rw [c3b0]|(simp only [i64_w,i32_w];rw [c3b0])|skip)
   have H' := zm H
   clear H
   go_wp2
   go_meet
   case rel=>exact ⟨_,((a0 == 1)),yq,H',⟨yo⟩,yd⟩
 case rest =>
  clear HC2
  obtain ⟨kq,x4_1,rfl,HA,HJ1,⟨mc1,rfl⟩⟩:=hcut
  obtain ⟨kj1,rfl⟩:=ysu kq (fun h=>by subst h;exact absurd HA.out (by simp [psalteryref10_Width.j0]))
  have H:=HA.out;clear HA
  simp only [psalteryref10_Width.j0] at H
  by_cases c4 : x4_1=true
  ·
   subst c4
   rw [if_pos rfl] at H
   obtain rfl:=Option.some.inj H
   go_wp2
   go_ret
   exact ⟨yq,yd⟩
  ·
   replace c4:=Bool.eq_false_iff.mpr c4
   subst c4
   rw [ynf] at H
   by_cases c5 : a0=2
   ·
    rw [if_pos c5] at H
    have c5b0 : (a0 == 2)=true:=beq_iff_eq.mpr c5
    have c5b1 : (a0 != 2)=false:=bne_eq_false_iff_eq.mpr c5
    clear c5
    obtain rfl:=Option.some.inj H
    go_wp2
    go_ret
    exact ⟨yq,yd⟩
   ·
    rw [if_neg c5] at H
    have c5b0 : (a0 == 2)=false:=beq_eq_false_iff_ne.mpr c5
    have c5b1 : (a0 != 2)=true:=bne_iff_ne.mpr c5
    by_cases c6 : a0=3
    ·
     rw [if_pos c6] at H
     have c6b0 : (a0 == 3)=true:=beq_iff_eq.mpr c6
     have c6b1 : (a0 != 3)=false:=bne_eq_false_iff_eq.mpr c6
     clear c6
     obtain rfl:=Option.some.inj H
     go_wp2
     go_ret
     exact ⟨yq,yd⟩
    ·
     rw [if_neg c6] at H
     have c6b0 : (a0 == 3)=false:=beq_eq_false_iff_ne.mpr c6
     have c6b1 : (a0 != 3)=true:=bne_iff_ne.mpr c6
     by_cases c7 : a0=4
     ·
      rw [if_pos c7] at H
      have c7b0 : (a0 == 4)=true:=beq_iff_eq.mpr c7
      have c7b1 : (a0 != 4)=false:=bne_eq_false_iff_eq.mpr c7
      clear c7
      obtain rfl:=Option.some.inj H
      go_wp2
      go_ret
      exact ⟨yq,yd⟩
     ·
      rw [if_neg c7] at H
      have c7b0 : (a0 == 4)=false:=beq_eq_false_iff_ne.mpr c7
      have c7b1 : (a0 != 4)=true:=bne_iff_ne.mpr c7
      obtain rfl:=Option.some.inj H
      go_wp2
      go_ret
      exact ⟨yq,yd⟩
def psalteryref10_Band.l0 : Nat→List Int→Int→List Int→Int→Option (List Int)
 | 0,_,_,_,_=>none
 | k+1,x0,x1,x5,x6=>(psalteryref10_Width.f k x1).bind fun t396=>(if x6 < t396 then ((psalteryref10_From.f x1).bind fun t397=>(if 0≤(wrap64 (t397+x6)) then (if (wrap64 (t397+x6)) < (x0.length : Int) then (if x5.length < 17592186044416 then (psalteryref10_Band.l0 k x0 x1 (x5 ++ [rd x0 (wrap64 (t397+x6))]) (wrap64 (x6+1))) else (none)) else (none)) else (none))) else (some x5))
def psalteryref10_Band.f (k : Nat) (l0 : List Int) (a1 : Int) : Option (List Int):=psalteryref10_Band.l0 k l0 a1 ([] : List Int) 0
theorem psalteryref10_Band.mono_l : ∀ k,(∀ y0 y1 y2 y3,LeO (psalteryref10_Band.l0 k y0 y1 y2 y3) (psalteryref10_Band.l0 (k+1) y0 y1 y2 y3))
 | 0=>fun _ _ _ _ r h=>by simp [psalteryref10_Band.l0] at h
 | k+1=>by
  have ih0:=psalteryref10_Band.mono_l k
  ·
   intro y0 y1 y2 y3
   unfold psalteryref10_Band.l0
   repeat' with_reducible first|apply ih0|apply psalteryref10_Width.mono|apply yLr|apply yLn|apply yLi|apply yLb|intro _
theorem psalteryref10_Band.mono : ∀ a0 a1 k,LeO (psalteryref10_Band.f k a0 a1) (psalteryref10_Band.f (k+1) a0 a1):=by
 intro a0 a1 k
 have ih0:=psalteryref10_Band.mono_l k
 unfold psalteryref10_Band.f
 repeat' with_reducible first|apply ih0|apply psalteryref10_Width.mono|apply yLr|apply yLn|apply yLi|apply yLb|intro _
set_option maxHeartbeats 8000000 in
set_option maxRecDepth 100000 in
theorem psalteryref10_Band.calls (k : Nat) (A0 : Option Addr) (c0 : Nat) (l0 : List Int) (a1 : Int) (r : List Int) (w : World) (hr0 : Kd.C (Kd.int .i64) w A0 l0.length l0) (hc0 : l0.length≤c0) (h : psalteryref10_Band.f k l0 a1=some r) :
  Calls Try.prog 28 #[.slice A0 l0.length c0, .int .i64 a1] w fun e w' => ∃ v0_ : Value,e=.returned (v0_)∧Kd.R (Kd.int .i64) 2 w' w.heap.size (fun _=>True) v0_ r∧Below w.heap.size w w' := by
 have HR0:=zm hr0;have HC0:=zm hc0;clear hr0 hc0;have HB:=zm (Below.refl w.heap.size w)
 have H : (psalteryref10_Band.l0 k l0 a1 ([] : List Int) 0)=some r:=h
 clear h
 have H' := zm H
 clear H
 go_enter Try.func28,Try.ntmps28
 go_wp2
 go_loopg [5,6] k (fun kq v5 v6 w' => ∃ (x5_1 : List Int) (x6_1 : Int),v6=.int .i64 x6_1∧Aside0 (psalteryref10_Band.l0 kq l0 a1 x5_1 x6_1=some r)∧Aside0 (kq≤k)∧Aside0 (Kd.R (Kd.int .i64) 2 w' w.heap.size (fun _=>True) v5 x5_1)∧Aside0 (Below w.heap.size w w'))
 case atStart=>exact ⟨(([] : List Int)),(0),yq,H',⟨Nat.le_refl _⟩,⟨yn⟩,⟨yhb⟩⟩
 case round =>
  clear H'
  obtain ⟨x5_1,x6_1,rfl,HA,HK1,HO_5,HB⟩:=hrel
  obtain ⟨k1,rfl⟩:=ysu gk (fun h=>by subst h;exact absurd HA.out (by simp [psalteryref10_Band.l0]))
  have H:=HA.out;clear HA
  simp only [psalteryref10_Band.l0] at H
  replace H:=ybi H;obtain ⟨t396,A3,H⟩:=H
  by_cases c4 : x6_1 < t396
  ·
   rw [if_pos c4] at H
   have c4b0 : decide (x6_1 < t396)=true:=decide_eq_true c4
   clear c4
   replace H:=ybi H;obtain ⟨t397,A5,H⟩:=H
   obtain ⟨ji6,hji6⟩ : ∃ j_ : Int,(wrap64 (t397+x6_1))=j_:=⟨_,rfl⟩
   replace H : (if 0≤(ji6) then (if (ji6) < (l0.length : Int) then (if x5_1.length < 17592186044416 then (psalteryref10_Band.l0 k1 l0 a1 (x5_1 ++ [rd l0 (ji6)]) (wrap64 (x6_1+1))) else (none)) else (none)) else (none))=some r:=by first|(rw [hji6] at H;exact H)|(simp only [hji6] at H ⊢; exact H)
   (try rw [hji6] at A3)
   (try rw [hji6] at A5)
   have hji6w : (IntKind.i64.wrap (t397+x6_1))=ji6:=(i64_w _).trans hji6
   replace H:=yif H;obtain ⟨c7,H⟩:=H
   have c7b0 : decide (0≤(ji6))=true:=decide_eq_true c7
   clear c7
   replace H:=yif H;obtain ⟨c8,H⟩:=H
   have c8b0 : decide ((ji6) < (l0.length : Int))=true:=decide_eq_true c8
   clear c8
   replace H:=yif H;obtain ⟨c9,H⟩:=H
   have LMc9:=zm c9;clear c9
   obtain ⟨y399,hy399⟩ : ∃ y_ : List Int,y_=(x5_1 ++ [rd l0 (ji6)]):=⟨_,rfl⟩
   replace H : (psalteryref10_Band.l0 k1 l0 a1 y399 (wrap64 (x6_1+1)))=some r:=yrw hy399 H
   have Ny399:=zm hy399;clear hy399
   have H' := zm H
   clear H
   go_wp2_with (first|((with_reducible refine gate_callee (f:=65) rfl ?_);refine ygl 9 Try.func65 #[.int .i64 a1] ?_;(with_reducible refine (psalteryref10_Width.calls k1 a1 t396 _ A3.out).mono ?_);rintro e w' ⟨rfl,⟨nd,rfl⟩⟩;refine ⟨_,rfl, ?_⟩)|((with_reducible refine gate_callee (f:=69) rfl ?_);refine ygl 16 Try.func69 #[.int .i64 a1] ?_;(with_reducible refine (psalteryref10_From.calls a1 t397 _ A5.out).mono ?_);rintro e w' ⟨rfl,⟨nd,rfl⟩⟩;refine ⟨_,rfl, ?_⟩;have p398 : 0≤((ji6) : Int):=yt;have q398 : (ji6) < (l0.length : Int):=yt;obtain ⟨ad398,e398,hx398_0⟩:=Kd.at_int HR0.out (ji6) p398 q398;cases e398;replace hx398_0:=yhx HB hx398_0;replace p398:=eq_true p398;replace q398:=eq_true q398)|((with_reducible refine gate_builtin (b:=.append) (xs := #[.tmp 13, .tmp 21]) rfl ?_);at_builtin;refine Kd.R_append (Kd.int .i64) (w0:=w) w.heap.size rfl (.tmp 13) (.tmp 21) 53 2 (.int .i64 0) 8 rfl Try.underlying53 info2 rfl (by decide) (by omega) u5 x5_1 (rd l0 (ji6)) [.int .i64 (rd l0 (ji6))] (fun _=>True) (fun _=>False) rfl rfl ?aP (fun _ hk=>hk.elim) ?aF ?aO ?aB ?aS ?aL ?_;(case aP=>exact rfl);(case aB=>exact yhb);(case aF=>exact (fun _ _=>trivial));(case aO=>exact (yr HO_5));(case aS=>exact (zE yhb));(case aL=>have:=LMc9.out;omega);intro v400 w10 ho hb hg hat;rw [← Ny399.out] at ho;replace HB:=zm (hb);have HO401:=zm (ho);clear HO_5;clear ho hb hg hat))
   go_roundg k1
   case measure=>exact yom1 HK1
   case rel=>exact ⟨(y399),(wrap64 (x6_1+1)),yq,H',⟨yom1 HK1⟩,⟨yr HO401⟩,⟨yhb⟩⟩
  ·
   rw [if_neg c4] at H
   have c4b0 : decide (x6_1 < t396)=false:=decide_eq_false c4
   clear c4
   obtain rfl:=Option.some.inj H
   go_wp2_with (first|((with_reducible refine gate_callee (f:=65) rfl ?_);refine ygl 9 Try.func65 #[.int .i64 a1] ?_;(with_reducible refine (psalteryref10_Width.calls k1 a1 t396 _ A3.out).mono ?_);rintro e w' ⟨rfl,⟨nd,rfl⟩⟩;refine ⟨_,rfl, ?_⟩))
   go_ret
   exact ⟨_,ye,yr HO_5,yhb⟩
def psalteryref07_Square.l0 : Nat→List Int→Int→Int→Option (Int)
 | 0,_,_,_=>none
 | k+1,x0,x3,x4=>if x4 < (x0.length : Int) then (if 0≤x4 then ((psalteryref07_size.f (rd x0 x4)).bind fun t403=>(psalteryref07_Square.l0 k x0 (IntKind.u64.wrap (x3+(IntKind.u64.wrap ((IntKind.u64.wrap (t403)) * (IntKind.u64.wrap (t403)))))) (wrap64 (x4+1)))) else (none)) else (some x3)
def psalteryref07_Square.f (k : Nat) (l0 : List Int) : Option (Int):=psalteryref07_Square.l0 k l0 0 0
theorem psalteryref07_Square.mono_l : ∀ k,(∀ y0 y1 y2,LeO (psalteryref07_Square.l0 k y0 y1 y2) (psalteryref07_Square.l0 (k+1) y0 y1 y2))
 | 0=>fun _ _ _ r h=>by simp [psalteryref07_Square.l0] at h
 | k+1=>by
  have ih0:=psalteryref07_Square.mono_l k
  ·
   intro y0 y1 y2
   unfold psalteryref07_Square.l0
   repeat' with_reducible first|apply ih0|apply yLr|apply yLn|apply yLi|apply yLb|intro _
theorem psalteryref07_Square.mono : ∀ a0 k,LeO (psalteryref07_Square.f k a0) (psalteryref07_Square.f (k+1) a0):=by
 intro a0 k
 have ih0:=psalteryref07_Square.mono_l k
 unfold psalteryref07_Square.f
 repeat' with_reducible first|apply ih0|apply yLr|apply yLn|apply yLi|apply yLb|intro _
set_option maxHeartbeats 8000000 in
set_option maxRecDepth 100000 in
theorem psalteryref07_Square.calls (k : Nat) (A0 : Option Addr) (c0 : Nat) (l0 : List Int) (r : Int) (w : World) (hr0 : Kd.C (Kd.int .i64) w A0 l0.length l0) (hc0 : l0.length≤c0) (h : psalteryref07_Square.f k l0=some r) :
  Calls Try.prog 32 #[.slice A0 l0.length c0] w fun e w' => e=.returned (.int .u64 r)∧Drawn0 w w' := by
 have HR0:=zm hr0;have HC0:=zm hc0;clear hr0 hc0
 have H : (psalteryref07_Square.l0 k l0 0 0)=some r:=h
 clear h
 have H' := zm H
 clear H
 go_enter Try.func32,Try.ntmps32
 go_wp2
 go_loopg [3,4] k (fun kq v3 v4 w' => ∃ (x3_1 : Int) (x4_1 : Int),v3=.int .u64 x3_1∧v4=.int .i64 x4_1∧Aside0 (psalteryref07_Square.l0 kq l0 x3_1 x4_1=some r)∧Aside0 (kq≤k)∧Drawn0 w w')
 case atStart=>exact ⟨(0),(0),yq,yq,H',⟨Nat.le_refl _⟩,yd⟩
 case round =>
  clear H'
  obtain ⟨x3_1,x4_1,rfl,rfl,HA,HK1,⟨m1,rfl⟩⟩:=hrel
  obtain ⟨k1,rfl⟩:=ysu gk (fun h=>by subst h;exact absurd HA.out (by simp [psalteryref07_Square.l0]))
  have H:=HA.out;clear HA
  simp only [psalteryref07_Square.l0] at H
  by_cases c2 : x4_1 < (l0.length : Int)
  ·
   rw [if_pos c2] at H
   have c2b0 : decide (x4_1 < (l0.length : Int))=true:=decide_eq_true c2
   clear c2
   replace H:=yif H;obtain ⟨c3,H⟩:=H
   have c3b0 : decide (0≤x4_1)=true:=decide_eq_true c3
   clear c3
   replace H:=ybi H;obtain ⟨t403,A4,H⟩:=H
   have H' := zm H
   clear H
   obtain ⟨ad402,e402,hx402_0,p402,q402⟩:=yai HR0 x4_1
   cases e402
   go_wp2_with (first|((with_reducible refine gate_callee (f:=70) rfl ?_);refine ygl 16 Try.func70 #[.int .i64 (rd l0 x4_1)] ?_;(with_reducible refine (psalteryref07_size.calls (rd l0 x4_1) t403 _ A4.out).mono ?_);rintro e w' ⟨rfl,⟨nd,rfl⟩⟩;refine ⟨_,rfl, ?_⟩))
   go_roundg k1
   case measure=>exact yom1 HK1
   case rel=>exact ⟨(IntKind.u64.wrap (x3_1+(IntKind.u64.wrap ((IntKind.u64.wrap (t403)) * (IntKind.u64.wrap (t403)))))),(wrap64 (x4_1+1)),yq,yq,H',⟨yom1 HK1⟩,yd⟩
  ·
   rw [if_neg c2] at H
   have c2b0 : decide (x4_1 < (l0.length : Int))=false:=decide_eq_false c2
   clear c2
   obtain rfl:=Option.some.inj H
   go_wp2
   go_ret
   exact ⟨yq,yd⟩
def psalteryref10_Gain.l0 : Nat→Int→Int→Option (Int)
 | 0,_,_=>none
 | k+1,x3,x4=>if x3 > 0 then (psalteryref10_Gain.l0 k (IntKind.u64.wrap (Int.tdiv x3 2)) (wrap64 (x4+1))) else (some x4)
def psalteryref10_Gain.f (k : Nat) (l0 : List Int) : Option (Int):=(psalteryref07_Square.f k l0).bind fun t404=>(psalteryref10_Gain.l0 k t404 0)
theorem psalteryref10_Gain.mono_l : ∀ k,(∀ y0 y1,LeO (psalteryref10_Gain.l0 k y0 y1) (psalteryref10_Gain.l0 (k+1) y0 y1))
 | 0=>fun _ _ r h=>by simp [psalteryref10_Gain.l0] at h
 | k+1=>by
  have ih0:=psalteryref10_Gain.mono_l k
  ·
   intro y0 y1
   unfold psalteryref10_Gain.l0
   repeat' with_reducible first|apply ih0|apply psalteryref07_Square.mono|apply yLr|apply yLn|apply yLi|apply yLb|intro _
theorem psalteryref10_Gain.mono : ∀ a0 k,LeO (psalteryref10_Gain.f k a0) (psalteryref10_Gain.f (k+1) a0):=by
 intro a0 k
 have ih0:=psalteryref10_Gain.mono_l k
 unfold psalteryref10_Gain.f
 repeat' with_reducible first|apply ih0|apply psalteryref07_Square.mono|apply yLr|apply yLn|apply yLi|apply yLb|intro _
set_option maxHeartbeats 8000000 in
set_option maxRecDepth 100000 in
theorem psalteryref10_Gain.calls (k : Nat) (A0 : Option Addr) (c0 : Nat) (l0 : List Int) (r : Int) (w : World) (hr0 : Kd.C (Kd.int .i64) w A0 l0.length l0) (hc0 : l0.length≤c0) (h : psalteryref10_Gain.f k l0=some r) :
  Calls Try.prog 33 #[.slice A0 l0.length c0] w fun e w' => e=.returned (.int .i64 r)∧Drawn0 w w' := by
 have HR0:=zm hr0;have HC0:=zm hc0;clear hr0 hc0
 have H : ((psalteryref07_Square.f k l0).bind fun t404=>(psalteryref10_Gain.l0 k t404 0))=some r:=h
 clear h
 replace H:=ybi H;obtain ⟨t404,A2,H⟩:=H
 have H' := zm H
 clear H
 go_enter Try.func33,Try.ntmps33
 go_wp2_with (first|((with_reducible refine gate_callee (f:=32) rfl ?_);refine ygl 6 Try.func32 #[.slice A0 l0.length c0] ?_;(with_reducible refine (psalteryref07_Square.calls k _ _ l0 t404 _ ?side1 HC0.out A2.out).mono ?_);(case side1=>exact yce HR0.out);rintro e w' ⟨rfl,⟨nd,rfl⟩⟩;refine ⟨_,rfl, ?_⟩))
 go_loopg [3,4] k (fun kq v3 v4 w' => ∃ (x3_1 : Int) (x4_1 : Int),v3=.int .u64 x3_1∧v4=.int .i64 x4_1∧Aside0 (psalteryref10_Gain.l0 kq x3_1 x4_1=some r)∧Aside0 (kq≤k)∧Drawn0 w w')
 case atStart=>exact ⟨(t404),(0),yq,yq,H',⟨Nat.le_refl _⟩,yd⟩
 case round =>
  clear H'
  obtain ⟨x3_1,x4_1,rfl,rfl,HA,HK1,⟨m1,rfl⟩⟩:=hrel
  obtain ⟨k1,rfl⟩:=ysu gk (fun h=>by subst h;exact absurd HA.out (by simp [psalteryref10_Gain.l0]))
  have H:=HA.out;clear HA
  simp only [psalteryref10_Gain.l0] at H
  by_cases c3 : x3_1 > 0
  ·
   rw [if_pos c3] at H
   have c3b0 : decide (0 < x3_1)=true:=decide_eq_true c3
   clear c3
   have H' := zm H
   clear H
   go_wp2
   go_roundg k1
   case measure=>exact yom1 HK1
   case rel=>exact ⟨(IntKind.u64.wrap (Int.tdiv x3_1 2)),(wrap64 (x4_1+1)),yq,yq,H',⟨yom1 HK1⟩,yd⟩
  ·
   rw [if_neg c3] at H
   have c3b0 : decide (0 < x3_1)=false:=decide_eq_false c3
   clear c3
   obtain rfl:=Option.some.inj H
   go_wp2
   go_ret
   exact ⟨yq,yd⟩
def psalteryref10_Gains.l0 : Nat→List Int→List Int→Int→Option (List Int)
 | 0,_,_,_=>none
 | k+1,x0,x3,x4=>if x4 < 5 then ((psalteryref10_Band.f k x0 x4).bind fun t405=>((psalteryref10_Gain.f k t405).bind fun t408=>(if x3.length < 17592186044416 then (psalteryref10_Gains.l0 k x0 (x3 ++ [t408]) (wrap64 (x4+1))) else (none)))) else (some x3)
def psalteryref10_Gains.f (k : Nat) (l0 : List Int) : Option (List Int):=psalteryref10_Gains.l0 k l0 ([] : List Int) 0
theorem psalteryref10_Gains.mono_l : ∀ k,(∀ y0 y1 y2,LeO (psalteryref10_Gains.l0 k y0 y1 y2) (psalteryref10_Gains.l0 (k+1) y0 y1 y2))
 | 0=>fun _ _ _ r h=>by simp [psalteryref10_Gains.l0] at h
 | k+1=>by
  have ih0:=psalteryref10_Gains.mono_l k
  ·
   intro y0 y1 y2
   unfold psalteryref10_Gains.l0
   repeat' with_reducible first|apply ih0|apply psalteryref10_Band.mono|apply psalteryref10_Gain.mono|apply yLr|apply yLn|apply yLi|apply yLb|intro _
theorem psalteryref10_Gains.mono : ∀ a0 k,LeO (psalteryref10_Gains.f k a0) (psalteryref10_Gains.f (k+1) a0):=by
 intro a0 k
 have ih0:=psalteryref10_Gains.mono_l k
 unfold psalteryref10_Gains.f
 repeat' with_reducible first|apply ih0|apply psalteryref10_Band.mono|apply psalteryref10_Gain.mono|apply yLr|apply yLn|apply yLi|apply yLb|intro _
set_option maxHeartbeats 8000000 in
set_option maxRecDepth 100000 in
theorem psalteryref10_Gains.calls (k : Nat) (A0 : Option Addr) (c0 : Nat) (l0 : List Int) (r : List Int) (w : World) (hr0 : Kd.C (Kd.int .i64) w A0 l0.length l0) (hc0 : l0.length≤c0) (h : psalteryref10_Gains.f k l0=some r) :
  Calls Try.prog 61 #[.slice A0 l0.length c0] w fun e w' => ∃ v0_ : Value,e=.returned (v0_)∧Kd.R (Kd.int .i64) 3 w' w.heap.size (fun _=>True) v0_ r∧Below w.heap.size w w' := by
 have HR0:=zm hr0;have HC0:=zm hc0;clear hr0 hc0;have HB:=zm (Below.refl w.heap.size w)
 have H : (psalteryref10_Gains.l0 k l0 ([] : List Int) 0)=some r:=h
 clear h
 have H' := zm H
 clear H
 go_enter Try.func61,Try.ntmps61
 go_wp2
 go_loopg [3,4] k (fun kq v3 v4 w' => ∃ (x3_1 : List Int) (x4_1 : Int),v4=.int .i64 x4_1∧Aside0 (psalteryref10_Gains.l0 kq l0 x3_1 x4_1=some r)∧Aside0 (kq≤k)∧Aside0 (Kd.R (Kd.int .i64) 3 w' w.heap.size (fun _=>True) v3 x3_1)∧Aside0 (Below w.heap.size w w'))
 case atStart=>exact ⟨(([] : List Int)),(0),yq,H',⟨Nat.le_refl _⟩,⟨yn⟩,⟨yhb⟩⟩
 case round =>
  clear H'
  obtain ⟨x3_1,x4_1,rfl,HA,HK1,HO_3,HB⟩:=hrel
  obtain ⟨k1,rfl⟩:=ysu gk (fun h=>by subst h;exact absurd HA.out (by simp [psalteryref10_Gains.l0]))
  have H:=HA.out;clear HA
  simp only [psalteryref10_Gains.l0] at H
  by_cases c2 : x4_1 < 5
  ·
   rw [if_pos c2] at H
   have c2b0 : decide (x4_1 < 5)=true:=decide_eq_true c2
   clear c2
   replace H:=ybi H;obtain ⟨t405,A3,H⟩:=H
   replace H:=ybi H;obtain ⟨t408,A4,H⟩:=H
   replace H:=yif H;obtain ⟨c5,H⟩:=H
   have LMc5:=zm c5;clear c5
   obtain ⟨y409,hy409⟩ : ∃ y_ : List Int,y_=(x3_1 ++ [t408]):=⟨_,rfl⟩
   replace H : (psalteryref10_Gains.l0 k1 l0 y409 (wrap64 (x4_1+1)))=some r:=yrw hy409 H
   have Ny409:=zm hy409;clear hy409
   have H' := zm H
   clear H
   go_wp2_with (first|((with_reducible refine gate_callee (f:=28) rfl ?_);refine ygl 12 Try.func28 #[.slice A0 l0.length c0, .int .i64 x4_1] ?_;(with_reducible refine (psalteryref10_Band.calls k1 _ _ l0 x4_1 t405 _ ?side1 HC0.out A3.out).mono ?_);(case side1=>exact ycb HR0);rintro e w6 ⟨v406,rfl,ho0,hb⟩;refine ⟨_,rfl, ?_⟩;replace HO_3:=yRb HO_3 hb;have HO407:=zm (Kd.R_lower ho0 (zE yhb));replace HB:=ybs hb;(try clear hb);(try clear ho0);obtain ⟨Ao7,co7,eo7⟩:=Kd.R_slice HO407.out;subst eo7)|((with_reducible refine gate_callee (f:=33) rfl ?_);refine ygl 13 Try.func33 #[.slice Ao7 t405.length co7] ?_;(with_reducible refine (psalteryref10_Gain.calls k1 _ _ t405 t408 _ ?side1 ?side2 A4.out).mono ?_);(case side1=>exact yce (Kd.R_reads' HO407.out).2.2);(case side2=>exact (Kd.R_reads' HO407.out).2.1);rintro e w' ⟨rfl,⟨nd,rfl⟩⟩;refine ⟨_,rfl, ?_⟩)|((with_reducible refine gate_builtin (b:=.append) (xs := #[.tmp 9, .tmp 14]) rfl ?_);at_builtin;refine Kd.R_append (Kd.int .i64) (w0:=w) w.heap.size rfl (.tmp 9) (.tmp 14) 55 3 (.int .i64 0) 8 rfl Try.underlying55 info3 rfl (by decide) (by omega) u3 x3_1 t408 [.int .i64 t408] (fun _=>True) (fun _=>False) rfl rfl ?aP (fun _ hk=>hk.elim) ?aF ?aO ?aB ?aS ?aL ?_;(case aP=>exact rfl);(case aB=>exact yhb);(case aF=>exact (fun _ _=>trivial));(case aO=>exact (yr HO_3));(case aS=>exact (zE yhb));(case aL=>have:=LMc5.out;omega);intro v410 w8 ho hb hg hat;rw [← Ny409.out] at ho;replace HO407:=zm (Kd.R_over' (yr HO407) (Kd.R_typed (yr HO_3)) (by decide) hg);replace HB:=zm (hb);have HO411:=zm (ho);clear HO_3;clear ho hb hg hat))
   go_roundg k1
   case measure=>exact yom1 HK1
   case rel=>exact ⟨(y409),(wrap64 (x4_1+1)),yq,H',⟨yom1 HK1⟩,⟨yr HO411⟩,⟨yhb⟩⟩
  ·
   rw [if_neg c2] at H
   have c2b0 : decide (x4_1 < 5)=false:=decide_eq_false c2
   clear c2
   obtain rfl:=Option.some.inj H
   go_wp2
   go_ret
   exact ⟨_,ye,yr HO_3,yhb⟩
def psalteryref12_More.f (l0 : List Int) (a1 : Int) : Option (List Int):=(some (([] : List Int) : List Int)).bind fun y412=>(if y412.length+l0.length < 17592186044416 then ((some (y412 ++ l0 : List Int)).bind fun y415=>(if 0≤a1 then (if a1 < (y415.length : Int) then (some (y415.set (a1 : Int).toNat (wrap64 ((rd y415 a1)+1)))) else (none)) else (none))) else (none))
set_option maxHeartbeats 8000000 in
set_option maxRecDepth 100000 in
theorem psalteryref12_More.calls (A0 : Option Addr) (c0 : Nat) (l0 : List Int) (a1 : Int) (r : List Int) (w : World) (hr0 : Kd.C (Kd.int .i64) w A0 l0.length l0) (hc0 : l0.length≤c0) (h : psalteryref12_More.f l0 a1=some r) :
  Calls Try.prog 119 #[.slice A0 l0.length c0, .int .i64 a1] w fun e w' => ∃ v0_ : Value,e=.returned (v0_)∧Kd.R (Kd.int .i64) 3 w' w.heap.size (fun _=>True) v0_ r∧Below w.heap.size w w' := by
 have HR0:=zm hr0;have HC0:=zm hc0;clear hr0 hc0;have HB:=zm (Below.refl w.heap.size w)
 have H : ((some (([] : List Int) : List Int)).bind fun y412=>(if y412.length+l0.length < 17592186044416 then ((some (y412 ++ l0 : List Int)).bind fun y415=>(if 0≤a1 then (if a1 < (y415.length : Int) then (some (y415.set (a1 : Int).toNat (wrap64 ((rd y415 a1)+1)))) else (none)) else (none))) else (none)))=some r:=h
 clear h
 obtain ⟨y412,hy412⟩ : ∃ y_ : List Int,y_=(([] : List Int)):=⟨_,rfl⟩
 replace H : (if y412.length+l0.length < 17592186044416 then ((some (y412 ++ l0 : List Int)).bind fun y415=>(if 0≤a1 then (if a1 < (y415.length : Int) then (some (y415.set (a1 : Int).toNat (wrap64 ((rd y415 a1)+1)))) else (none)) else (none))) else (none))=some r:=yrw hy412 H
 have Ny412:=zm hy412;clear hy412
 replace H:=yif H;obtain ⟨c3,H⟩:=H
 have LMc3:=zm c3;clear c3
 obtain ⟨y415,hy415⟩ : ∃ y_ : List Int,y_=(y412 ++ l0):=⟨_,rfl⟩
 replace H : (if 0≤a1 then (if a1 < (y415.length : Int) then (some (y415.set (a1 : Int).toNat (wrap64 ((rd y415 a1)+1)))) else (none)) else (none))=some r:=yrw hy415 H
 have Ny415:=zm hy415;clear hy415
 replace H:=yif H;obtain ⟨c4,H⟩:=H
 have c4b0 : decide (0≤a1)=true:=decide_eq_true c4
 clear c4
 replace H:=yif H;obtain ⟨c5,H⟩:=H
 have c5b0 : decide (a1 < (y415.length : Int))=true:=decide_eq_true c5
 clear c5
 obtain ⟨y419,hy419⟩ : ∃ y_ : List Int,y_=(y415.set (a1 : Int).toNat (wrap64 ((rd y415 a1)+1))):=⟨_,rfl⟩
 replace H : (some y419)=some r:=yrw hy419 H
 have Ny419:=zm hy419;clear hy419
 obtain rfl:=Option.some.inj H
 go_enter Try.func119,Try.ntmps119
 go_wp2_with (first|((with_reducible refine gate_dst (N:=6) rfl ?_);refine Kd.R_lit (Kd.int .i64) _ 3 ?hg (N:=6) ?hd (xs:=([] : List Int)) (inner := []) (ok:=fun _=>True) (okp:=fun _=>True) ?hr ?hp (fun _ hk=>hk) trivial (Below.refl _ _) (Nat.le_refl _) (by simp) ?_;(case hd=>rfl);(case hg=>rfl);(case hr=>first|(go_simp;done)|(go_simp;rfl));(case hp=>exact (Reps.none _ _));intro v413 w7 ho8 hb hg_ hnew_;clear hg_ hnew_;(first|rw [← Ny412.out] at ho8|(simp only [Int.reduceToNat] at ho8;rw [← Ny412.out] at ho8));have HO414:=zm (Kd.R_lower ho8 (zE yhb));replace HB:=ybs hb;clear hb ho8)|((with_reducible refine gate_builtin (b:=.append) (xs := #[.tmp 6, .tmp 7]) rfl ?_);at_builtin;refine Kd.R_append_rows (Kd.int .i64) (w0:=w) w.heap.size rfl (.tmp 6) (.tmp 7) 55 3 (.int .i64 0) 8 rfl Try.underlying55 info3 rfl (by decide) (by omega) v413 y412 l0 _ _ _ (fun _=>True) (fun _=>False) rfl rfl ?aO ?aR (fun _ _ h=>h) (fun _ h=>h.elim) ?aF ?aB ?aS ?aL ?_;(case aR=>exact ycb HR0);(case aB=>exact yhb);(case aF=>exact (fun _ _=>trivial));(case aO=>exact (yr HO414));(case aS=>exact (zE yhb));(case aL=>have:=LMc3.out;omega);intro v416 w9 ho hb hg hat;rw [← Ny415.out] at ho;replace HB:=zm (hb);have HO417:=zm (ho);clear HO414;clear ho hb hg hat;obtain ⟨Ao10,co10,eo10⟩:=Kd.R_slice HO417.out;subst eo10;have p418 : 0≤(a1 : Int):=yt;have q418 : a1 < (y415.length : Int):=yt;obtain ⟨ad418,e418,hx418_0⟩:=Kd.at_int (Kd.R_reads' HO417.out).2.2 a1 p418 q418;cases e418;replace p418:=eq_true p418;replace q418:=eq_true q418;have p6 : 0≤(a1 : Int):=yt;have q6 : (a1 : Int) < ((y415.length : Int) : Int):=yt;obtain ⟨go6,co6,eo6,gb6,gl6,cl6,HG6⟩:=Kd.R_form HO417.out (by omega);(first|cases eo6|(injection eo6 with ea_ en_ ec_;(first|subst ea_|(injection ea_ with ea_;subst ea_));subst ec_;clear en_));have GB6:=zm gb6;have GG6:=zm HG6;clear gb6 gl6 HG6;(first|simp only [add_plain] at hx418_0|skip);obtain ⟨hx6_0,hf6_0⟩:=Kd.R_celln 0 HO417.out (a1 : Int) p6 q6;replace p6:=eq_true p6;replace q6:=eq_true q6;obtain ⟨hy11_,hz11_⟩:=Kd.R_celln 0 HO417.out (a1 : Int) (yt) (yt);have HP11:=Kd.R_putg HO417.out (a1 : Int) (wrap64 ((rd y415 a1)+1)))|((with_reducible refine gate_store (t:=3) (p:=16) rfl ?_);refine store_event (t:=3) (p:=16) (v := ?vo_w12) (w1:=(w9.setCell ⟨go6,(a1 : Int).toNat,none⟩ (.int .i64 (wrap64 ((rd y415 a1)+1))))) ?hg ?ho ?hn ?hr ?_;(case ho=>rfl);(case hg=>rfl);(case hn=>rfl);(case hr=>first|(go_simp;done)|(go_simp;rfl));intro w12 hw;have hg : w9.grownBy w12 (some go6):=(by rw [hw];exact HP11.2);have hp_ : Kd.R (Kd.int .i64) 3 w12 w.heap.size (fun _=>True) (.slice (some ⟨go6,0,none⟩) y415.length co10) y419:=(by rw [hw,Ny419.out];exact HP11.1);clear HP11;replace HO417:=zm (hp_);replace HB:=zm ((by rw [hw];exact zk (HB.out) GB6.out : Below w.heap.size w w12));clear hg hw hp_))
 go_ret
 exact ⟨_,ye,yr HO417,yhb⟩
def psalteryref03_Log2.f : Nat→Int→Option (Int)
 | 0,_=>none
 | k+1,a0=>if a0=0 then (some (-1)) else ((psalteryref03_Log2.f k (IntKind.u64.wrap (Int.tdiv a0 2))).bind fun t435=>(some (wrap64 (1+t435))))
theorem psalteryref03_Log2.mono_l : ∀ k,(∀ y0,LeO (psalteryref03_Log2.f k y0) (psalteryref03_Log2.f (k+1) y0))
 | 0=>fun _ r h=>by simp [psalteryref03_Log2.f] at h
 | k+1=>by
  have ih0:=psalteryref03_Log2.mono_l k
  ·
   intro y0
   unfold psalteryref03_Log2.f
   repeat' with_reducible first|apply ih0|apply yLr|apply yLn|apply yLi|apply yLb|intro _
theorem psalteryref03_Log2.mono : ∀ a0 k,LeO (psalteryref03_Log2.f k a0) (psalteryref03_Log2.f (k+1) a0):=by
 intro a0 k
 have ih0:=psalteryref03_Log2.mono_l k
 exact ih0 a0
set_option maxHeartbeats 8000000 in
set_option maxRecDepth 100000 in
theorem psalteryref03_Log2.calls (k : Nat) : ∀ (a0 : Int) (r : Int) (w : World) (h : psalteryref03_Log2.f k a0=some r),
  Calls Try.prog 127 #[.int .u64 a0] w fun e w' => e=.returned (.int .i64 r)∧Drawn0 w w' := by
 induction k using Nat.strongRecOn with
 | _ k ih =>
 intro a0 r w h
 cases k with
 | zero=>exact absurd h (by simp [psalteryref03_Log2.f])
 | succ k =>
 simp only [psalteryref03_Log2.f] at h
 have H : (if a0=0 then (some (-1)) else ((psalteryref03_Log2.f k (IntKind.u64.wrap (Int.tdiv a0 2))).bind fun t435=>(some (wrap64 (1+t435)))))=some r:=h
 clear h
 by_cases c2 : a0=0
 ·
  rw [if_pos c2] at H
  have c2b0 : (a0 == 0)=true:=beq_iff_eq.mpr c2
  have c2b1 : (a0 != 0)=false:=bne_eq_false_iff_eq.mpr c2
  clear c2
  obtain rfl:=Option.some.inj H
  go_enter Try.func127,Try.ntmps127
  go_wp2
  go_ret
  exact ⟨yq,yd⟩
 ·
  rw [if_neg c2] at H
  have c2b0 : (a0 == 0)=false:=beq_eq_false_iff_ne.mpr c2
  have c2b1 : (a0 != 0)=true:=bne_iff_ne.mpr c2
  replace H:=ybi H;obtain ⟨t435,A3,H⟩:=H
  obtain rfl:=Option.some.inj H
  go_enter Try.func127,Try.ntmps127
  go_wp2_with (first|((with_reducible refine gate_callee (f:=127) rfl ?_);refine ygl 7 Try.func127 #[.int .u64 (IntKind.u64.wrap (Int.tdiv a0 2))] ?_;(with_reducible refine (ih k (by omega) (IntKind.u64.wrap (Int.tdiv a0 2)) t435 _ A3.out).mono ?_);rintro e w' ⟨rfl,⟨nd,rfl⟩⟩;refine ⟨_,rfl, ?_⟩))
  go_ret
  exact ⟨yq,yd⟩
mutual
def psalteryref06_Row.l0 : Nat→Int→List Int→Int→Option (List Int)
 | 0,_,_,_=>none
 | k+1,x0,x3,x4=>if x4≤12 then (if x4=0 then (if x3.length < 17592186044416 then (psalteryref06_Row.l0 k x0 (x3 ++ [1]) (wrap64 (x4+1))) else (none)) else (if x3.length < 17592186044416 then (psalteryref06_Row.l0 k x0 (x3 ++ [0]) (wrap64 (x4+1))) else (none))) else (psalteryref06_Row.l1 k x0 x3 0)
def psalteryref06_Row.l1 : Nat→Int→List Int→Int→Option (List Int)
 | 0,_,_,_=>none
 | k+1,x0,x3,x5=>if x5 < x0 then (psalteryref06_Row.l2 k x0 x3 x5 ([] : List Int) 0) else (some x3)
def psalteryref06_Row.l2 : Nat→Int→List Int→Int→List Int→Int→Option (List Int)
 | 0,_,_,_,_,_=>none
 | k+1,x0,x3,x5,x6,x7=>if x7≤12 then (if 0≤x7 then (if x7 < (x3.length : Int) then (psalteryref06_Row.l3 k x0 x3 x5 x6 x7 (rd x3 x7) 1) else (none)) else (none)) else (psalteryref06_Row.l1 k x0 x6 (wrap64 (x5+1)))
def psalteryref06_Row.l3 : Nat→Int→List Int→Int→List Int→Int→Int→Int→Option (List Int)
 | 0,_,_,_,_,_,_,_=>none
 | k+1,x0,x3,x5,x6,x7,x8,x9=>if x9≤x7 then (if 0≤(wrap64 (x7 - x9)) then (if (wrap64 (x7 - x9)) < (x3.length : Int) then (psalteryref06_Row.l3 k x0 x3 x5 x6 x7 (IntKind.u64.wrap (x8+(IntKind.u64.wrap (2 * (rd x3 (wrap64 (x7 - x9))))))) (wrap64 (x9+1))) else (none)) else (none)) else (if x6.length < 17592186044416 then (psalteryref06_Row.l2 k x0 x3 x5 (x6 ++ [x8]) (wrap64 (x7+1))) else (none))
end
def psalteryref06_Row.f (k : Nat) (a0 : Int) : Option (List Int):=psalteryref06_Row.l0 k a0 ([] : List Int) 0
theorem psalteryref06_Row.mono_l : ∀ k,(∀ y0 y1 y2,LeO (psalteryref06_Row.l0 k y0 y1 y2) (psalteryref06_Row.l0 (k+1) y0 y1 y2))∧(∀ y0 y1 y2,LeO (psalteryref06_Row.l1 k y0 y1 y2) (psalteryref06_Row.l1 (k+1) y0 y1 y2))∧(∀ y0 y1 y2 y3 y4,LeO (psalteryref06_Row.l2 k y0 y1 y2 y3 y4) (psalteryref06_Row.l2 (k+1) y0 y1 y2 y3 y4))∧(∀ y0 y1 y2 y3 y4 y5 y6,LeO (psalteryref06_Row.l3 k y0 y1 y2 y3 y4 y5 y6) (psalteryref06_Row.l3 (k+1) y0 y1 y2 y3 y4 y5 y6))
 | 0=>⟨fun _ _ _ r h=>by simp [psalteryref06_Row.l0] at h,fun _ _ _ r h=>by simp [psalteryref06_Row.l1] at h,fun _ _ _ _ _ r h=>by simp [psalteryref06_Row.l2] at h,fun _ _ _ _ _ _ _ r h=>by simp [psalteryref06_Row.l3] at h⟩
 | k+1=>by
  obtain ⟨ih0,ih1,ih2,ih3⟩:=psalteryref06_Row.mono_l k
  refine ⟨?_, ?_, ?_, ?_⟩
  ·
   intro y0 y1 y2
   unfold psalteryref06_Row.l0
   repeat' with_reducible first|apply ih0|apply ih1|apply ih2|apply ih3|apply yLr|apply yLn|apply yLi|apply yLb|intro _
  ·
   intro y0 y1 y2
   unfold psalteryref06_Row.l1
   repeat' with_reducible first|apply ih0|apply ih1|apply ih2|apply ih3|apply yLr|apply yLn|apply yLi|apply yLb|intro _
  ·
   intro y0 y1 y2 y3 y4
   unfold psalteryref06_Row.l2
   repeat' with_reducible first|apply ih0|apply ih1|apply ih2|apply ih3|apply yLr|apply yLn|apply yLi|apply yLb|intro _
  ·
   intro y0 y1 y2 y3 y4 y5 y6
   unfold psalteryref06_Row.l3
   repeat' with_reducible first|apply ih0|apply ih1|apply ih2|apply ih3|apply yLr|apply yLn|apply yLi|apply yLb|intro _
theorem psalteryref06_Row.mono : ∀ a0 k,LeO (psalteryref06_Row.f k a0) (psalteryref06_Row.f (k+1) a0):=by
 intro a0 k
 obtain ⟨ih0,ih1,ih2,ih3⟩:=psalteryref06_Row.mono_l k
 unfold psalteryref06_Row.f
 repeat' with_reducible first|apply ih0|apply ih1|apply ih2|apply ih3|apply yLr|apply yLn|apply yLi|apply yLb|intro _
set_option maxHeartbeats 8000000 in
set_option maxRecDepth 100000 in
theorem psalteryref06_Row.calls (k : Nat) (a0 : Int) (r : List Int) (w : World) (h : psalteryref06_Row.f k a0=some r) :
  Calls Try.prog 128 #[.int .i64 a0] w fun e w' => ∃ v0_ : Value,e=.returned (v0_)∧Kd.R (Kd.int .u64) 59 w' w.heap.size (fun _=>True) v0_ r∧Below w.heap.size w w' := by
 have HB:=zm (Below.refl w.heap.size w)
 have H : (psalteryref06_Row.l0 k a0 ([] : List Int) 0)=some r:=h
 clear h
 have H' := zm H
 clear H
 go_enter Try.func128,Try.ntmps128
 go_wp2
 go_loopg [3,4] k (fun kq v3 v4 w' => ∃ (x3_1 : List Int) (x4_1 : Int),v4=.int .i64 x4_1∧Aside0 (psalteryref06_Row.l0 kq a0 x3_1 x4_1=some r)∧Aside0 (kq≤k)∧Aside0 (Kd.R (Kd.int .u64) 59 w' w.heap.size (fun _=>True) v3 x3_1)∧Aside0 (Below w.heap.size w w'))
 case atStart=>exact ⟨(([] : List Int)),(0),yq,H',⟨Nat.le_refl _⟩,⟨yn⟩,⟨yhb⟩⟩
 case round =>
  clear H'
  obtain ⟨x3_1,x4_1,rfl,HA,HK1,HO_3,HB⟩:=hrel
  obtain ⟨k1,rfl⟩:=ysu gk (fun h=>by subst h;exact absurd HA.out (by simp [psalteryref06_Row.l0]))
  have H:=HA.out;clear HA
  simp only [psalteryref06_Row.l0] at H
  by_cases c2 : x4_1≤12
  ·
   rw [if_pos c2] at H
   have c2b0 : decide (x4_1≤12)=true:=decide_eq_true c2
   clear c2
   by_cases c3 : x4_1=0
   ·
    rw [if_pos c3] at H
    have c3b0 : (x4_1 == 0)=true:=beq_iff_eq.mpr c3
    have c3b1 : (x4_1 != 0)=false:=bne_eq_false_iff_eq.mpr c3
    clear c3
    replace H:=yif H;obtain ⟨c4,H⟩:=H
    have LMc4:=zm c4;clear c4
    obtain ⟨y420,hy420⟩ : ∃ y_ : List Int,y_=(x3_1 ++ [1]):=⟨_,rfl⟩
    replace H : (psalteryref06_Row.l0 k1 a0 y420 (wrap64 (x4_1+1)))=some r:=yrw hy420 H
    have Ny420:=zm hy420;clear hy420
    have H' := zm H
    clear H
    go_wp2_with (first|((with_reducible refine gate_builtin (b:=.append) (xs := #[.tmp 16, .tmp 17]) rfl ?_);at_builtin;refine Kd.R_append (Kd.int .u64) (w0:=w) w.heap.size rfl (.tmp 16) (.tmp 17) 162 59 (.int .u64 0) 8 rfl Try.underlying162 info59 rfl (by decide) (by omega) u3 x3_1 1 [.int .u64 1] (fun _=>True) (fun _=>False) rfl rfl ?aP (fun _ hk=>hk.elim) ?aF ?aO ?aB ?aS ?aL ?_;(case aP=>exact rfl);(case aB=>exact yhb);(case aF=>exact (fun _ _=>trivial));(case aO=>exact (yr HO_3));(case aS=>exact (zE yhb));(case aL=>have:=LMc4.out;omega);intro v421 w5 ho hb hg hat;rw [← Ny420.out] at ho;replace HB:=zm (hb);have HO422:=zm (ho);clear HO_3;clear ho hb hg hat))
    go_roundg k1
    case measure=>exact yom1 HK1
    case rel=>exact ⟨(y420),(wrap64 (x4_1+1)),yq,H',⟨yom1 HK1⟩,⟨yr HO422⟩,⟨yhb⟩⟩
   ·
    rw [if_neg c3] at H
    have c3b0 : (x4_1 == 0)=false:=beq_eq_false_iff_ne.mpr c3
    have c3b1 : (x4_1 != 0)=true:=bne_iff_ne.mpr c3
    replace H:=yif H;obtain ⟨c6,H⟩:=H
    have LMc6:=zm c6;clear c6
    obtain ⟨y423,hy423⟩ : ∃ y_ : List Int,y_=(x3_1 ++ [0]):=⟨_,rfl⟩
    replace H : (psalteryref06_Row.l0 k1 a0 y423 (wrap64 (x4_1+1)))=some r:=yrw hy423 H
    have Ny423:=zm hy423;clear hy423
    have H' := zm H
    clear H
    go_wp2_with (first|((with_reducible refine gate_builtin (b:=.append) (xs := #[.tmp 19, .tmp 20]) rfl ?_);at_builtin;refine Kd.R_append (Kd.int .u64) (w0:=w) w.heap.size rfl (.tmp 19) (.tmp 20) 162 59 (.int .u64 0) 8 rfl Try.underlying162 info59 rfl (by decide) (by omega) u3 x3_1 0 [.int .u64 0] (fun _=>True) (fun _=>False) rfl rfl ?aP (fun _ hk=>hk.elim) ?aF ?aO ?aB ?aS ?aL ?_;(case aP=>exact rfl);(case aB=>exact yhb);(case aF=>exact (fun _ _=>trivial));(case aO=>exact (yr HO_3));(case aS=>exact (zE yhb));(case aL=>have:=LMc6.out;omega);intro v424 w7 ho hb hg hat;rw [← Ny423.out] at ho;replace HB:=zm (hb);have HO425:=zm (ho);clear HO_3;clear ho hb hg hat))
    go_roundg k1
    case measure=>exact yom1 HK1
    case rel=>exact ⟨(y423),(wrap64 (x4_1+1)),yq,H',⟨yom1 HK1⟩,⟨yr HO425⟩,⟨yhb⟩⟩
  ·
   rw [if_neg c2] at H
   have c2b0 : decide (x4_1≤12)=false:=decide_eq_false c2
   clear c2
   have H' := zm H
   clear H
   go_wp2
   go_loopg [3,5] k1 (fun kq v3 v5 w' => ∃ (x3_2 : List Int) (x5_2 : Int),v5=.int .i64 x5_2∧Aside0 (psalteryref06_Row.l1 kq a0 x3_2 x5_2=some r)∧Aside0 (kq≤k1)∧Aside0 (Kd.R (Kd.int .u64) 59 w' w.heap.size (fun _=>True) v3 x3_2)∧Aside0 (Below w.heap.size w w'))
   case atStart=>exact ⟨(x3_1),(0),yq,H',⟨Nat.le_refl _⟩,⟨yr HO_3⟩,⟨yhb⟩⟩
   case round =>
    clear H'
    try clear c2b0
    try clear c3
    obtain ⟨x3_2,x5_2,rfl,HA,HK2,HO_3,HB⟩:=hrel
    obtain ⟨k2,rfl⟩:=ysu gk (fun h=>by subst h;exact absurd HA.out (by simp [psalteryref06_Row.l1]))
    have H:=HA.out;clear HA
    simp only [psalteryref06_Row.l1] at H
    by_cases c8 : x5_2 < a0
    ·
     rw [if_pos c8] at H
     have c8b0 : decide (x5_2 < a0)=true:=decide_eq_true c8
     clear c8
     have H' := zm H
     clear H
     go_wp2
     go_loopg [6,7] k2 (fun kq v6 v7 w' => ∃ (x6_3 : List Int) (x7_3 : Int),v7=.int .i64 x7_3∧Aside0 (psalteryref06_Row.l2 kq a0 x3_2 x5_2 x6_3 x7_3=some r)∧Aside0 (kq≤k2)∧Aside0 (Kd.R (Kd.int .u64) 59 w' w.heap.size (fun k_=>some k_≠(v6 : Value).ownBlock) u3 x3_2)∧Aside0 (Kd.R (Kd.int .u64) 59 w' w.heap.size (fun k_=>some k_≠(u3 : Value).ownBlock) v6 x6_3)∧Aside0 (Below w.heap.size w w'))
     case atStart=>exact ⟨(([] : List Int)),(0),yq,H',⟨Nat.le_refl _⟩,⟨yR0 HO_3⟩,⟨yn⟩,⟨yhb⟩⟩
     case round =>
      clear H'
      try clear c8b0
      obtain ⟨x6_3,x7_3,rfl,HA,HK3,HO_3,HO_6,HB⟩:=hrel
      obtain ⟨k3,rfl⟩:=ysu gk (fun h=>by subst h;exact absurd HA.out (by simp [psalteryref06_Row.l2]))
      have H:=HA.out;clear HA
      simp only [psalteryref06_Row.l2] at H
      by_cases c9 : x7_3≤12
      ·
       rw [if_pos c9] at H
       have c9b0 : decide (x7_3≤12)=true:=decide_eq_true c9
       clear c9
       replace H:=yif H;obtain ⟨c10,H⟩:=H
       have c10b0 : decide (0≤x7_3)=true:=decide_eq_true c10
       clear c10
       replace H:=yif H;obtain ⟨c11,H⟩:=H
       have c11b0 : decide (x7_3 < (x3_2.length : Int))=true:=decide_eq_true c11
       clear c11
       have H' := zm H
       clear H
       obtain ⟨Ao12,co12,eo12⟩:=Kd.R_slice HO_3.out
       subst eo12
       have p426 : 0≤(x7_3 : Int):=yt
       have q426 : x7_3 < (x3_2.length : Int):=yt
       obtain ⟨ad426,e426,hx426_0⟩:=Kd.at_int (Kd.R_reads' HO_3.out).2.2 x7_3 p426 q426
       cases e426
       replace p426:=eq_true p426
       replace q426:=eq_true q426
       go_wp2
       go_loopg [8,9] k3 (fun kq v8 v9 w' => ∃ (x8_4 : Int) (x9_4 : Int),v8=.int .u64 x8_4∧v9=.int .i64 x9_4∧Aside0 (psalteryref06_Row.l3 kq a0 x3_2 x5_2 x6_3 x7_3 x8_4 x9_4=some r)∧Aside0 (kq≤k3)∧Aside0 (Kd.R (Kd.int .u64) 59 w' w.heap.size (fun k_=>some k_≠(u6 : Value).ownBlock) (.slice (some ad426) x3_2.length co12) x3_2)∧Aside0 (Kd.R (Kd.int .u64) 59 w' w.heap.size (fun k_=>some k_≠((.slice (some ad426) x3_2.length co12) : Value).ownBlock) u6 x6_3)∧Aside0 (Below w.heap.size w w'))
       case atStart=>exact ⟨(rd x3_2 x7_3),(1),yq,yq,H',⟨Nat.le_refl _⟩,⟨yr HO_3⟩,⟨yr HO_6⟩,⟨yhb⟩⟩
       case round =>
        clear H'
        try clear c9b0
        try clear c10b0
        try clear c11b0
        try clear hx426_0
        try clear p426
        try clear q426
        obtain ⟨x8_4,x9_4,rfl,rfl,HA,HK4,HO_3,HO_6,HB⟩:=hrel
        obtain ⟨k4,rfl⟩:=ysu gk (fun h=>by subst h;exact absurd HA.out (by simp [psalteryref06_Row.l3]))
        have H:=HA.out;clear HA
        simp only [psalteryref06_Row.l3] at H
        by_cases c13 : x9_4≤x7_3
        ·
         rw [if_pos c13] at H
         have c13b0 : decide (x9_4≤x7_3)=true:=decide_eq_true c13
         clear c13
         obtain ⟨ji14,hji14⟩ : ∃ j_ : Int,(wrap64 (x7_3 - x9_4))=j_:=⟨_,rfl⟩
         replace H : (if 0≤(ji14) then (if (ji14) < (x3_2.length : Int) then (psalteryref06_Row.l3 k4 a0 x3_2 x5_2 x6_3 x7_3 (IntKind.u64.wrap (x8_4+(IntKind.u64.wrap (2 * (rd x3_2 (ji14)))))) (wrap64 (x9_4+1))) else (none)) else (none))=some r:=by first|(rw [hji14] at H;exact H)|(simp only [hji14] at H ⊢; exact H)
         have hji14w : (IntKind.i64.wrap (x7_3 - x9_4))=ji14:=(i64_w _).trans hji14
         replace H:=yif H;obtain ⟨c15,H⟩:=H
         have c15b0 : decide (0≤(ji14))=true:=decide_eq_true c15
         clear c15
         replace H:=yif H;obtain ⟨c16,H⟩:=H
         have c16b0 : decide ((ji14) < (x3_2.length : Int))=true:=decide_eq_true c16
         clear c16
         have H' := zm H
         clear H
         have p427 : 0≤((ji14) : Int):=yt
         have q427 : (ji14) < (x3_2.length : Int):=yt
         obtain ⟨ad427,e427,hx427_0⟩:=Kd.at_int (Kd.R_reads' HO_3.out).2.2 (ji14) p427 q427
         obtain rfl : ad426=ad427:=(by injection e427)
         replace p427:=eq_true p427
         replace q427:=eq_true q427
         go_wp2
         go_roundg k4
         case measure=>exact yom4 HK1 HK2 HK3 HK4
         case rel=>exact ⟨(IntKind.u64.wrap (x8_4+(IntKind.u64.wrap (2 * (rd x3_2 (ji14)))))),(wrap64 (x9_4+1)),(by first|rfl|(simp;done)|(simp only [← hji14] <;> (first|rfl|simp))|(simp [*];done)),yq,H',⟨yom4 HK1 HK2 HK3 HK4⟩,⟨yr HO_3⟩,⟨yr HO_6⟩,⟨yhb⟩⟩
        ·
         rw [if_neg c13] at H
         have c13b0 : decide (x9_4≤x7_3)=false:=decide_eq_false c13
         clear c13
         replace H:=yif H;obtain ⟨c17,H⟩:=H
         have LMc17:=zm c17;clear c17
         obtain ⟨y428,hy428⟩ : ∃ y_ : List Int,y_=(x6_3 ++ [x8_4]):=⟨_,rfl⟩
         replace H : (psalteryref06_Row.l2 k4 a0 x3_2 x5_2 y428 (wrap64 (x7_3+1)))=some r:=yrw hy428 H
         have Ny428:=zm hy428;clear hy428
         have H' := zm H
         clear H
         go_wp2_with (first|((with_reducible refine gate_builtin (b:=.append) (xs := #[.tmp 49, .tmp 51]) rfl ?_);at_builtin;refine Kd.R_append (Kd.int .u64) (w0:=w) w.heap.size rfl (.tmp 49) (.tmp 51) 162 59 (.int .u64 0) 8 rfl Try.underlying162 info59 rfl (by decide) (by omega) u6 x6_3 x8_4 [.int .u64 x8_4] (fun k_=>some k_≠(.slice (some ad426) x3_2.length co12 : Value).ownBlock) (fun _=>False) rfl rfl ?aP (fun _ hk=>hk.elim) ?aF ?aO ?aB ?aS ?aL ?_;(case aP=>exact rfl);(case aB=>exact yhb);(case aF=>exact (fun k_ hk=>Kd.fresh' (Kd.R_lt (yr HO_3)) k_ hk));(case aO=>exact (yr HO_6));(case aS=>exact (zE yhb));(case aL=>have:=LMc17.out;omega);intro v429 w18 ho hb hg hat;rw [← Ny428.out] at ho;replace HO_3:=zm (Kd.R_after (ok:=(fun _=>True)) (yR0 HO_3) hg hat);replace HB:=zm (hb);have HO430:=zm (ho);clear HO_6;clear ho hb hg hat))
         go_roundg k4
         case measure=>exact yom4 HK1 HK2 HK3 HK4
         case rel=>exact ⟨(y428),(wrap64 (x7_3+1)),yq,H',⟨yom4 HK1 HK2 HK3 HK4⟩,⟨yR0 HO_3⟩,⟨yr HO430⟩,⟨yhb⟩⟩
      ·
       rw [if_neg c9] at H
       have c9b0 : decide (x7_3≤12)=false:=decide_eq_false c9
       clear c9
       have H' := zm H
       clear H
       go_wp2
       go_roundg k3
       case measure=>exact yom3 HK1 HK2 HK3
       case rel=>exact ⟨(x6_3),(wrap64 (x5_2+1)),yq,H',⟨yom3 HK1 HK2 HK3⟩,⟨yR0 HO_6⟩,⟨yhb⟩⟩
    ·
     rw [if_neg c8] at H
     have c8b0 : decide (x5_2 < a0)=false:=decide_eq_false c8
     clear c8
     obtain rfl:=Option.some.inj H
     go_wp2
     go_ret
     exact ⟨_,ye,yr HO_3,yhb⟩
def psalteryref06_Count.f (k : Nat) (a0 : Int) (a1 : Int) : Option (Int):=(psalteryref06_Row.f k a0).bind fun t431=>(if 0≤a1 then (if a1 < (t431.length : Int) then (some (rd t431 a1)) else (none)) else (none))
theorem psalteryref06_Count.mono : ∀ a0 a1 k,LeO (psalteryref06_Count.f k a0 a1) (psalteryref06_Count.f (k+1) a0 a1):=by
 intro a0 a1 k
 unfold psalteryref06_Count.f
 repeat' with_reducible first|apply psalteryref06_Row.mono|apply yLr|apply yLn|apply yLi|apply yLb|intro _
set_option maxHeartbeats 8000000 in
set_option maxRecDepth 100000 in
theorem psalteryref06_Count.calls (k : Nat) (a0 : Int) (a1 : Int) (r : Int) (w : World) (h : psalteryref06_Count.f k a0 a1=some r) :
  Calls Try.prog 126 #[.int .i64 a0, .int .i64 a1] w fun e w' => e=.returned (.int .u64 r)∧Below w.heap.size w w' := by
 have HB:=zm (Below.refl w.heap.size w)
 have H : ((psalteryref06_Row.f k a0).bind fun t431=>(if 0≤a1 then (if a1 < (t431.length : Int) then (some (rd t431 a1)) else (none)) else (none)))=some r:=h
 clear h
 replace H:=ybi H;obtain ⟨t431,A3,H⟩:=H
 replace H:=yif H;obtain ⟨c4,H⟩:=H
 have c4b0 : decide (0≤a1)=true:=decide_eq_true c4
 clear c4
 replace H:=yif H;obtain ⟨c5,H⟩:=H
 have c5b0 : decide (a1 < (t431.length : Int))=true:=decide_eq_true c5
 clear c5
 obtain rfl:=Option.some.inj H
 go_enter Try.func126,Try.ntmps126
 go_wp2_with (first|((with_reducible refine gate_callee (f:=128) rfl ?_);refine ygl 6 Try.func128 #[.int .i64 a0] ?_;(with_reducible refine (psalteryref06_Row.calls k a0 t431 _ A3.out).mono ?_);rintro e w6 ⟨v432,rfl,ho0,hb⟩;refine ⟨_,rfl, ?_⟩;have HO433:=zm (Kd.R_lower ho0 (zE yhb));replace HB:=ybs hb;(try clear hb);(try clear ho0);obtain ⟨Ao7,co7,eo7⟩:=Kd.R_slice HO433.out;subst eo7;have p434 : 0≤(a1 : Int):=yt;have q434 : a1 < (t431.length : Int):=yt;obtain ⟨ad434,e434,hx434_0⟩:=Kd.at_int (Kd.R_reads' HO433.out).2.2 a1 p434 q434;cases e434;replace p434:=eq_true p434;replace q434:=eq_true q434))
 go_ret
 exact ⟨ye,yhb⟩
def psalteryref06_Cost.f (k : Nat) (a0 : Int) (a1 : Int) : Option (Int):=(psalteryref06_Count.f k a0 a1).bind fun t436=>(if (IntKind.u64.wrap (t436 - 1)) < 65536 then ((psalteryref03_Log2.f k (IntKind.u64.wrap (t436 - 1))).bind fun t437=>(some (wrap64 (1+t437)))) else ((psalteryref03_Log2.f k (IntKind.u64.wrap (Int.tdiv (IntKind.u64.wrap (t436 - 1)) 65536))).bind fun t438=>(some (wrap64 (17+t438)))))
theorem psalteryref06_Cost.mono : ∀ a0 a1 k,LeO (psalteryref06_Cost.f k a0 a1) (psalteryref06_Cost.f (k+1) a0 a1):=by
 intro a0 a1 k
 unfold psalteryref06_Cost.f
 repeat' with_reducible first|apply psalteryref03_Log2.mono|apply psalteryref06_Count.mono|apply yLr|apply yLn|apply yLi|apply yLb|intro _
set_option maxHeartbeats 8000000 in
set_option maxRecDepth 100000 in
theorem psalteryref06_Cost.calls (k : Nat) (a0 : Int) (a1 : Int) (r : Int) (w : World) (h : psalteryref06_Cost.f k a0 a1=some r) :
  Calls Try.prog 125 #[.int .i64 a0, .int .i64 a1] w fun e w' => e=.returned (.int .i64 r)∧Below w.heap.size w w' := by
 have HB:=zm (Below.refl w.heap.size w)
 have H : ((psalteryref06_Count.f k a0 a1).bind fun t436=>(if (IntKind.u64.wrap (t436 - 1)) < 65536 then ((psalteryref03_Log2.f k (IntKind.u64.wrap (t436 - 1))).bind fun t437=>(some (wrap64 (1+t437)))) else ((psalteryref03_Log2.f k (IntKind.u64.wrap (Int.tdiv (IntKind.u64.wrap (t436 - 1)) 65536))).bind fun t438=>(some (wrap64 (17+t438))))))=some r:=h
 clear h
 replace H:=ybi H;obtain ⟨t436,A3,H⟩:=H
 by_cases c4 : (IntKind.u64.wrap (t436 - 1)) < 65536
 ·
  rw [if_pos c4] at H
  have c4b0 : decide ((IntKind.u64.wrap (t436 - 1)) < 65536)=true:=decide_eq_true c4
  clear c4
  replace H:=ybi H;obtain ⟨t437,A5,H⟩:=H
  obtain rfl:=Option.some.inj H
  go_enter Try.func125,Try.ntmps125
  go_wp2_with (first|((with_reducible refine gate_callee (f:=126) rfl ?_);refine ygl 8 Try.func126 #[.int .i64 a0, .int .i64 a1] ?_;(with_reducible refine (psalteryref06_Count.calls k a0 a1 t436 _ A3.out).mono ?_);rintro e w6 ⟨rfl,hb⟩;refine ⟨_,rfl, ?_⟩;replace HB:=ybs hb;(try clear hb))|((with_reducible refine gate_callee (f:=127) rfl ?_);refine ygl 13 Try.func127 #[.int .u64 (IntKind.u64.wrap (t436 - 1))] ?_;(with_reducible refine (psalteryref03_Log2.calls k (IntKind.u64.wrap (t436 - 1)) t437 _ A5.out).mono ?_);rintro e w' ⟨rfl,⟨nd,rfl⟩⟩;refine ⟨_,rfl, ?_⟩))
  go_ret
  exact ⟨ye,yhb⟩
 ·
  rw [if_neg c4] at H
  have c4b0 : decide ((IntKind.u64.wrap (t436 - 1)) < 65536)=false:=decide_eq_false c4
  clear c4
  replace H:=ybi H;obtain ⟨t438,A7,H⟩:=H
  obtain rfl:=Option.some.inj H
  go_enter Try.func125,Try.ntmps125
  go_wp2_with (first|((with_reducible refine gate_callee (f:=126) rfl ?_);refine ygl 8 Try.func126 #[.int .i64 a0, .int .i64 a1] ?_;(with_reducible refine (psalteryref06_Count.calls k a0 a1 t436 _ A3.out).mono ?_);rintro e w8 ⟨rfl,hb⟩;refine ⟨_,rfl, ?_⟩;replace HB:=ybs hb;(try clear hb))|((with_reducible refine gate_callee (f:=127) rfl ?_);refine ygl 17 Try.func127 #[.int .u64 (IntKind.u64.wrap (Int.tdiv (IntKind.u64.wrap (t436 - 1)) 65536))] ?_;(with_reducible refine (psalteryref03_Log2.calls k (IntKind.u64.wrap (Int.tdiv (IntKind.u64.wrap (t436 - 1)) 65536)) t438 _ A7.out).mono ?_);rintro e w' ⟨rfl,⟨nd,rfl⟩⟩;refine ⟨_,rfl, ?_⟩))
  go_ret
  exact ⟨ye,yhb⟩
def psalteryref12_Spent.l0 : Nat→List Int→Int→Int→Option (Int)
 | 0,_,_,_=>none
 | k+1,x0,x3,x4=>if x4 < 5 then ((psalteryref10_Width.f k x4).bind fun t439=>(if 0≤x4 then (if x4 < (x0.length : Int) then ((psalteryref06_Cost.f k t439 (rd x0 x4)).bind fun t441=>(psalteryref12_Spent.l0 k x0 (wrap64 (x3+t441)) (wrap64 (x4+1)))) else (none)) else (none))) else (some x3)
def psalteryref12_Spent.f (k : Nat) (l0 : List Int) : Option (Int):=psalteryref12_Spent.l0 k l0 0 0
theorem psalteryref12_Spent.mono_l : ∀ k,(∀ y0 y1 y2,LeO (psalteryref12_Spent.l0 k y0 y1 y2) (psalteryref12_Spent.l0 (k+1) y0 y1 y2))
 | 0=>fun _ _ _ r h=>by simp [psalteryref12_Spent.l0] at h
 | k+1=>by
  have ih0:=psalteryref12_Spent.mono_l k
  ·
   intro y0 y1 y2
   unfold psalteryref12_Spent.l0
   repeat' with_reducible first|apply ih0|apply psalteryref06_Cost.mono|apply psalteryref10_Width.mono|apply yLr|apply yLn|apply yLi|apply yLb|intro _
theorem psalteryref12_Spent.mono : ∀ a0 k,LeO (psalteryref12_Spent.f k a0) (psalteryref12_Spent.f (k+1) a0):=by
 intro a0 k
 have ih0:=psalteryref12_Spent.mono_l k
 unfold psalteryref12_Spent.f
 repeat' with_reducible first|apply ih0|apply psalteryref06_Cost.mono|apply psalteryref10_Width.mono|apply yLr|apply yLn|apply yLi|apply yLb|intro _
def psalteryref12_Spent.T5 : Bool × List (List Nat × List Nat):=(true, [([], []),([], []),([1], [1]),([], []),([], []),([3,4], [3,4]),([5], [5]),([2,6,2], [2,6]),([0,7], [0,7]),([8,7,0,1,2,3,4,5,6,7,8], [0,8])])
def psalteryref12_Spent.B5 : List Nat := [0,0,2,0,0,24,56,126,255,511]
theorem psalteryref12_Spent.tab5 : rtab .any (opsOf Try.f123 5)=psalteryref12_Spent.T5:=by kernel_rfl
theorem psalteryref12_Spent.bits5 : waitsOk psalteryref12_Spent.T5.2 psalteryref12_Spent.B5=true:=by kernel_rfl
set_option maxHeartbeats 8000000 in
set_option maxRecDepth 100000 in
theorem psalteryref12_Spent.calls (k : Nat) (A0 : Option Addr) (c0 : Nat) (l0 : List Int) (r : Int) (w : World) (hr0 : Kd.C (Kd.int .i64) w A0 l0.length l0) (hc0 : l0.length≤c0) (h : psalteryref12_Spent.f k l0=some r) :
  Calls Try.prog 123 #[.slice A0 l0.length c0] w fun e w' => e=.returned (.int .i64 r)∧Below w.heap.size w w' := by
 have HR0:=zm hr0;have HC0:=zm hc0;clear hr0 hc0;have HB:=zm (Below.refl w.heap.size w)
 have H : (psalteryref12_Spent.l0 k l0 0 0)=some r:=h
 clear h
 have H' := zm H
 clear H
 go_enter Try.func123,Try.ntmps123
 go_wp2
 go_loopg [3,4] k (fun kq v3 v4 w' => ∃ (x3_1 : Int) (x4_1 : Int),v3=.int .i64 x3_1∧v4=.int .i64 x4_1∧Aside0 (psalteryref12_Spent.l0 kq l0 x3_1 x4_1=some r)∧Aside0 (kq≤k)∧Aside0 (Below w.heap.size w w'))
 case atStart=>exact ⟨(0),(0),yq,yq,H',⟨Nat.le_refl _⟩,⟨yhb⟩⟩
 case round =>
  clear H'
  obtain ⟨x3_1,x4_1,rfl,rfl,HA,HK1,HB⟩:=hrel
  obtain ⟨k1,rfl⟩:=ysu gk (fun h=>by subst h;exact absurd HA.out (by simp [psalteryref12_Spent.l0]))
  have H:=HA.out;clear HA
  simp only [psalteryref12_Spent.l0] at H
  by_cases c2 : x4_1 < 5
  ·
   rw [if_pos c2] at H
   have c2b0 : decide (x4_1 < 5)=true:=decide_eq_true c2
   clear c2
   replace H:=ybi H;obtain ⟨t439,A3,H⟩:=H
   replace H:=yif H;obtain ⟨c4,H⟩:=H
   have c4b0 : decide (0≤x4_1)=true:=decide_eq_true c4
   clear c4
   replace H:=yif H;obtain ⟨c5,H⟩:=H
   have c5b0 : decide (x4_1 < (l0.length : Int))=true:=decide_eq_true c5
   clear c5
   replace H:=ybi H;obtain ⟨t441,A6,H⟩:=H
   have H' := zm H
   clear H
   try go_wp2
   replace HB:=zm (zf HB.out)
   have p440 : 0≤(x4_1 : Int):=yt
   have q440 : x4_1 < (l0.length : Int):=yt
   obtain ⟨ad440,e440,hx440_0⟩:=Kd.at_int HR0.out x4_1 p440 q440
   have hw440_0:=hx440_0
   cases e440
   replace hx440_0:=yhx HB hx440_0
   replace p440:=eq_true p440
   replace q440:=eq_true q440
   refine start_ (n:=10) (S:=fun w' => w'.cell? (ad440.add (x4_1).toNat)=some (.int .i64 (rd l0 x4_1))) (ds := []) #[false,false,false,false,false,false,false,false,false,false] (by kernel_rfl) rfl rfl ((yhx HB hw440_0 :)) (fun hHeld => ?_);refine with_tabW psalteryref12_Spent.tab5 psalteryref12_Spent.bits5 (fun HT_ HW_ => ?_)
   generalize wr.drew=w7 at HB hx440_0 hHeld ⊢
   refine yp 0 9 HT_ ?_
   refine yp 1 10 HT_ ?_
   refine yp 3 12 HT_ ?_
   refine yp 4 13 HT_ ?_
   refine yp 5 14 HT_ ?_
   refine yl 6 15 HT_ HW_ hHeld ?_
   refine yw 2 11 HT_ (fun K hK => ?_)
   refine ygs Try.func65 #[.int .i64 x4_1] ?_
   with_reducible refine (psalteryref10_Width.calls k1 x4_1 t439 _ A3.out).mono ?_
   rintro e w' ⟨rfl,⟨nd,rfl⟩⟩
   refine ⟨_,rfl, ?_⟩
   refine hK.out _ _ ((yhx HB hw440_0 :)) (fun hHeld => ?_)
   clear hK K
   refine ym (some 11) ?_
   refine yw 7 16 HT_ (fun K hK => ?_)
   refine ygs Try.func125 #[.int .i64 t439, .int .i64 (rd l0 x4_1)] ?_
   with_reducible refine (psalteryref06_Cost.calls k1 t439 (rd l0 x4_1) t441 _ A6.out).mono ?_
   rintro e w8 ⟨rfl,hb⟩
   refine ⟨_,rfl, ?_⟩
   replace HB:=ybs hb
   (try clear hb)
   refine hK.out _ _ ((yhx HB hw440_0 :)) (fun hHeld => ?_)
   clear hK K
   refine ym (some 16) ?_
   refine yp 8 17 HT_ ?_
   refine yp 9 3 HT_ ?_
   refine done_ (done_of HT_.out (by kernel_rfl)) ?_
   try go_wp2
   go_roundg k1
   case measure=>exact yom1 HK1
   case rel=>exact ⟨(wrap64 (x3_1+t441)),(wrap64 (x4_1+1)),yq,yq,H',⟨yom1 HK1⟩,⟨yhb⟩⟩
  ·
   rw [if_neg c2] at H
   have c2b0 : decide (x4_1 < 5)=false:=decide_eq_false c2
   clear c2
   obtain rfl:=Option.some.inj H
   go_wp2
   go_ret
   exact ⟨ye,yhb⟩
def psalteryref12_May.j0 : Nat→List Int→Int→Int→Bool→Option (Bool)
 | 0,_,_,_,_=>none
 | k+1,x1,x2,x3,x32=>if x32=true then (some false) else ((psalteryref12_More.f x1 x2).bind fun t446=>((psalteryref12_Spent.f k t446).bind fun t449=>(some (decide (t449≤x3)))))
def psalteryref12_May.f (k : Nat) (l0 : List Int) (l1 : List Int) (a2 : Int) (a3 : Int) : Option (Bool):=if 0≤a2 then (if a2 < (l0.length : Int) then (if (rd l0 a2) < 1 then (psalteryref12_May.j0 k l1 a2 a3 true) else (if a2 < (l1.length : Int) then (if (rd l1 a2) ≥ 12 then (psalteryref12_May.j0 k l1 a2 a3 true) else ((psalteryref10_Width.f k a2).bind fun t444=>(if t444=1 then (psalteryref12_May.j0 k l1 a2 a3 (decide ((rd l1 a2) > 0))) else (psalteryref12_May.j0 k l1 a2 a3 false)))) else (none))) else (none)) else (none)
theorem psalteryref12_May.mono_l : ∀ k,(∀ y0 y1 y2 y3,LeO (psalteryref12_May.j0 k y0 y1 y2 y3) (psalteryref12_May.j0 (k+1) y0 y1 y2 y3))
 | 0=>fun _ _ _ _ r h=>by simp [psalteryref12_May.j0] at h
 | k+1=>by
  have ih0:=psalteryref12_May.mono_l k
  ·
   intro y0 y1 y2 y3
   unfold psalteryref12_May.j0
   repeat' with_reducible first|apply ih0|apply psalteryref10_Width.mono|apply psalteryref12_Spent.mono|apply yLr|apply yLn|apply yLi|apply yLb|intro _
theorem psalteryref12_May.mono : ∀ a0 a1 a2 a3 k,LeO (psalteryref12_May.f k a0 a1 a2 a3) (psalteryref12_May.f (k+1) a0 a1 a2 a3):=by
 intro a0 a1 a2 a3 k
 have ih0:=psalteryref12_May.mono_l k
 unfold psalteryref12_May.f
 repeat' with_reducible first|apply ih0|apply psalteryref10_Width.mono|apply psalteryref12_Spent.mono|apply yLr|apply yLn|apply yLi|apply yLb|intro _
set_option maxHeartbeats 8000000 in
set_option maxRecDepth 100000 in
theorem psalteryref12_May.calls (k : Nat) (A0 : Option Addr) (c0 : Nat) (l0 : List Int) (A1 : Option Addr) (c1 : Nat) (l1 : List Int) (a2 : Int) (a3 : Int) (r : Bool) (w : World) (hr0 : Kd.C (Kd.int .i64) w A0 l0.length l0) (hc0 : l0.length≤c0) (hr1 : Kd.C (Kd.int .i64) w A1 l1.length l1) (hc1 : l1.length≤c1) (h : psalteryref12_May.f k l0 l1 a2 a3=some r) :
  Calls Try.prog 118 #[.slice A0 l0.length c0, .slice A1 l1.length c1, .int .i64 a2, .int .i64 a3] w fun e w' => e=.returned (.bool r)∧Below w.heap.size w w' := by
 have HR0:=zm hr0;have HC0:=zm hc0;clear hr0 hc0;have HR1:=zm hr1;have HC1:=zm hc1;clear hr1 hc1;have HB:=zm (Below.refl w.heap.size w)
 have H : (if 0≤a2 then (if a2 < (l0.length : Int) then (if (rd l0 a2) < 1 then (psalteryref12_May.j0 k l1 a2 a3 true) else (if a2 < (l1.length : Int) then (if (rd l1 a2) ≥ 12 then (psalteryref12_May.j0 k l1 a2 a3 true) else ((psalteryref10_Width.f k a2).bind fun t444=>(if t444=1 then (psalteryref12_May.j0 k l1 a2 a3 (decide ((rd l1 a2) > 0))) else (psalteryref12_May.j0 k l1 a2 a3 false)))) else (none))) else (none)) else (none))=some r:=h
 clear h;have HC5:=zm H;clear H
 go_enter Try.func118,Try.ntmps118
 go_upto_region 1 with (fail)
 go_cut [32] (fun v32 wc => ∃ (kq : Nat) (x32_4 : Bool),v32=.bool x32_4∧Aside0 (psalteryref12_May.j0 kq l1 a2 a3 x32_4=some r)∧Aside0 (kq≤k)∧Aside0 (Below w.heap.size w wc))
 case first =>
  have H:=HC5.out;clear HC5
  replace H:=yif H;obtain ⟨c6,H⟩:=H
  have c6b0 : decide (0≤a2)=true:=decide_eq_true c6
  clear c6
  (first|rw [c6b0]|(simp only [i64_w,i32_w];rw [c6b0])|skip)
  replace H:=yif H;obtain ⟨c7,H⟩:=H
  have c7b0 : decide (a2 < (l0.length : Int))=true:=decide_eq_true c7
  clear c7
  by_cases c8 : (rd l0 a2) < 1
  ·
   rw [if_pos c8] at H
   have c8b0 : decide ((rd l0 a2) < 1)=true:=decide_eq_true c8
   clear c8
   have H' := zm H
   clear H
   have p442 : 0≤(a2 : Int):=yt
   have q442 : a2 < (l0.length : Int):=yt
   obtain ⟨ad442,e442,hx442_0⟩:=Kd.at_int HR0.out a2 p442 q442
   cases e442
   replace hx442_0:=yhx HB hx442_0
   replace p442:=eq_true p442
   replace q442:=eq_true q442
   go_wp2
   go_meet
   case rel=>exact ⟨_,(true),yq,H',⟨yo⟩,⟨yhb⟩⟩
  ·
   rw [if_neg c8] at H
   have c8b0 : decide ((rd l0 a2) < 1)=false:=decide_eq_false c8
   clear c8
   replace H:=yif H;obtain ⟨c9,H⟩:=H
   have c9b0 : decide (a2 < (l1.length : Int))=true:=decide_eq_true c9
   clear c9
   by_cases c10 : (rd l1 a2) ≥ 12
   ·
    rw [if_pos c10] at H
    have c10b0 : decide (12≤(rd l1 a2))=true:=decide_eq_true c10
    clear c10
    have H' := zm H
    clear H
    have p442 : 0≤(a2 : Int):=yt
    have q442 : a2 < (l0.length : Int):=yt
    obtain ⟨ad442,e442,hx442_0⟩:=Kd.at_int HR0.out a2 p442 q442
    cases e442
    replace hx442_0:=yhx HB hx442_0
    replace p442:=eq_true p442
    replace q442:=eq_true q442
    have p443 : 0≤(a2 : Int):=yt
    have q443 : a2 < (l1.length : Int):=yt
    obtain ⟨ad443,e443,hx443_0⟩:=Kd.at_int HR1.out a2 p443 q443
    cases e443
    replace hx443_0:=yhx HB hx443_0
    replace p443:=eq_true p443
    replace q443:=eq_true q443
    go_wp2
    go_meet
    case rel=>exact ⟨_,(true),yq,H',⟨yo⟩,⟨yhb⟩⟩
   ·
    rw [if_neg c10] at H
    have c10b0 : decide (12≤(rd l1 a2))=false:=decide_eq_false c10
    clear c10
    replace H:=ybi H;obtain ⟨t444,A11,H⟩:=H
    by_cases c12 : t444=1
    ·
     rw [if_pos c12] at H
     have c12b0 : (t444 == 1)=true:=beq_iff_eq.mpr c12
     have c12b1 : (t444 != 1)=false:=bne_eq_false_iff_eq.mpr c12
     clear c12
     have H' := zm H
     clear H
     have p442 : 0≤(a2 : Int):=yt
     have q442 : a2 < (l0.length : Int):=yt
     obtain ⟨ad442,e442,hx442_0⟩:=Kd.at_int HR0.out a2 p442 q442
     cases e442
     replace hx442_0:=yhx HB hx442_0
     replace p442:=eq_true p442
     replace q442:=eq_true q442
     have p443 : 0≤(a2 : Int):=yt
     have q443 : a2 < (l1.length : Int):=yt
     obtain ⟨ad443,e443,hx443_0⟩:=Kd.at_int HR1.out a2 p443 q443
     cases e443
     replace hx443_0:=yhx HB hx443_0
     replace p443:=eq_true p443
     replace q443:=eq_true q443
     go_wp2_with (first|(go_at_call 65;(with_reducible refine (psalteryref10_Width.calls k a2 t444 _ A11.out).mono ?_);rintro e w' ⟨rfl,⟨nd,rfl⟩⟩;have p445 : 0≤(a2 : Int):=yt;have q445 : a2 < (l1.length : Int):=yt;obtain ⟨ad445,e445,hx445_0⟩:=Kd.at_int HR1.out a2 p445 q445;obtain rfl : ad443=ad445:=(by injection e445);replace hx445_0:=yhx HB hx445_0;replace p445:=eq_true p445;replace q445:=eq_true q445))
     go_meet
     case rel=>exact ⟨_,(decide ((rd l1 a2) > 0)),yq,H',⟨yo⟩,⟨yhb⟩⟩
    ·
     rw [if_neg c12] at H
     have c12b0 : (t444 == 1)=false:=beq_eq_false_iff_ne.mpr c12
     have c12b1 : (t444 != 1)=true:=bne_iff_ne.mpr c12
     have H' := zm H
     clear H
     have p442 : 0≤(a2 : Int):=yt
     have q442 : a2 < (l0.length : Int):=yt
     obtain ⟨ad442,e442,hx442_0⟩:=Kd.at_int HR0.out a2 p442 q442
     cases e442
     replace hx442_0:=yhx HB hx442_0
     replace p442:=eq_true p442
     replace q442:=eq_true q442
     have p443 : 0≤(a2 : Int):=yt
     have q443 : a2 < (l1.length : Int):=yt
     obtain ⟨ad443,e443,hx443_0⟩:=Kd.at_int HR1.out a2 p443 q443
     cases e443
     replace hx443_0:=yhx HB hx443_0
     replace p443:=eq_true p443
     replace q443:=eq_true q443
     go_wp2_with (first|(go_at_call 65;(with_reducible refine (psalteryref10_Width.calls k a2 t444 _ A11.out).mono ?_);rintro e w' ⟨rfl,⟨nd,rfl⟩⟩))
     go_meet
     case rel=>exact ⟨_,(false),yq,H',⟨yo⟩,⟨yhb⟩⟩
 case rest =>
  clear HC5
  try clear c1
  obtain ⟨kq,x32_4,rfl,HA,HJ4,HB⟩:=hcut
  obtain ⟨kj4,rfl⟩:=ysu kq (fun h=>by subst h;exact absurd HA.out (by simp [psalteryref12_May.j0]))
  have H:=HA.out;clear HA
  simp only [psalteryref12_May.j0] at H
  by_cases c13 : x32_4=true
  ·
   subst c13
   rw [if_pos rfl] at H
   obtain rfl:=Option.some.inj H
   go_wp2
   go_ret
   exact ⟨ye,yhb⟩
  ·
   replace c13:=Bool.eq_false_iff.mpr c13
   subst c13
   rw [ynf] at H
   replace H:=ybi H;obtain ⟨t446,A14,H⟩:=H
   replace H:=ybi H;obtain ⟨t449,A15,H⟩:=H
   obtain rfl:=Option.some.inj H
   go_wp2_with (first|((with_reducible refine gate_callee (f:=119) rfl ?_);refine ygl 35 Try.func119 #[.slice A1 l1.length c1, .int .i64 a2] ?_;(with_reducible refine (psalteryref12_More.calls _ _ l1 a2 t446 _ ?side1 HC1.out A14.out).mono ?_);(case side1=>exact ycb HR1);rintro e w16 ⟨v447,rfl,ho0,hb⟩;refine ⟨_,rfl, ?_⟩;have HO448:=zm (Kd.R_lower ho0 (zE yhb));replace HB:=ybs hb;(try clear hb);(try clear ho0);obtain ⟨Ao17,co17,eo17⟩:=Kd.R_slice HO448.out;subst eo17)|((with_reducible refine gate_callee (f:=123) rfl ?_);refine ygl 36 Try.func123 #[.slice Ao17 t446.length co17] ?_;(with_reducible refine (psalteryref12_Spent.calls kj4 _ _ t446 t449 _ ?side1 ?side2 A15.out).mono ?_);(case side1=>exact yce (Kd.R_reads' HO448.out).2.2);(case side2=>exact (Kd.R_reads' HO448.out).2.1);rintro e w18 ⟨rfl,hb⟩;refine ⟨_,rfl, ?_⟩;replace HO448:=yRb HO448 hb;replace HB:=ybs hb;(try clear hb)))
   go_ret
   exact ⟨ye,yhb⟩
mutual
def psalteryref12_Channel.l0 : Nat→List Int→Int→List Int→Option (List Int)
 | 0,_,_,_=>none
 | k+1,x0,x1,x5=>psalteryref12_Channel.l1 k x0 x1 x5 (-1) 0 0
def psalteryref12_Channel.l1 : Nat→List Int→Int→List Int→Int→Int→Int→Option (List Int)
 | 0,_,_,_,_,_,_=>none
 | k+1,x0,x1,x5,x6,x7,x8=>if x8 < 5 then (if 0≤x8 then (if x8 < (x0.length : Int) then (if x8 < (x5.length : Int) then ((psalteryref10_Width.f k x8).bind fun t458=>(if t458=0 then (none) else ((psalteryref12_May.f k x0 x5 x8 x1).bind fun t459=>(if t459=true then (if x6 < 0 then (psalteryref12_Channel.l1 k x0 x1 x5 x8 (wrap64 ((wrap64 (8 * (rd x0 x8))) - (wrap64 (Int.tdiv (wrap64 (16 * (rd x5 x8))) t458)))) (wrap64 (x8+1))) else (if (wrap64 ((wrap64 (8 * (rd x0 x8))) - (wrap64 (Int.tdiv (wrap64 (16 * (rd x5 x8))) t458)))) > x7 then (psalteryref12_Channel.l1 k x0 x1 x5 x8 (wrap64 ((wrap64 (8 * (rd x0 x8))) - (wrap64 (Int.tdiv (wrap64 (16 * (rd x5 x8))) t458)))) (wrap64 (x8+1))) else (psalteryref12_Channel.l1 k x0 x1 x5 x6 x7 (wrap64 (x8+1))))) else (psalteryref12_Channel.l1 k x0 x1 x5 x6 x7 (wrap64 (x8+1))))))) else (none)) else (none)) else (none)) else (if x6 < 0 then (some x5) else ((psalteryref12_More.f x5 x6).bind fun t453=>(psalteryref12_Channel.l0 k x0 x1 t453)))
end
def psalteryref12_Channel.f (k : Nat) (l0 : List Int) (a1 : Int) : Option (List Int):=psalteryref12_Channel.l0 k l0 a1 (([0,0,0,0,0] : List Int))
theorem psalteryref12_Channel.mono_l : ∀ k,(∀ y0 y1 y2,LeO (psalteryref12_Channel.l0 k y0 y1 y2) (psalteryref12_Channel.l0 (k+1) y0 y1 y2))∧(∀ y0 y1 y2 y3 y4 y5,LeO (psalteryref12_Channel.l1 k y0 y1 y2 y3 y4 y5) (psalteryref12_Channel.l1 (k+1) y0 y1 y2 y3 y4 y5))
 | 0=>⟨fun _ _ _ r h=>by simp [psalteryref12_Channel.l0] at h,fun _ _ _ _ _ _ r h=>by simp [psalteryref12_Channel.l1] at h⟩
 | k+1=>by
  obtain ⟨ih0,ih1⟩:=psalteryref12_Channel.mono_l k
  refine ⟨?_, ?_⟩
  ·
   intro y0 y1 y2
   unfold psalteryref12_Channel.l0
   repeat' with_reducible first|apply ih0|apply ih1|apply psalteryref10_Width.mono|apply psalteryref12_May.mono|apply yLr|apply yLn|apply yLi|apply yLb|intro _
  ·
   intro y0 y1 y2 y3 y4 y5
   unfold psalteryref12_Channel.l1
   repeat' with_reducible first|apply ih0|apply ih1|apply psalteryref10_Width.mono|apply psalteryref12_May.mono|apply yLr|apply yLn|apply yLi|apply yLb|intro _
theorem psalteryref12_Channel.mono : ∀ a0 a1 k,LeO (psalteryref12_Channel.f k a0 a1) (psalteryref12_Channel.f (k+1) a0 a1):=by
 intro a0 a1 k
 obtain ⟨ih0,ih1⟩:=psalteryref12_Channel.mono_l k
 unfold psalteryref12_Channel.f
 repeat' with_reducible first|apply ih0|apply ih1|apply psalteryref10_Width.mono|apply psalteryref12_May.mono|apply yLr|apply yLn|apply yLi|apply yLb|intro _
set_option maxHeartbeats 8000000 in
set_option maxRecDepth 100000 in
theorem psalteryref12_Channel.calls (k : Nat) (A0 : Option Addr) (c0 : Nat) (l0 : List Int) (a1 : Int) (r : List Int) (w : World) (hr0 : Kd.C (Kd.int .i64) w A0 l0.length l0) (hc0 : l0.length≤c0) (h : psalteryref12_Channel.f k l0 a1=some r) :
  Calls Try.prog 97 #[.slice A0 l0.length c0, .int .i64 a1] w fun e w' => ∃ v0_ : Value,e=.returned (v0_)∧Kd.R (Kd.int .i64) 3 w' w.heap.size (fun _=>True) v0_ r∧Below w.heap.size w w' := by
 have HR0:=zm hr0;have HC0:=zm hc0;clear hr0 hc0;have HB:=zm (Below.refl w.heap.size w)
 have H : (psalteryref12_Channel.l0 k l0 a1 (([0,0,0,0,0] : List Int)))=some r:=h
 clear h
 obtain ⟨y450,hy450⟩ : ∃ y_ : List Int,y_=(([0,0,0,0,0] : List Int)):=⟨_,rfl⟩
 replace H : (psalteryref12_Channel.l0 k l0 a1 y450)=some r:=yrw hy450 H
 have Ny450:=zm hy450;clear hy450
 have H' := zm H
 clear H
 go_enter Try.func97,Try.ntmps97
 go_wp2_with (first|((with_reducible refine gate_dst (N:=10) rfl ?_);refine Kd.R_lit (Kd.int .i64) _ 3 ?hg (N:=10) ?hd (xs:=([0,0,0,0,0] : List Int)) (inner := [.int .i64 0, .int .i64 0, .int .i64 0, .int .i64 0, .int .i64 0]) (ok:=fun _=>True) (okp:=fun _=>True) ?hr ?hp (fun _ hk=>hk) trivial (Below.refl _ _) (Nat.le_refl _) (by simp) ?_;(case hd=>rfl);(case hg=>rfl);(case hr=>first|(go_simp;done)|(go_simp;rfl));(case hp=>exact (Reps.one (show Kd.M (Kd.int .i64) _ _ _ 0 [.int .i64 0] from rfl) (Reps.one (show Kd.M (Kd.int .i64) _ _ _ 0 [.int .i64 0] from rfl) (Reps.one (show Kd.M (Kd.int .i64) _ _ _ 0 [.int .i64 0] from rfl) (Reps.one (show Kd.M (Kd.int .i64) _ _ _ 0 [.int .i64 0] from rfl) (Reps.one (show Kd.M (Kd.int .i64) _ _ _ 0 [.int .i64 0] from rfl) (Reps.none _ _)))))));intro v451 w3 ho4 hb hg_ hnew_;clear hg_ hnew_;(first|rw [← Ny450.out] at ho4|(simp only [Int.reduceToNat] at ho4;rw [← Ny450.out] at ho4));have HO452:=zm (Kd.R_lower ho4 (zE yhb));replace HB:=ybs hb;clear hb ho4))
 repeat (go_quiet (first|((with_reducible refine gate_dst (N:=10) rfl ?_);refine Kd.R_lit (Kd.int .i64) _ 3 ?hg (N:=10) ?hd (xs:=([0,0,0,0,0] : List Int)) (inner := [.int .i64 0, .int .i64 0, .int .i64 0, .int .i64 0, .int .i64 0]) (ok:=fun _=>True) (okp:=fun _=>True) ?hr ?hp (fun _ hk=>hk) trivial (Below.refl _ _) (Nat.le_refl _) (by simp) ?_;(case hd=>rfl);(case hg=>rfl);(case hr=>first|(go_simp;done)|(go_simp;rfl));(case hp=>exact (Reps.one (show Kd.M (Kd.int .i64) _ _ _ 0 [.int .i64 0] from rfl) (Reps.one (show Kd.M (Kd.int .i64) _ _ _ 0 [.int .i64 0] from rfl) (Reps.one (show Kd.M (Kd.int .i64) _ _ _ 0 [.int .i64 0] from rfl) (Reps.one (show Kd.M (Kd.int .i64) _ _ _ 0 [.int .i64 0] from rfl) (Reps.one (show Kd.M (Kd.int .i64) _ _ _ 0 [.int .i64 0] from rfl) (Reps.none _ _)))))));intro v451 w3 ho4 hb hg_ hnew_;clear hg_ hnew_;(first|rw [← Ny450.out] at ho4|(simp only [Int.reduceToNat] at ho4;rw [← Ny450.out] at ho4));have HO452:=zm (Kd.R_lower ho4 (zE yhb));replace HB:=ybs hb;clear hb ho4));try go_wp2_with (first|((with_reducible refine gate_dst (N:=10) rfl ?_);refine Kd.R_lit (Kd.int .i64) _ 3 ?hg (N:=10) ?hd (xs:=([0,0,0,0,0] : List Int)) (inner := [.int .i64 0, .int .i64 0, .int .i64 0, .int .i64 0, .int .i64 0]) (ok:=fun _=>True) (okp:=fun _=>True) ?hr ?hp (fun _ hk=>hk) trivial (Below.refl _ _) (Nat.le_refl _) (by simp) ?_;(case hd=>rfl);(case hg=>rfl);(case hr=>first|(go_simp;done)|(go_simp;rfl));(case hp=>exact (Reps.one (show Kd.M (Kd.int .i64) _ _ _ 0 [.int .i64 0] from rfl) (Reps.one (show Kd.M (Kd.int .i64) _ _ _ 0 [.int .i64 0] from rfl) (Reps.one (show Kd.M (Kd.int .i64) _ _ _ 0 [.int .i64 0] from rfl) (Reps.one (show Kd.M (Kd.int .i64) _ _ _ 0 [.int .i64 0] from rfl) (Reps.one (show Kd.M (Kd.int .i64) _ _ _ 0 [.int .i64 0] from rfl) (Reps.none _ _)))))));intro v451 w3 ho4 hb hg_ hnew_;clear hg_ hnew_;(first|rw [← Ny450.out] at ho4|(simp only [Int.reduceToNat] at ho4;rw [← Ny450.out] at ho4));have HO452:=zm (Kd.R_lower ho4 (zE yhb));replace HB:=ybs hb;clear hb ho4)))
 go_loopg [5] k (fun kq v5 w' => ∃ (x5_1 : List Int),Aside0 (psalteryref12_Channel.l0 kq l0 a1 x5_1=some r)∧Aside0 (kq≤k)∧Aside0 (Kd.R (Kd.int .i64) 3 w' w.heap.size (fun _=>True) v5 x5_1)∧Aside0 (Below w.heap.size w w'))
 case atStart=>exact ⟨(y450),H',⟨Nat.le_refl _⟩,⟨yr HO452⟩,⟨yhb⟩⟩
 case round =>
  clear H'
  obtain ⟨x5_1,HA,HK1,HO_5,HB⟩:=hrel
  obtain ⟨k1,rfl⟩:=ysu gk (fun h=>by subst h;exact absurd HA.out (by simp [psalteryref12_Channel.l0]))
  have H:=HA.out;clear HA
  simp only [psalteryref12_Channel.l0] at H
  have H' := zm H
  clear H
  go_wp2
  repeat (go_quiet (fail);try go_wp2)
  go_loopg [6,7,8] k1 (fun kq v6 v7 v8 w' => ∃ (x6_2 : Int) (x7_2 : Int) (x8_2 : Int),v6=.int .i64 x6_2∧v7=.int .i64 x7_2∧v8=.int .i64 x8_2∧Aside0 (psalteryref12_Channel.l1 kq l0 a1 x5_1 x6_2 x7_2 x8_2=some r)∧Aside0 (kq≤k1)∧Aside0 (Kd.R (Kd.int .i64) 3 w' w.heap.size (fun _=>True) u5 x5_1)∧Aside0 (Below w.heap.size w w'))
  case atStart=>exact ⟨((-1)),(0),(0),yq,yq,yq,H',⟨Nat.le_refl _⟩,⟨yr HO_5⟩,⟨yhb⟩⟩
  case round =>
   clear H'
   obtain ⟨x6_2,x7_2,x8_2,rfl,rfl,rfl,HA,HK2,HO_5,HB⟩:=hrel
   obtain ⟨k2,rfl⟩:=ysu gk (fun h=>by subst h;exact absurd HA.out (by simp [psalteryref12_Channel.l1]))
   have H:=HA.out;clear HA
   simp only [psalteryref12_Channel.l1] at H
   by_cases c5 : x8_2 < 5
   ·
    rw [if_pos c5] at H
    have c5b0 : decide (x8_2 < 5)=true:=decide_eq_true c5
    clear c5
    replace H:=yif H;obtain ⟨c6,H⟩:=H
    have c6b0 : decide (0≤x8_2)=true:=decide_eq_true c6
    clear c6
    replace H:=yif H;obtain ⟨c7,H⟩:=H
    have c7b0 : decide (x8_2 < (l0.length : Int))=true:=decide_eq_true c7
    clear c7
    replace H:=yif H;obtain ⟨c8,H⟩:=H
    have c8b0 : decide (x8_2 < (x5_1.length : Int))=true:=decide_eq_true c8
    clear c8
    replace H:=ybi H;obtain ⟨t458,A9,H⟩:=H
    replace H:=yie H;obtain ⟨c10,H⟩:=H
    have c10b0 : (t458 == 0)=false:=beq_eq_false_iff_ne.mpr c10
    have c10b1 : (t458 != 0)=true:=bne_iff_ne.mpr c10
    replace H:=ybi H;obtain ⟨t459,A11,H⟩:=H
    by_cases c12 : t459=true
    ·
     subst c12
     rw [if_pos rfl] at H
     by_cases c13 : x6_2 < 0
     ·
      rw [if_pos c13] at H
      have c13b0 : decide (x6_2 < 0)=true:=decide_eq_true c13
      clear c13
      have H' := zm H
      clear H
      have p456 : 0≤(x8_2 : Int):=yt
      have q456 : x8_2 < (l0.length : Int):=yt
      obtain ⟨ad456,e456,hx456_0⟩:=Kd.at_int HR0.out x8_2 p456 q456
      cases e456
      replace hx456_0:=yhx HB hx456_0
      replace p456:=eq_true p456
      replace q456:=eq_true q456
      obtain ⟨Ao14,co14,eo14⟩:=Kd.R_slice HO_5.out
      subst eo14
      have p457 : 0≤(x8_2 : Int):=yt
      have q457 : x8_2 < (x5_1.length : Int):=yt
      obtain ⟨ad457,e457,hx457_0⟩:=Kd.at_int (Kd.R_reads' HO_5.out).2.2 x8_2 p457 q457
      cases e457
      replace p457:=eq_true p457
      replace q457:=eq_true q457
      go_wp2_with (first|(go_at_call 65;(with_reducible refine (psalteryref10_Width.calls k2 x8_2 t458 _ A9.out).mono ?_);rintro e w' ⟨rfl,⟨nd,rfl⟩⟩;(try exact yww))|(go_at_call 118;(with_reducible refine (psalteryref12_May.calls k2 _ _ l0 _ _ x5_1 x8_2 a1 true _ ?side1 HC0.out ?side3 ?side4 A11.out).mono ?_);(case side1=>exact ycb HR0);(case side3=>exact yce (Kd.R_reads' HO_5.out).2.2);(case side4=>exact (Kd.R_reads' HO_5.out).2.1);rintro e w15 ⟨rfl,hb⟩;replace HO_5:=yRb HO_5 hb;replace HB:=ybs hb;(try clear hb)))
      repeat (go_quiet (first|(go_at_call 65;(with_reducible refine (psalteryref10_Width.calls k2 x8_2 t458 _ A9.out).mono ?_);rintro e w' ⟨rfl,⟨nd,rfl⟩⟩;(try exact yww))|(go_at_call 118;(with_reducible refine (psalteryref12_May.calls k2 _ _ l0 _ _ x5_1 x8_2 a1 true _ ?side1 HC0.out ?side3 ?side4 A11.out).mono ?_);(case side1=>exact ycb HR0);(case side3=>exact yce (Kd.R_reads' HO_5.out).2.2);(case side4=>exact (Kd.R_reads' HO_5.out).2.1);rintro e w15 ⟨rfl,hb⟩;replace HO_5:=yRb HO_5 hb;replace HB:=ybs hb;(try clear hb)));try go_wp2_with (first|(go_at_call 65;(with_reducible refine (psalteryref10_Width.calls k2 x8_2 t458 _ A9.out).mono ?_);rintro e w' ⟨rfl,⟨nd,rfl⟩⟩;(try exact yww))|(go_at_call 118;(with_reducible refine (psalteryref12_May.calls k2 _ _ l0 _ _ x5_1 x8_2 a1 true _ ?side1 HC0.out ?side3 ?side4 A11.out).mono ?_);(case side1=>exact ycb HR0);(case side3=>exact yce (Kd.R_reads' HO_5.out).2.2);(case side4=>exact (Kd.R_reads' HO_5.out).2.1);rintro e w15 ⟨rfl,hb⟩;replace HO_5:=yRb HO_5 hb;replace HB:=ybs hb;(try clear hb))))
      go_roundg k2
      case measure=>exact yom2 HK1 HK2
      case rel=>exact ⟨(x8_2),(wrap64 ((wrap64 (8 * (rd l0 x8_2))) - (wrap64 (Int.tdiv (wrap64 (16 * (rd x5_1 x8_2))) t458)))),(wrap64 (x8_2+1)),yq,yq,yq,H',⟨yom2 HK1 HK2⟩,⟨yr HO_5⟩,⟨yhb⟩⟩
     ·
      rw [if_neg c13] at H
      have c13b0 : decide (x6_2 < 0)=false:=decide_eq_false c13
      clear c13
      by_cases c16 : (wrap64 ((wrap64 (8 * (rd l0 x8_2))) - (wrap64 (Int.tdiv (wrap64 (16 * (rd x5_1 x8_2))) t458)))) > x7_2
      ·
       rw [if_pos c16] at H
       have c16b0 : decide (x7_2 < (wrap64 ((wrap64 (8 * (rd l0 x8_2))) - (wrap64 (Int.tdiv (wrap64 (16 * (rd x5_1 x8_2))) t458)))))=true:=decide_eq_true c16
       clear c16
       have H' := zm H
       clear H
       have p456 : 0≤(x8_2 : Int):=yt
       have q456 : x8_2 < (l0.length : Int):=yt
       obtain ⟨ad456,e456,hx456_0⟩:=Kd.at_int HR0.out x8_2 p456 q456
       cases e456
       replace hx456_0:=yhx HB hx456_0
       replace p456:=eq_true p456
       replace q456:=eq_true q456
       obtain ⟨Ao17,co17,eo17⟩:=Kd.R_slice HO_5.out
       subst eo17
       have p457 : 0≤(x8_2 : Int):=yt
       have q457 : x8_2 < (x5_1.length : Int):=yt
       obtain ⟨ad457,e457,hx457_0⟩:=Kd.at_int (Kd.R_reads' HO_5.out).2.2 x8_2 p457 q457
       cases e457
       replace p457:=eq_true p457
       replace q457:=eq_true q457
       go_wp2_with (first|(go_at_call 65;(with_reducible refine (psalteryref10_Width.calls k2 x8_2 t458 _ A9.out).mono ?_);rintro e w' ⟨rfl,⟨nd,rfl⟩⟩;(try exact yww))|(go_at_call 118;(with_reducible refine (psalteryref12_May.calls k2 _ _ l0 _ _ x5_1 x8_2 a1 true _ ?side1 HC0.out ?side3 ?side4 A11.out).mono ?_);(case side1=>exact ycb HR0);(case side3=>exact yce (Kd.R_reads' HO_5.out).2.2);(case side4=>exact (Kd.R_reads' HO_5.out).2.1);rintro e w18 ⟨rfl,hb⟩;replace HO_5:=yRb HO_5 hb;replace HB:=ybs hb;(try clear hb)))
       repeat (go_quiet (first|(go_at_call 65;(with_reducible refine (psalteryref10_Width.calls k2 x8_2 t458 _ A9.out).mono ?_);rintro e w' ⟨rfl,⟨nd,rfl⟩⟩;(try exact yww))|(go_at_call 118;(with_reducible refine (psalteryref12_May.calls k2 _ _ l0 _ _ x5_1 x8_2 a1 true _ ?side1 HC0.out ?side3 ?side4 A11.out).mono ?_);(case side1=>exact ycb HR0);(case side3=>exact yce (Kd.R_reads' HO_5.out).2.2);(case side4=>exact (Kd.R_reads' HO_5.out).2.1);rintro e w18 ⟨rfl,hb⟩;replace HO_5:=yRb HO_5 hb;replace HB:=ybs hb;(try clear hb)));try go_wp2_with (first|(go_at_call 65;(with_reducible refine (psalteryref10_Width.calls k2 x8_2 t458 _ A9.out).mono ?_);rintro e w' ⟨rfl,⟨nd,rfl⟩⟩;(try exact yww))|(go_at_call 118;(with_reducible refine (psalteryref12_May.calls k2 _ _ l0 _ _ x5_1 x8_2 a1 true _ ?side1 HC0.out ?side3 ?side4 A11.out).mono ?_);(case side1=>exact ycb HR0);(case side3=>exact yce (Kd.R_reads' HO_5.out).2.2);(case side4=>exact (Kd.R_reads' HO_5.out).2.1);rintro e w18 ⟨rfl,hb⟩;replace HO_5:=yRb HO_5 hb;replace HB:=ybs hb;(try clear hb))))
       go_roundg k2
       case measure=>exact yom2 HK1 HK2
       case rel=>exact ⟨(x8_2),(wrap64 ((wrap64 (8 * (rd l0 x8_2))) - (wrap64 (Int.tdiv (wrap64 (16 * (rd x5_1 x8_2))) t458)))),(wrap64 (x8_2+1)),yq,yq,yq,H',⟨yom2 HK1 HK2⟩,⟨yr HO_5⟩,⟨yhb⟩⟩
      ·
       rw [if_neg c16] at H
       have c16b0 : decide (x7_2 < (wrap64 ((wrap64 (8 * (rd l0 x8_2))) - (wrap64 (Int.tdiv (wrap64 (16 * (rd x5_1 x8_2))) t458)))))=false:=decide_eq_false c16
       clear c16
       have H' := zm H
       clear H
       have p456 : 0≤(x8_2 : Int):=yt
       have q456 : x8_2 < (l0.length : Int):=yt
       obtain ⟨ad456,e456,hx456_0⟩:=Kd.at_int HR0.out x8_2 p456 q456
       cases e456
       replace hx456_0:=yhx HB hx456_0
       replace p456:=eq_true p456
       replace q456:=eq_true q456
       obtain ⟨Ao19,co19,eo19⟩:=Kd.R_slice HO_5.out
       subst eo19
       have p457 : 0≤(x8_2 : Int):=yt
       have q457 : x8_2 < (x5_1.length : Int):=yt
       obtain ⟨ad457,e457,hx457_0⟩:=Kd.at_int (Kd.R_reads' HO_5.out).2.2 x8_2 p457 q457
       cases e457
       replace p457:=eq_true p457
       replace q457:=eq_true q457
       go_wp2_with (first|(go_at_call 65;(with_reducible refine (psalteryref10_Width.calls k2 x8_2 t458 _ A9.out).mono ?_);rintro e w' ⟨rfl,⟨nd,rfl⟩⟩;(try exact yww))|(go_at_call 118;(with_reducible refine (psalteryref12_May.calls k2 _ _ l0 _ _ x5_1 x8_2 a1 true _ ?side1 HC0.out ?side3 ?side4 A11.out).mono ?_);(case side1=>exact ycb HR0);(case side3=>exact yce (Kd.R_reads' HO_5.out).2.2);(case side4=>exact (Kd.R_reads' HO_5.out).2.1);rintro e w20 ⟨rfl,hb⟩;replace HO_5:=yRb HO_5 hb;replace HB:=ybs hb;(try clear hb)))
       repeat (go_quiet (first|(go_at_call 65;(with_reducible refine (psalteryref10_Width.calls k2 x8_2 t458 _ A9.out).mono ?_);rintro e w' ⟨rfl,⟨nd,rfl⟩⟩;(try exact yww))|(go_at_call 118;(with_reducible refine (psalteryref12_May.calls k2 _ _ l0 _ _ x5_1 x8_2 a1 true _ ?side1 HC0.out ?side3 ?side4 A11.out).mono ?_);(case side1=>exact ycb HR0);(case side3=>exact yce (Kd.R_reads' HO_5.out).2.2);(case side4=>exact (Kd.R_reads' HO_5.out).2.1);rintro e w20 ⟨rfl,hb⟩;replace HO_5:=yRb HO_5 hb;replace HB:=ybs hb;(try clear hb)));try go_wp2_with (first|(go_at_call 65;(with_reducible refine (psalteryref10_Width.calls k2 x8_2 t458 _ A9.out).mono ?_);rintro e w' ⟨rfl,⟨nd,rfl⟩⟩;(try exact yww))|(go_at_call 118;(with_reducible refine (psalteryref12_May.calls k2 _ _ l0 _ _ x5_1 x8_2 a1 true _ ?side1 HC0.out ?side3 ?side4 A11.out).mono ?_);(case side1=>exact ycb HR0);(case side3=>exact yce (Kd.R_reads' HO_5.out).2.2);(case side4=>exact (Kd.R_reads' HO_5.out).2.1);rintro e w20 ⟨rfl,hb⟩;replace HO_5:=yRb HO_5 hb;replace HB:=ybs hb;(try clear hb))))
       go_roundg k2
       case measure=>exact yom2 HK1 HK2
       case rel=>exact ⟨(x6_2),(x7_2),(wrap64 (x8_2+1)),yq,yq,yq,H',⟨yom2 HK1 HK2⟩,⟨yr HO_5⟩,⟨yhb⟩⟩
    ·
     replace c12:=Bool.eq_false_iff.mpr c12
     subst c12
     rw [ynf] at H
     have H' := zm H
     clear H
     have p456 : 0≤(x8_2 : Int):=yt
     have q456 : x8_2 < (l0.length : Int):=yt
     obtain ⟨ad456,e456,hx456_0⟩:=Kd.at_int HR0.out x8_2 p456 q456
     cases e456
     replace hx456_0:=yhx HB hx456_0
     replace p456:=eq_true p456
     replace q456:=eq_true q456
     obtain ⟨Ao21,co21,eo21⟩:=Kd.R_slice HO_5.out
     subst eo21
     have p457 : 0≤(x8_2 : Int):=yt
     have q457 : x8_2 < (x5_1.length : Int):=yt
     obtain ⟨ad457,e457,hx457_0⟩:=Kd.at_int (Kd.R_reads' HO_5.out).2.2 x8_2 p457 q457
     cases e457
     replace p457:=eq_true p457
     replace q457:=eq_true q457
     go_wp2_with (first|(go_at_call 65;(with_reducible refine (psalteryref10_Width.calls k2 x8_2 t458 _ A9.out).mono ?_);rintro e w' ⟨rfl,⟨nd,rfl⟩⟩;(try exact yww))|(go_at_call 118;(with_reducible refine (psalteryref12_May.calls k2 _ _ l0 _ _ x5_1 x8_2 a1 false _ ?side1 HC0.out ?side3 ?side4 A11.out).mono ?_);(case side1=>exact ycb HR0);(case side3=>exact yce (Kd.R_reads' HO_5.out).2.2);(case side4=>exact (Kd.R_reads' HO_5.out).2.1);rintro e w22 ⟨rfl,hb⟩;replace HO_5:=yRb HO_5 hb;replace HB:=ybs hb;(try clear hb)))
     repeat (go_quiet (first|(go_at_call 65;(with_reducible refine (psalteryref10_Width.calls k2 x8_2 t458 _ A9.out).mono ?_);rintro e w' ⟨rfl,⟨nd,rfl⟩⟩;(try exact yww))|(go_at_call 118;(with_reducible refine (psalteryref12_May.calls k2 _ _ l0 _ _ x5_1 x8_2 a1 false _ ?side1 HC0.out ?side3 ?side4 A11.out).mono ?_);(case side1=>exact ycb HR0);(case side3=>exact yce (Kd.R_reads' HO_5.out).2.2);(case side4=>exact (Kd.R_reads' HO_5.out).2.1);rintro e w22 ⟨rfl,hb⟩;replace HO_5:=yRb HO_5 hb;replace HB:=ybs hb;(try clear hb)));try go_wp2_with (first|(go_at_call 65;(with_reducible refine (psalteryref10_Width.calls k2 x8_2 t458 _ A9.out).mono ?_);rintro e w' ⟨rfl,⟨nd,rfl⟩⟩;(try exact yww))|(go_at_call 118;(with_reducible refine (psalteryref12_May.calls k2 _ _ l0 _ _ x5_1 x8_2 a1 false _ ?side1 HC0.out ?side3 ?side4 A11.out).mono ?_);(case side1=>exact ycb HR0);(case side3=>exact yce (Kd.R_reads' HO_5.out).2.2);(case side4=>exact (Kd.R_reads' HO_5.out).2.1);rintro e w22 ⟨rfl,hb⟩;replace HO_5:=yRb HO_5 hb;replace HB:=ybs hb;(try clear hb))))
     go_roundg k2
     case measure=>exact yom2 HK1 HK2
     case rel=>exact ⟨(x6_2),(x7_2),(wrap64 (x8_2+1)),yq,yq,yq,H',⟨yom2 HK1 HK2⟩,⟨yr HO_5⟩,⟨yhb⟩⟩
   ·
    rw [if_neg c5] at H
    have c5b0 : decide (x8_2 < 5)=false:=decide_eq_false c5
    clear c5
    by_cases c23 : x6_2 < 0
    ·
     rw [if_pos c23] at H
     have c23b0 : decide (x6_2 < 0)=true:=decide_eq_true c23
     clear c23
     obtain rfl:=Option.some.inj H
     go_wp2
     repeat (go_quiet (fail);try go_wp2)
     go_ret
     exact ⟨_,ye,yr HO_5,yhb⟩
    ·
     rw [if_neg c23] at H
     have c23b0 : decide (x6_2 < 0)=false:=decide_eq_false c23
     clear c23
     replace H:=ybi H;obtain ⟨t453,A24,H⟩:=H
     have H' := zm H
     clear H
     obtain ⟨Ao25,co25,eo25⟩:=Kd.R_slice HO_5.out
     subst eo25
     go_wp2_with (first|(go_at_call 119;(with_reducible refine (psalteryref12_More.calls _ _ x5_1 x6_2 t453 _ ?side1 ?side2 A24.out).mono ?_);(case side1=>exact yce (Kd.R_reads' HO_5.out).2.2);(case side2=>exact (Kd.R_reads' HO_5.out).2.1);rintro e w26 ⟨v454,rfl,ho0,hb⟩;have HO455:=zm (Kd.R_lower (Kd.R_new' ho0 (Kd.R_lt (yr HO_5))) (zE yhb));replace HO_5:=zm (Kd.R_elder' (yr HO_5) (Kd.R_base ho0) hb);replace HB:=ybs hb;(try clear hb);(try clear ho0)))
     repeat (go_quiet (first|(go_at_call 119;(with_reducible refine (psalteryref12_More.calls _ _ x5_1 x6_2 t453 _ ?side1 ?side2 A24.out).mono ?_);(case side1=>exact yce (Kd.R_reads' HO_5.out).2.2);(case side2=>exact (Kd.R_reads' HO_5.out).2.1);rintro e w26 ⟨v454,rfl,ho0,hb⟩;have HO455:=zm (Kd.R_lower (Kd.R_new' ho0 (Kd.R_lt (yr HO_5))) (zE yhb));replace HO_5:=zm (Kd.R_elder' (yr HO_5) (Kd.R_base ho0) hb);replace HB:=ybs hb;(try clear hb);(try clear ho0)));try go_wp2_with (first|(go_at_call 119;(with_reducible refine (psalteryref12_More.calls _ _ x5_1 x6_2 t453 _ ?side1 ?side2 A24.out).mono ?_);(case side1=>exact yce (Kd.R_reads' HO_5.out).2.2);(case side2=>exact (Kd.R_reads' HO_5.out).2.1);rintro e w26 ⟨v454,rfl,ho0,hb⟩;have HO455:=zm (Kd.R_lower (Kd.R_new' ho0 (Kd.R_lt (yr HO_5))) (zE yhb));replace HO_5:=zm (Kd.R_elder' (yr HO_5) (Kd.R_base ho0) hb);replace HB:=ybs hb;(try clear hb);(try clear ho0))))
     go_roundg k2
     case measure=>exact yom2 HK1 HK2
     case rel=>exact ⟨(t453),H',⟨yom2 HK1 HK2⟩,⟨yR0 HO455⟩,⟨yhb⟩⟩
def psalteryref12_Right.f (a0 : Int) (a1 : Int) : Option (Bool):=if a0≤60 then (if a1=1 then (if a0 ≥ 11 then (some true) else (if a1=2 then (some (decide (a0 ≥ 17))) else (some false))) else (if a1=2 then (some (decide (a0 ≥ 17))) else (some false))) else (some false)
set_option maxHeartbeats 8000000 in
set_option maxRecDepth 100000 in
theorem psalteryref12_Right.calls (a0 : Int) (a1 : Int) (r : Bool) (w : World) (h : psalteryref12_Right.f a0 a1=some r) :
  Calls Try.prog 40 #[.int .i64 a0, .int .i64 a1] w fun e w' => e=.returned (.bool r)∧Drawn0 w w' := by
 have H : (if a0≤60 then (if a1=1 then (if a0 ≥ 11 then (some true) else (if a1=2 then (some (decide (a0 ≥ 17))) else (some false))) else (if a1=2 then (some (decide (a0 ≥ 17))) else (some false))) else (some false))=some r:=h
 clear h
 by_cases c3 : a0≤60
 ·
  rw [if_pos c3] at H
  have c3b0 : decide (a0≤60)=true:=decide_eq_true c3
  clear c3
  by_cases c4 : a1=1
  ·
   rw [if_pos c4] at H
   have c4b0 : (a1 == 1)=true:=beq_iff_eq.mpr c4
   have c4b1 : (a1 != 1)=false:=bne_eq_false_iff_eq.mpr c4
   clear c4
   by_cases c5 : a0 ≥ 11
   ·
    rw [if_pos c5] at H
    have c5b0 : decide (11≤a0)=true:=decide_eq_true c5
    clear c5
    obtain rfl:=Option.some.inj H
    go_enter Try.func40,Try.ntmps40
    go_wp2
    go_ret
    exact ⟨yq,yd⟩
   ·
    rw [if_neg c5] at H
    have c5b0 : decide (11≤a0)=false:=decide_eq_false c5
    clear c5
    by_cases c6 : a1=2
    ·
     rw [if_pos c6] at H
     have c6b0 : (a1 == 2)=true:=beq_iff_eq.mpr c6
     have c6b1 : (a1 != 2)=false:=bne_eq_false_iff_eq.mpr c6
     clear c6
     obtain rfl:=Option.some.inj H
     go_enter Try.func40,Try.ntmps40
     go_wp2
     go_ret
     exact ⟨yq,yd⟩
    ·
     rw [if_neg c6] at H
     have c6b0 : (a1 == 2)=false:=beq_eq_false_iff_ne.mpr c6
     have c6b1 : (a1 != 2)=true:=bne_iff_ne.mpr c6
     obtain rfl:=Option.some.inj H
     go_enter Try.func40,Try.ntmps40
     go_wp2
     go_ret
     exact ⟨yq,yd⟩
  ·
   rw [if_neg c4] at H
   have c4b0 : (a1 == 1)=false:=beq_eq_false_iff_ne.mpr c4
   have c4b1 : (a1 != 1)=true:=bne_iff_ne.mpr c4
   by_cases c7 : a1=2
   ·
    rw [if_pos c7] at H
    have c7b0 : (a1 == 2)=true:=beq_iff_eq.mpr c7
    have c7b1 : (a1 != 2)=false:=bne_eq_false_iff_eq.mpr c7
    clear c7
    obtain rfl:=Option.some.inj H
    go_enter Try.func40,Try.ntmps40
    go_wp2
    go_ret
    exact ⟨yq,yd⟩
   ·
    rw [if_neg c7] at H
    have c7b0 : (a1 == 2)=false:=beq_eq_false_iff_ne.mpr c7
    have c7b1 : (a1 != 2)=true:=bne_iff_ne.mpr c7
    obtain rfl:=Option.some.inj H
    go_enter Try.func40,Try.ntmps40
    go_wp2
    go_ret
    exact ⟨yq,yd⟩
 ·
  rw [if_neg c3] at H
  have c3b0 : decide (a0≤60)=false:=decide_eq_false c3
  clear c3
  obtain rfl:=Option.some.inj H
  go_enter Try.func40,Try.ntmps40
  go_wp2
  go_ret
  exact ⟨yq,yd⟩
def psalteryref12_Room.f (a0 : Int) (a1 : Int) : Option (Int):=(psalteryref12_Right.f a0 a1).bind fun t460=>(if t460=true then (if a1=1 then (some (wrap64 ((wrap64 (8 * a0)) - 86))) else (some (wrap64 (Int.tdiv (wrap64 ((wrap64 (8 * a0)) - 131)) 2)))) else (some 0))
set_option maxHeartbeats 8000000 in
set_option maxRecDepth 100000 in
theorem psalteryref12_Room.calls (a0 : Int) (a1 : Int) (r : Int) (w : World) (h : psalteryref12_Room.f a0 a1=some r) :
  Calls Try.prog 98 #[.int .i64 a0, .int .i64 a1] w fun e w' => e=.returned (.int .i64 r)∧Drawn0 w w' := by
 have H : ((psalteryref12_Right.f a0 a1).bind fun t460=>(if t460=true then (if a1=1 then (some (wrap64 ((wrap64 (8 * a0)) - 86))) else (some (wrap64 (Int.tdiv (wrap64 ((wrap64 (8 * a0)) - 131)) 2)))) else (some 0)))=some r:=h
 clear h
 replace H:=ybi H;obtain ⟨t460,A3,H⟩:=H
 by_cases c4 : t460=true
 ·
  subst c4
  rw [if_pos rfl] at H
  by_cases c5 : a1=1
  ·
   rw [if_pos c5] at H
   have c5b0 : (a1 == 1)=true:=beq_iff_eq.mpr c5
   have c5b1 : (a1 != 1)=false:=bne_eq_false_iff_eq.mpr c5
   clear c5
   obtain rfl:=Option.some.inj H
   go_enter Try.func98,Try.ntmps98
   go_wp2_with (first|((with_reducible refine gate_callee (f:=40) rfl ?_);refine ygl 7 Try.func40 #[.int .i64 a0, .int .i64 a1] ?_;(with_reducible refine (psalteryref12_Right.calls a0 a1 true _ A3.out).mono ?_);rintro e w' ⟨rfl,⟨nd,rfl⟩⟩;refine ⟨_,rfl, ?_⟩))
   go_ret
   exact ⟨yq,yd⟩
  ·
   rw [if_neg c5] at H
   have c5b0 : (a1 == 1)=false:=beq_eq_false_iff_ne.mpr c5
   have c5b1 : (a1 != 1)=true:=bne_iff_ne.mpr c5
   obtain rfl:=Option.some.inj H
   go_enter Try.func98,Try.ntmps98
   go_wp2_with (first|((with_reducible refine gate_callee (f:=40) rfl ?_);refine ygl 7 Try.func40 #[.int .i64 a0, .int .i64 a1] ?_;(with_reducible refine (psalteryref12_Right.calls a0 a1 true _ A3.out).mono ?_);rintro e w' ⟨rfl,⟨nd,rfl⟩⟩;refine ⟨_,rfl, ?_⟩))
   go_ret
   exact ⟨yq,yd⟩
 ·
  replace c4:=Bool.eq_false_iff.mpr c4
  subst c4
  rw [ynf] at H
  obtain rfl:=Option.some.inj H
  go_enter Try.func98,Try.ntmps98
  go_wp2_with (first|((with_reducible refine gate_callee (f:=40) rfl ?_);refine ygl 7 Try.func40 #[.int .i64 a0, .int .i64 a1] ?_;(with_reducible refine (psalteryref12_Right.calls a0 a1 false _ A3.out).mono ?_);rintro e w' ⟨rfl,⟨nd,rfl⟩⟩;refine ⟨_,rfl, ?_⟩))
  go_ret
  exact ⟨yq,yd⟩
def psalteryref12_Pulses.l0 : Nat→Int→Int→List (List Int)→List (List Int)→Int→Option ((List (List Int)))
 | 0,_,_,_,_,_=>none
 | k+1,x0,x1,x2,x7,x8=>if x8 < (x2.length : Int) then (if 0≤x8 then ((psalteryref12_Room.f x0 x1).bind fun t462=>((psalteryref12_Channel.f k (rd_L2 x2 x8) t462).bind fun t463=>(if x7.length < 5864062014805 then (psalteryref12_Pulses.l0 k x0 x1 x2 (x7 ++ [t463]) (wrap64 (x8+1))) else (none)))) else (none)) else (some x7)
def psalteryref12_Pulses.f (k : Nat) (a0 : Int) (a1 : Int) (l2 : List (List Int)) : Option ((List (List Int))):=psalteryref12_Pulses.l0 k a0 a1 l2 ([] : List (List Int)) 0
theorem psalteryref12_Pulses.mono_l : ∀ k,(∀ y0 y1 y2 y3 y4,LeO (psalteryref12_Pulses.l0 k y0 y1 y2 y3 y4) (psalteryref12_Pulses.l0 (k+1) y0 y1 y2 y3 y4))
 | 0=>fun _ _ _ _ _ r h=>by simp [psalteryref12_Pulses.l0] at h
 | k+1=>by
  have ih0:=psalteryref12_Pulses.mono_l k
  ·
   intro y0 y1 y2 y3 y4
   unfold psalteryref12_Pulses.l0
   repeat' with_reducible first|apply ih0|apply psalteryref12_Channel.mono|apply yLr|apply yLn|apply yLi|apply yLb|intro _
theorem psalteryref12_Pulses.mono : ∀ a0 a1 a2 k,LeO (psalteryref12_Pulses.f k a0 a1 a2) (psalteryref12_Pulses.f (k+1) a0 a1 a2):=by
 intro a0 a1 a2 k
 have ih0:=psalteryref12_Pulses.mono_l k
 unfold psalteryref12_Pulses.f
 repeat' with_reducible first|apply ih0|apply psalteryref12_Channel.mono|apply yLr|apply yLn|apply yLi|apply yLb|intro _
def psalteryref12_Pulses.T5 : Bool × List (List Nat × List Nat):=(true, [([], []),([], []),([], []),([1,2], [1,2]),([3], [3]),([], []),([], []),([5,6], [5,6]),([4,7,7], [4,7]),([8], [8]),([0,9,8], [0,9]),([10,10,0,1,2,3,4,5,6,7,8,9,10], [0,10])])
def psalteryref12_Pulses.B5 : List Nat := [0,0,0,6,14,0,0,96,254,510,1023,2047]
theorem psalteryref12_Pulses.tab5 : rtab .any (opsOf Try.f62 5)=psalteryref12_Pulses.T5:=by kernel_rfl
theorem psalteryref12_Pulses.bits5 : waitsOk psalteryref12_Pulses.T5.2 psalteryref12_Pulses.B5=true:=by kernel_rfl
set_option maxHeartbeats 8000000 in
set_option maxRecDepth 100000 in
theorem psalteryref12_Pulses.calls (k : Nat) (a0 : Int) (a1 : Int) (A2 : Option Addr) (c2 : Nat) (l2 : List (List Int)) (r : List (List Int)) (w : World) (hr2 : Kd.C (Kd.slice 3 (Kd.int .i64)) w A2 l2.length l2) (hc2 : l2.length≤c2) (h : psalteryref12_Pulses.f k a0 a1 l2=some r) :
  Calls Try.prog 62 #[.int .i64 a0, .int .i64 a1, .slice A2 l2.length c2] w fun e w' => ∃ v0_ : Value,e=.returned (v0_)∧Kd.S (Kd.slice 3 (Kd.int .i64)) 55 w' w.heap.size (fun _=>True) v0_ r∧Below w.heap.size w w' := by
 have HR2:=zm hr2;have HC2:=zm hc2;clear hr2 hc2;have HB:=zm (Below.refl w.heap.size w)
 have H : (psalteryref12_Pulses.l0 k a0 a1 l2 ([] : List (List Int)) 0)=some r:=h
 clear h
 have H' := zm H
 clear H
 go_enter Try.func62,Try.ntmps62
 go_wp2
 go_loopg [7,8] k (fun kq v7 v8 w' => ∃ (x7_1 : List (List Int)) (x8_1 : Int),v8=.int .i64 x8_1∧Aside0 (psalteryref12_Pulses.l0 kq a0 a1 l2 x7_1 x8_1=some r)∧Aside0 (kq≤k)∧Aside0 (Kd.S (Kd.slice 3 (Kd.int .i64)) 55 w' w.heap.size (fun _=>True) v7 x7_1)∧Aside0 (Below w.heap.size w w'))
 case atStart=>exact ⟨(([] : List (List Int))),(0),yq,H',⟨Nat.le_refl _⟩,⟨yn⟩,⟨yhb⟩⟩
 case round =>
  clear H'
  try clear c2
  obtain ⟨x7_1,x8_1,rfl,HA,HK1,HO_7,HB⟩:=hrel
  obtain ⟨k1,rfl⟩:=ysu gk (fun h=>by subst h;exact absurd HA.out (by simp [psalteryref12_Pulses.l0]))
  have H:=HA.out;clear HA
  simp only [psalteryref12_Pulses.l0] at H
  by_cases c4 : x8_1 < (l2.length : Int)
  ·
   rw [if_pos c4] at H
   have c4b0 : decide (x8_1 < (l2.length : Int))=true:=decide_eq_true c4
   clear c4
   replace H:=yif H;obtain ⟨c5,H⟩:=H
   have c5b0 : decide (0≤x8_1)=true:=decide_eq_true c5
   clear c5
   replace H:=ybi H;obtain ⟨t462,A6,H⟩:=H
   replace H:=ybi H;obtain ⟨t463,A7,H⟩:=H
   replace H:=yif H;obtain ⟨c8,H⟩:=H
   have LMc8:=zm c8;clear c8
   obtain ⟨y466,hy466⟩ : ∃ y_ : List (List Int),y_=(x7_1 ++ [t463]):=⟨_,rfl⟩
   replace H : (psalteryref12_Pulses.l0 k1 a0 a1 l2 y466 (wrap64 (x8_1+1)))=some r:=yrw hy466 H
   have Ny466:=zm hy466;clear hy466
   have H' := zm H
   clear H
   try go_wp2
   replace HO_7:=zm (Kd.S_drew HO_7.out)
   replace HB:=zm (zf HB.out)
   have p461 : 0≤(x8_1 : Int):=yt
   have q461 : x8_1 < (l2.length : Int):=yt
   obtain ⟨ad461,A461_0,c461_0,e461,hx461_0,hl461_0,hi461_0⟩:=at_L2 HR2.out x8_1 p461 q461
   have hw461_0:=hx461_0
   cases e461
   replace hx461_0:=yhx HB hx461_0
   have HR461_0:=zm hi461_0;have HC461_0:=zm hl461_0;clear hi461_0 hl461_0
   replace p461:=eq_true p461
   replace q461:=eq_true q461
   refine start_ (n:=12) (S:=fun w' => w'.cell? (ad461.add (x8_1).toNat)=some (.slice A461_0 (rd_L2 l2 x8_1).length c461_0)) (ds := []) #[false,false,false,false,false,false,false,false,false,false,false,false] (by kernel_rfl) rfl rfl ((yhx HB hw461_0 :)) (fun hHeld => ?_);refine with_tabW psalteryref12_Pulses.tab5 psalteryref12_Pulses.bits5 (fun HT_ HW_ => ?_)
   generalize wr.drew=w9 at HO_7 HB HR461_0 hx461_0 hHeld ⊢
   refine yp 0 15 HT_ ?_
   refine yp 1 16 HT_ ?_
   refine yp 2 17 HT_ ?_
   refine yp 3 18 HT_ ?_
   refine yp 5 20 HT_ ?_
   refine yp 6 21 HT_ ?_
   refine yl 4 19 HT_ HW_ hHeld ?_
   refine yw 7 22 HT_ (fun K hK => ?_)
   refine ygs Try.func98 #[.int .i64 a0, .int .i64 a1] ?_
   with_reducible refine (psalteryref12_Room.calls a0 a1 t462 _ A6.out).mono ?_
   rintro e w' ⟨rfl,⟨nd,rfl⟩⟩
   refine ⟨_,rfl, ?_⟩
   refine hK.out _ _ ((yhx HB hw461_0 :)) (fun hHeld => ?_)
   clear hK K
   refine ym (some 22) ?_
   refine yw 8 23 HT_ (fun K hK => ?_)
   refine ygs Try.func97 #[.slice A461_0 (rd_L2 l2 x8_1).length c461_0, .int .i64 t462] ?_
   with_reducible refine (psalteryref12_Channel.calls k1 _ _ (rd_L2 l2 x8_1) t462 t463 _ ?side1 ?side2 A7.out).mono ?_
   (case side1=>exact ycb HR461_0)
   (case side2=>exact HC461_0.out)
   rintro e w10 ⟨v464,rfl,ho0,hb⟩
   refine ⟨_,rfl, ?_⟩
   replace HO_7:=zm (Kd.S_elder' (yr HO_7) (Kd.R_base ho0) hb)
   have HO465:=zm (Kd.R_lower ho0 (zE yhb))
   replace HB:=ybs hb
   (try clear hb)
   (try clear ho0)
   obtain ⟨Ao12,co12,eo12⟩:=Kd.R_slice HO465.out
   (first|subst eo12|(injection eo12 with f1_ f2_ f3_;have f4_:=f1_.symm;have f5_:=f3_.symm;clear f1_ f2_ f3_;subst f4_;subst f5_))
   refine hK.out _ _ ((yhx HB hw461_0 :)) (fun hHeld => ?_)
   clear hK K
   refine ym (some 23) ?_
   refine yw 9 24 HT_ (fun K hK => ?_)
   refine value_ (w1 := ?_) (v := ?_) (by rfl) rfl ?_ ?_
   rotate_left 2
   ·
    go_simp
    constructor
    ·
     rfl
    ·
     rfl
   refine hK.out _ _ ((World.cell?_alloc_lt _ _ _ (zb _ _ ((yhx HB hw461_0 :)))).trans ((yhx HB hw461_0 :))) (fun hHeld => ?_)
   clear hK K
   refine ym (some 24) ?_
   refine yw 10 25 HT_ (fun K hK => ?_)
   refine Kd.S_append_step (Kd.slice 3 (Kd.int .i64)) (w0:=w) w.heap.size (by rfl) (.tmp 15) (.tmp 24) 25 55 (.slice none 0 0) 24 rfl Try.underlying25 info55 rfl (by decide) (by omega) u7 x7_1 t463 [.slice Ao12 t463.length co12] (fun _=>True) (fun k_=>some k_=(.slice Ao12 t463.length co12 : Value).ownBlock) rfl rfl ?aP (fun k_ hk_=>((zG (ok' := fun k_=>((fun _=>True)) k_∧some k_≠(u7 : Value).ownBlock) (Kd.R_apart' (HO465.out) (Kd.S_typed HO_7.out) (by decide)) (fun k_ hk=>⟨trivial,hk.2⟩))).1 k_ hk_.symm) ?aF ?aO ?aB ?aS ?aL ?_
   (case aP=>exact Kd.M_row (zG (Kd.R_tight rfl (zG (ok' := fun k_=>((fun _=>True)) k_∧some k_≠(u7 : Value).ownBlock) (Kd.R_apart' (HO465.out) (Kd.S_typed HO_7.out) (by decide)) (fun k_ hk=>⟨trivial,hk.2⟩))) (fun _ h_=>h_)))
   (case aB=>exact yhb)
   (case aF=>exact (fun _ _=>trivial))
   (case aO=>exact (yS0 HO_7))
   (case aS=>exact (zE yhb))
   (case aL=>have:=LMc8.out;omega)
   intro v467 w11 ho hb hg hat
   rw [← Ny466.out] at ho
   replace HB:=zm (hb)
   have HO468:=zm (ho);clear HO_7;clear HO465;clear ho hb hg hat
   refine hK.out _ _ ((yhx HB hw461_0 :)) (fun hHeld => ?_)
   clear hK K
   refine ym (some 25) ?_
   refine yp 11 7 HT_ ?_
   refine done_ (done_of HT_.out (by kernel_rfl)) ?_
   try go_wp2
   go_roundg k1
   case measure=>exact yom1 HK1
   case rel=>exact ⟨(y466),(wrap64 (x8_1+1)),yq,H',⟨yom1 HK1⟩,⟨yr HO468⟩,⟨yhb⟩⟩
  ·
   rw [if_neg c4] at H
   have c4b0 : decide (x8_1 < (l2.length : Int))=false:=decide_eq_false c4
   clear c4
   obtain rfl:=Option.some.inj H
   go_wp2
   go_ret
   exact ⟨_,ye,yr HO_7,yhb⟩
mutual
def psalteryref23_Encode.l0 : Nat→Int→Int→Int→List (List Int)→Bool→List (List Int)→Option (Bool × (List (List Int)) × (List (List (List Int))))
 | 0,_,_,_,_,_,_=>none
 | k+1,x0,x1,x10,x496000,x498000,x498001=>if x10 < x1 then (if 0≤x10 then (if x10 < (x496000.length : Int) then ((psalteryref10_Gains.f k (rd_L1 x496000 x10)).bind fun t499=>(if x498001.length < 5864062014805 then (psalteryref23_Encode.l0 k x0 x1 (wrap64 (x10+1)) x496000 x498000 (x498001 ++ [t499])) else (none))) else (none)) else (none)) else ((psalteryref12_Pulses.f k x0 x1 x498001).bind fun t505=>(psalteryref23_Encode.l1 k x1 t505 0 x496000 x498000 x498001 ([] : List (List (List Int)))))
def psalteryref23_Encode.l1 : Nat→Int→List (List Int)→Int→List (List Int)→Bool→List (List Int)→List (List (List Int))→Option (Bool × (List (List Int)) × (List (List (List Int))))
 | 0,_,_,_,_,_,_,_=>none
 | k+1,x1,x11,x12,x496000,x498000,x498001,x498002=>if x12 < x1 then (psalteryref23_Encode.l2 k x1 x11 x12 ([] : List (List Int)) 0 x496000 x498000 x498001 x498002) else (some (x498000,x498001,x498002))
def psalteryref23_Encode.l2 : Nat→Int→List (List Int)→Int→List (List Int)→Int→List (List Int)→Bool→List (List Int)→List (List (List Int))→Option (Bool × (List (List Int)) × (List (List (List Int))))
 | 0,_,_,_,_,_,_,_,_,_=>none
 | k+1,x1,x11,x12,x13,x14,x496000,x498000,x498001,x498002=>if x14 < 5 then (if 0≤x12 then (if x12 < (x496000.length : Int) then ((psalteryref10_Band.f k (rd_L1 x496000 x12) x14).bind fun t509=>(if x12 < (x11.length : Int) then (if 0≤x14 then (if x14 < ((rd_L2 x11 x12).length : Int) then ((psalteryref07_Search.f k t509 (rd (rd_L2 x11 x12) x14)).bind fun t514=>(if x13.length < 5864062014805 then (psalteryref23_Encode.l2 k x1 x11 x12 (x13 ++ [t514]) (wrap64 (x14+1)) x496000 x498000 x498001 x498002) else (none))) else (none)) else (none)) else (none))) else (none)) else (none)) else (if x498002.length < 5864062014805 then (psalteryref23_Encode.l1 k x1 x11 (wrap64 (x12+1)) x496000 x498000 x498001 (x498002 ++ [x13])) else (none))
end
def psalteryref23_Encode.f (k : Nat) (a0 : Int) (a1 : Int) (l2_0 : List (List Int)) (a3 : Bool) : Option (Bool × (List (List Int)) × (List (List (List Int)))):=psalteryref23_Encode.l0 k a0 a1 0 l2_0 a3 ([] : List (List Int))
theorem psalteryref23_Encode.mono_l : ∀ k,(∀ y0 y1 y2 y3 y4 y5,LeO (psalteryref23_Encode.l0 k y0 y1 y2 y3 y4 y5) (psalteryref23_Encode.l0 (k+1) y0 y1 y2 y3 y4 y5))∧(∀ y0 y1 y2 y3 y4 y5 y6,LeO (psalteryref23_Encode.l1 k y0 y1 y2 y3 y4 y5 y6) (psalteryref23_Encode.l1 (k+1) y0 y1 y2 y3 y4 y5 y6))∧(∀ y0 y1 y2 y3 y4 y5 y6 y7 y8,LeO (psalteryref23_Encode.l2 k y0 y1 y2 y3 y4 y5 y6 y7 y8) (psalteryref23_Encode.l2 (k+1) y0 y1 y2 y3 y4 y5 y6 y7 y8))
 | 0=>⟨fun _ _ _ _ _ _ r h=>by simp [psalteryref23_Encode.l0] at h,fun _ _ _ _ _ _ _ r h=>by simp [psalteryref23_Encode.l1] at h,fun _ _ _ _ _ _ _ _ _ r h=>by simp [psalteryref23_Encode.l2] at h⟩
 | k+1=>by
  obtain ⟨ih0,ih1,ih2⟩:=psalteryref23_Encode.mono_l k
  refine ⟨?_, ?_, ?_⟩
  ·
   intro y0 y1 y2 y3 y4 y5
   unfold psalteryref23_Encode.l0
   repeat' with_reducible first|apply ih0|apply ih1|apply ih2|apply psalteryref07_Search.mono|apply psalteryref10_Band.mono|apply psalteryref10_Gains.mono|apply psalteryref12_Pulses.mono|apply yLr|apply yLn|apply yLi|apply yLb|intro _
  ·
   intro y0 y1 y2 y3 y4 y5 y6
   unfold psalteryref23_Encode.l1
   repeat' with_reducible first|apply ih0|apply ih1|apply ih2|apply psalteryref07_Search.mono|apply psalteryref10_Band.mono|apply psalteryref10_Gains.mono|apply psalteryref12_Pulses.mono|apply yLr|apply yLn|apply yLi|apply yLb|intro _
  ·
   intro y0 y1 y2 y3 y4 y5 y6 y7 y8
   unfold psalteryref23_Encode.l2
   repeat' with_reducible first|apply ih0|apply ih1|apply ih2|apply psalteryref07_Search.mono|apply psalteryref10_Band.mono|apply psalteryref10_Gains.mono|apply psalteryref12_Pulses.mono|apply yLr|apply yLn|apply yLi|apply yLb|intro _
theorem psalteryref23_Encode.mono : ∀ a0 a1 a2 a3 k,LeO (psalteryref23_Encode.f k a0 a1 a2 a3) (psalteryref23_Encode.f (k+1) a0 a1 a2 a3):=by
 intro a0 a1 a2 a3 k
 obtain ⟨ih0,ih1,ih2⟩:=psalteryref23_Encode.mono_l k
 unfold psalteryref23_Encode.f
 repeat' with_reducible first|apply ih0|apply ih1|apply ih2|apply psalteryref07_Search.mono|apply psalteryref10_Band.mono|apply psalteryref10_Gains.mono|apply psalteryref12_Pulses.mono|apply yLr|apply yLn|apply yLi|apply yLb|intro _
def psalteryref23_Encode.T5 : Bool × List (List Nat × List Nat):=(true, [([], []),([0], [0]),([], []),([2], [2]),([], []),([3,4], [3,4]),([5], [5]),([6], [6]),([7], [7]),([1,8,7], [1,8]),([0,1,2,3,4,5,6,7,8,9], []),([10,9,9,0,1,2,3,4,5,6,7,8,9], [9,10])])
def psalteryref23_Encode.B5 : List Nat := [0,1,0,4,0,28,60,124,252,511,1023,2047]
theorem psalteryref23_Encode.tab5 : rtab .any (opsOf Try.f21 5)=psalteryref23_Encode.T5:=by kernel_rfl
theorem psalteryref23_Encode.bits5 : waitsOk psalteryref23_Encode.T5.2 psalteryref23_Encode.B5=true:=by kernel_rfl
def psalteryref23_Encode.T14 : Bool × List (List Nat × List Nat):=(true, [([], []),([], []),([1], [1]),([], []),([2,3], [2,3]),([4], [4]),([], []),([5,6], [5,6]),([], []),([], []),([8,9], [8,9]),([10], [10]),([], []),([11,12], [11,12]),([13], [13]),([7,14,7], [7,14]),([15], [15]),([0,16,15], [0,16]),([17,17,0,1,2,3,4,5,6,7,8,9,10,11,12,13,14,15,16,17], [0,17])])
def psalteryref23_Encode.B14 : List Nat := [0,0,2,0,14,30,0,126,0,0,768,1792,0,7936,16128,32766,65534,131071,262143]
theorem psalteryref23_Encode.tab14 : rtab .any (opsOf Try.f21 14)=psalteryref23_Encode.T14:=by kernel_rfl
theorem psalteryref23_Encode.bits14 : waitsOk psalteryref23_Encode.T14.2 psalteryref23_Encode.B14=true:=by kernel_rfl
set_option maxHeartbeats 8000000 in
set_option maxRecDepth 100000 in
theorem psalteryref23_Encode.calls (k : Nat) (a0 : Int) (a1 : Int) (A2_0 : Option Addr) (c2_0 : Nat) (l2_0 : List (List Int)) (a3 : Bool) (r1 : Bool) (r2 : List (List Int)) (r3 : List (List (List Int))) (w : World) (hr2_0 : Kd.C (Kd.slice 2 (Kd.int .i64)) w A2_0 l2_0.length l2_0) (hc2_0 : l2_0.length≤c2_0) (h : psalteryref23_Encode.f k a0 a1 l2_0 a3=some (r1,r2,r3)) :
  Calls Try.prog 21 #[.int .i64 a0, .int .i64 a1, .agg #[.slice A2_0 l2_0.length c2_0], .bool a3] w fun e w' => ∃ v1_ v2_ : Value,e=.returned (.agg #[.bool r1,v1_,v2_])∧Kd.S (Kd.slice 3 (Kd.int .i64)) 55 w' w.heap.size (fun _=>True) v1_ r2∧Kd.R (Kd.slice 55 (Kd.slice 3 (Kd.int .i64))) 25 w' w.heap.size (fun k_=>some k_≠(v1_ : Value).ownBlock) v2_ r3∧Below w.heap.size w w' := by
 have hu24:=Try.underlying24;have hu42:=Try.underlying42;have HR2_0:=zm hr2_0;have HC2_0:=zm hc2_0;clear hr2_0 hc2_0;have HB:=zm (Below.refl w.heap.size w)
 have H : (psalteryref23_Encode.l0 k a0 a1 0 l2_0 a3 ([] : List (List Int)))=some (r1,r2,r3):=h
 clear h
 have H' := zm H
 clear H
 go_enter Try.func21,Try.ntmps21
 go_wp2_with (first|((with_reducible refine gate_dst (N:=6) rfl ?_);refine ybx 6 #[.slice A2_0 l2_0.length c2_0] 24 ?_;intro gb495 hg w5 hbox hb;have BK495:=zm (hbox);have GW495:=ygw hg;have GE495:=ygw hg;replace HB:=ybs hb;clear hb hbox hg)|((with_reducible refine gate_dst (N:=8) rfl ?_);refine ybx 8 #[.bool false, .slice none 0 0, .slice none 0 0] 42 ?_;intro gb496 hg w6 hbox hb;have BK496:=zm (hbox);have GW496:=ygw hg;have GE496:=ygw hg;replace HB:=ybs hb;have NB495_496:=ynl BK495 hg;have NB496_495:=yng BK495 hg;replace BK495:=ybb BK495 hb;clear hb hbox hg)|((with_reducible refine gate_dst (N:=9) rfl ?_);refine ybx 9 #[.bool false, .slice none 0 0, .slice none 0 0] 42 ?_;intro gb497 hg w7 hbox hb;have BK497:=zm (hbox);have GW497:=ygw hg;have GE497:=ygw hg;replace HB:=ybs hb;have NB495_497:=ynl BK495 hg;have NB497_495:=yng BK495 hg;replace BK495:=ybb BK495 hb;have NB496_497:=ynl BK496 hg;have NB497_496:=yng BK496 hg;replace BK496:=ybb BK496 hb;clear hb hbox hg;have:=NB497_495.out;have:=NB495_497.out;have:=NB497_496.out;have:=NB496_497.out;obtain ⟨hcz10_0,hcz10_1,hcz10_2,hfz10_0,hfz10_1,hfz10_2⟩:=yc3 BK497))
 go_loopg [10] k (fun kq v10 w' => ∃ (x10_1 : Int) (x498001_1 : List (List Int)) (u498001 : Value),v10=.int .i64 x10_1∧Aside0 (psalteryref23_Encode.l0 kq a0 a1 x10_1 l2_0 a3 x498001_1=some (r1,r2,r3))∧Aside0 (kq≤k)∧Aside0 (Kd.S (Kd.slice 3 (Kd.int .i64)) 55 w' w.heap.size (fun _=>True) u498001 x498001_1)∧Aside0 (w'.heap[gb495]? = some (.cells #[(.slice A2_0 l2_0.length c2_0)] 24 (0,0)))∧Aside0 (w'.heap[gb496]? = some (.cells #[.bool false,(.slice none 0 0),(.slice none 0 0)] 42 (0,0)))∧Aside0 (w'.heap[gb497]? = some (.cells #[.bool a3,u498001,(.slice none 0 0)] 42 (0,0)))∧Aside0 (Below w.heap.size w w'))
 case atStart=>exact ⟨(0),(([] : List (List Int))),(.slice none 0 0),yq,H',⟨Nat.le_refl _⟩,⟨yn⟩,⟨yk BK495⟩,⟨yk BK496⟩,⟨ykp BK497⟩,⟨yhb⟩⟩
 case round =>
  clear H'
  try clear hcz10_0
  try clear hcz10_1
  try clear hcz10_2
  try clear hfz10_0
  try clear hfz10_1
  try clear hfz10_2
  obtain ⟨x10_1,x498001_1,u498001,rfl,HA,HK1,HO_498001,BK495,BK496,BK497,HB⟩:=hrel
  obtain ⟨k1,rfl⟩:=ysu gk (fun h=>by subst h;exact absurd HA.out (by simp [psalteryref23_Encode.l0]))
  have H:=HA.out;clear HA
  simp only [psalteryref23_Encode.l0] at H
  by_cases c11 : x10_1 < a1
  ·
   rw [if_pos c11] at H
   have c11b0 : decide (x10_1 < a1)=true:=decide_eq_true c11
   clear c11
   replace H:=yif H;obtain ⟨c12,H⟩:=H
   have c12b0 : decide (0≤x10_1)=true:=decide_eq_true c12
   clear c12
   replace H:=yif H;obtain ⟨c13,H⟩:=H
   have c13b0 : decide (x10_1 < (l2_0.length : Int))=true:=decide_eq_true c13
   clear c13
   replace H:=ybi H;obtain ⟨t499,A14,H⟩:=H
   replace H:=yif H;obtain ⟨c15,H⟩:=H
   have LMc15:=zm c15;clear c15
   obtain ⟨y502,hy502⟩ : ∃ y_ : List (List Int),y_=(x498001_1 ++ [t499]):=⟨_,rfl⟩
   replace H : (psalteryref23_Encode.l0 k1 a0 a1 (wrap64 (x10_1+1)) l2_0 a3 y502)=some (r1,r2,r3):=yrw hy502 H
   have Ny502:=zm hy502;clear hy502
   have H' := zm H
   clear H
   try go_wp2
   replace HO_498001:=zm (Kd.S_drew HO_498001.out)
   replace BK495:=zm (zj BK495.out)
   replace BK496:=zm (zj BK496.out)
   replace BK497:=zm (zj BK497.out)
   replace HB:=zm (zf HB.out)
   have p498 : 0≤(x10_1 : Int):=yt
   have q498 : x10_1 < (l2_0.length : Int):=yt
   obtain ⟨ad498,A498_0,c498_0,e498,hx498_0,hl498_0,hi498_0⟩:=at_L1 HR2_0.out x10_1 p498 q498
   have hw498_0:=hx498_0
   cases e498
   replace hx498_0:=yhx HB hx498_0
   have HR498_0:=zm hi498_0;have HC498_0:=zm hl498_0;clear hi498_0 hl498_0
   replace p498:=eq_true p498
   replace q498:=eq_true q498
   refine yst (fun w' => w'.cell? ⟨gb497,0,none⟩=some (.bool a3)∧w'.cell? ⟨gb497,1,none⟩=some (u498001)∧w'.cell? ⟨gb497,2,none⟩=some (.slice none 0 0)∧w'.cell? ⟨gb495,0,none⟩=some (.slice (some ad498) l2_0.length c2_0)∧w'.cell? (ad498.add (x10_1).toNat)=some (.slice A498_0 (rd_L1 l2_0 x10_1).length c498_0)) [11] 12 psalteryref23_Encode.tab5 psalteryref23_Encode.bits5 (fun hHeld HT_ HW_ => ?_)
   generalize wr.drew=w16 at HO_498001 BK495 BK496 BK497 HB HR498_0 hx498_0 hHeld ⊢
   refine yp 0 22 HT_ ?_
   refine yp 2 24 HT_ ?_
   refine yp 4 26 HT_ ?_
   refine yl 1 23 HT_ HW_ hHeld ?_
   refine yl 3 25 HT_ HW_ hHeld ?_
   refine yp 5 27 HT_ ?_
   refine yl 6 28 HT_ HW_ hHeld ?_
   refine yw 7 29 HT_ (fun K hK => ?_)
   refine ygs Try.func61 #[.slice A498_0 (rd_L1 l2_0 x10_1).length c498_0] ?_
   with_reducible refine (psalteryref10_Gains.calls k1 _ _ (rd_L1 l2_0 x10_1) t499 _ ?side1 ?side2 A14.out).mono ?_
   (case side1=>exact ycb HR498_0)
   (case side2=>exact HC498_0.out)
   rintro e w17 ⟨v500,rfl,ho0,hb⟩
   refine ⟨_,rfl, ?_⟩
   replace HO_498001:=zm (Kd.S_elder' (yr HO_498001) (Kd.R_base ho0) hb)
   have HO501:=zm (Kd.R_lower ho0 (zE yhb))
   replace BK495:=ybb BK495 hb
   replace BK496:=ybb BK496 hb
   replace BK497:=ybb BK497 hb
   replace HB:=ybs hb
   (try clear hb)
   (try clear ho0)
   obtain ⟨Ao19,co19,eo19⟩:=Kd.R_slice HO501.out
   (first|subst eo19|(injection eo19 with f1_ f2_ f3_;have f4_:=f1_.symm;have f5_:=f3_.symm;clear f1_ f2_ f3_;subst f4_;subst f5_))
   refine hK.out _ _ yH (fun hHeld => ?_)
   clear hK K
   refine ym (some 29) ?_
   refine yw 8 30 HT_ (fun K hK => ?_)
   refine value_ (w1 := ?_) (v := ?_) (by rfl) rfl ?_ ?_
   rotate_left 2
   ·
    go_simp
    constructor
    ·
     rfl
    ·
     rfl
   refine hK.out _ _ ⟨(zs (zi BK497.out _) 0).trans rfl,(zs (zi BK497.out _) 1).trans rfl,(zs (zi BK497.out _) 2).trans rfl,(zs (zi BK495.out _) 0).trans rfl,(World.cell?_alloc_lt _ _ _ (zb _ _ ((yhx HB hw498_0 :)))).trans ((yhx HB hw498_0 :))⟩ (fun hHeld => ?_)
   clear hK K
   refine ym (some 30) ?_
   refine yw 9 31 HT_ (fun K hK => ?_)
   refine Kd.S_append_step (Kd.slice 3 (Kd.int .i64)) (w0:=w) w.heap.size (by rfl) (.tmp 23) (.tmp 30) 25 55 (.slice none 0 0) 24 rfl Try.underlying25 info55 rfl (by decide) (by omega) u498001 x498001_1 t499 [.slice Ao19 t499.length co19] (fun _=>True) (fun k_=>some k_=(.slice Ao19 t499.length co19 : Value).ownBlock) rfl rfl ?aP (fun k_ hk_=>((zG (ok' := fun k_=>((fun _=>True)) k_∧some k_≠(u498001 : Value).ownBlock) (Kd.R_apart' (HO501.out) (Kd.S_typed HO_498001.out) (by decide)) (fun k_ hk=>⟨trivial,hk.2⟩))).1 k_ hk_.symm) ?aF ?aO ?aB ?aS ?aL ?_
   (case aP=>exact Kd.M_row (zG (Kd.R_tight rfl (zG (ok' := fun k_=>((fun _=>True)) k_∧some k_≠(u498001 : Value).ownBlock) (Kd.R_apart' (HO501.out) (Kd.S_typed HO_498001.out) (by decide)) (fun k_ hk=>⟨trivial,hk.2⟩))) (fun _ h_=>h_)))
   (case aB=>exact yhb)
   (case aF=>exact (fun _ _=>trivial))
   (case aO=>exact (yS0 HO_498001))
   (case aS=>exact (zE yhb))
   (case aL=>have:=LMc15.out;omega)
   intro v503 w18 ho hb hg hat
   rw [← Ny502.out] at ho
   replace BK495:=zm (blk_grown (yk BK495) hg (Kd.S_ne HO_498001.out BK495.out (by decide)))
   replace BK496:=zm (blk_grown (yk BK496) hg (Kd.S_ne HO_498001.out BK496.out (by decide)))
   replace BK497:=zm (blk_grown (yk BK497) hg (Kd.S_ne HO_498001.out BK497.out (by decide)))
   replace HB:=zm (hb)
   have HO504:=zm (ho);clear HO_498001;clear HO501;clear ho hb hg hat
   obtain ⟨Ao20,co20,eo20⟩:=Kd.S_slice HO504.out
   (first|subst eo20|(injection eo20 with f1_ f2_ f3_;have f4_:=f1_.symm;have f5_:=f3_.symm;clear f1_ f2_ f3_;subst f4_;subst f5_))
   refine hK.out _ _ yH (fun hHeld => ?_)
   clear hK K
   refine ym (some 31) ?_
   refine yp 10 32 HT_ ?_
   refine last_ (i:=11) (N:=none) #[true,true,true,true,true,true,true,true,true,true,true,true] rfl rfl (one_of HT_.out (by kernel_rfl)) (by decide) (fun K hK => ?_)
   have hs21 : w18.cell? ⟨gb497,1,none⟩=some (u498001):=(zs BK497.out 1).trans rfl
   have hfs21:=zx BK497.out 1
   have:=NB495_497.out
   have:=NB496_497.out
   have:=NB497_495.out
   have:=NB497_496.out
   refine skip_ (w1 := ?_) (by rfl) rfl ?_ ?_
   rotate_left
   ·
    go_simp
    rfl
   refine hK.out _ _ ?_
   clear hK K
   refine done_ (done_of HT_.out (by kernel_rfl)) ?_
   try go_wp2
   go_roundg k1
   case measure=>exact yom1 HK1
   case rel=>exact ⟨(wrap64 (x10_1+1)),(y502),(.slice Ao20 y502.length co20),yq,H',⟨yom1 HK1⟩,⟨yS1 HO504 BK497⟩,⟨yk BK495⟩,⟨yk BK496⟩,⟨ykp BK497⟩,⟨yhb⟩⟩
  ·
   rw [if_neg c11] at H
   have c11b0 : decide (x10_1 < a1)=false:=decide_eq_false c11
   clear c11
   replace H:=ybi H;obtain ⟨t505,A22,H⟩:=H
   have H' := zm H
   clear H
   have:=NB497_495.out
   have:=NB495_497.out
   have:=NB497_496.out
   have:=NB496_497.out
   obtain ⟨hcz25_0,hcz25_1,hcz25_2,hfz25_0,hfz25_1,hfz25_2⟩:=yc3 BK497
   obtain ⟨Ao26,co26,eo26⟩:=Kd.S_slice HO_498001.out
   subst eo26
   go_wp2_with (first|((with_reducible refine gate_callee (f:=62) rfl ?_);refine ygl 37 Try.func62 #[.int .i64 a0, .int .i64 a1, .slice Ao26 x498001_1.length co26] ?_;(with_reducible refine (psalteryref12_Pulses.calls k1 a0 a1 _ _ x498001_1 t505 _ ?side1 ?side2 A22.out).mono ?_);(case side1=>exact yce (Kd.S_reads' HO_498001.out).2.2);(case side2=>exact (Kd.S_reads' HO_498001.out).2.1);rintro e w27 ⟨v506,rfl,ho0,hb⟩;refine ⟨_,rfl, ?_⟩;have HO507:=zm (Kd.S_lower (Kd.S_new' ho0 (Kd.S_lt (yr HO_498001))) (zE yhb));replace HO_498001:=zm (Kd.S_elder' (yr HO_498001) (Kd.S_base ho0) hb);replace BK495:=ybb BK495 hb;replace BK496:=ybb BK496 hb;replace BK497:=ybb BK497 hb;replace HB:=ybs hb;(try clear hb);(try clear ho0)))
   go_loopg [12] k1 (fun kq v12 w' => ∃ (x12_2 : Int) (x498002_2 : List (List (List Int))) (u498002 : Value),v12=.int .i64 x12_2∧Aside0 (psalteryref23_Encode.l1 kq a1 t505 x12_2 l2_0 a3 x498001_1 x498002_2=some (r1,r2,r3))∧Aside0 (kq≤k1)∧Aside0 (Kd.S (Kd.slice 3 (Kd.int .i64)) 55 w' w.heap.size (fun k_=>some k_≠((.slice Ao26 x498001_1.length co26) : Value).ownBlock) v506 t505)∧Aside0 (Kd.S (Kd.slice 3 (Kd.int .i64)) 55 w' w.heap.size (fun k_=>some k_≠(v506 : Value).ownBlock) (.slice Ao26 x498001_1.length co26) x498001_1)∧Aside0 (Kd.R (Kd.slice 55 (Kd.slice 3 (Kd.int .i64))) 25 w' w.heap.size (fun k_=>some k_≠(v506 : Value).ownBlock∧some k_≠((.slice Ao26 x498001_1.length co26) : Value).ownBlock) u498002 x498002_2)∧Aside0 (w'.heap[gb495]? = some (.cells #[(.slice A2_0 l2_0.length c2_0)] 24 (0,0)))∧Aside0 (w'.heap[gb496]? = some (.cells #[.bool false,(.slice none 0 0),(.slice none 0 0)] 42 (0,0)))∧Aside0 (w'.heap[gb497]? = some (.cells #[.bool a3,(.slice Ao26 x498001_1.length co26),u498002] 42 (0,0)))∧Aside0 (Below w.heap.size w w'))
   case atStart=>exact ⟨(0),(([] : List (List (List Int)))),(.slice none 0 0),yq,H',⟨Nat.le_refl _⟩,⟨yS0 HO507⟩,⟨yS0 HO_498001⟩,⟨yn⟩,⟨yk BK495⟩,⟨yk BK496⟩,⟨yk BK497⟩,⟨yhb⟩⟩
   case round =>
    clear H'
    try clear c11b0
    try clear c12b0
    try clear c13b0
    try clear hcz25_0
    try clear hcz25_1
    try clear hcz25_2
    try clear hfz25_0
    try clear hfz25_1
    try clear hfz25_2
    try clear hx498_0
    try clear p498
    try clear q498
    obtain ⟨x12_2,x498002_2,u498002,rfl,HA,HK2,HO_11,HO_498001,HO_498002,BK495,BK496,BK497,HB⟩:=hrel
    obtain ⟨k2,rfl⟩:=ysu gk (fun h=>by subst h;exact absurd HA.out (by simp [psalteryref23_Encode.l1]))
    have H:=HA.out;clear HA
    simp only [psalteryref23_Encode.l1] at H
    by_cases c28 : x12_2 < a1
    ·
     rw [if_pos c28] at H
     have c28b0 : decide (x12_2 < a1)=true:=decide_eq_true c28
     clear c28
     have H' := zm H
     clear H
     go_wp2
     go_loopg [13,14] k2 (fun kq v13 v14 w' => ∃ (x13_3 : List (List Int)) (x14_3 : Int),v14=.int .i64 x14_3∧Aside0 (psalteryref23_Encode.l2 kq a1 t505 x12_2 x13_3 x14_3 l2_0 a3 x498001_1 x498002_2=some (r1,r2,r3))∧Aside0 (kq≤k2)∧Aside0 (Kd.S (Kd.slice 3 (Kd.int .i64)) 55 w' w.heap.size (fun k_=>some k_≠(v13 : Value).ownBlock∧some k_≠((.slice Ao26 x498001_1.length co26) : Value).ownBlock) v506 t505)∧Aside0 (Kd.S (Kd.slice 3 (Kd.int .i64)) 55 w' w.heap.size (fun k_=>some k_≠(v506 : Value).ownBlock∧some k_≠((.slice Ao26 x498001_1.length co26) : Value).ownBlock) v13 x13_3)∧Aside0 (Kd.S (Kd.slice 3 (Kd.int .i64)) 55 w' w.heap.size (fun k_=>some k_≠(v506 : Value).ownBlock∧some k_≠(v13 : Value).ownBlock) (.slice Ao26 x498001_1.length co26) x498001_1)∧Aside0 (Kd.R (Kd.slice 55 (Kd.slice 3 (Kd.int .i64))) 25 w' w.heap.size (fun k_=>some k_≠(v506 : Value).ownBlock∧some k_≠(v13 : Value).ownBlock∧some k_≠((.slice Ao26 x498001_1.length co26) : Value).ownBlock) u498002 x498002_2)∧Aside0 (w'.heap[gb495]? = some (.cells #[(.slice A2_0 l2_0.length c2_0)] 24 (0,0)))∧Aside0 (w'.heap[gb496]? = some (.cells #[.bool false,(.slice none 0 0),(.slice none 0 0)] 42 (0,0)))∧Aside0 (w'.heap[gb497]? = some (.cells #[.bool a3,(.slice Ao26 x498001_1.length co26),u498002] 42 (0,0)))∧Aside0 (Below w.heap.size w w'))
     case atStart=>exact ⟨(([] : List (List Int))),(0),yq,H',⟨Nat.le_refl _⟩,⟨yS0 HO_11⟩,⟨yn⟩,⟨yS0 HO_498001⟩,⟨yR0 HO_498002⟩,⟨yk BK495⟩,⟨yk BK496⟩,⟨yk BK497⟩,⟨yhb⟩⟩
     case round =>
      clear H'
      try clear c28b0
      obtain ⟨x13_3,x14_3,rfl,HA,HK3,HO_11,HO_13,HO_498001,HO_498002,BK495,BK496,BK497,HB⟩:=hrel
      obtain ⟨k3,rfl⟩:=ysu gk (fun h=>by subst h;exact absurd HA.out (by simp [psalteryref23_Encode.l2]))
      have H:=HA.out;clear HA
      simp only [psalteryref23_Encode.l2] at H
      by_cases c29 : x14_3 < 5
      ·
       rw [if_pos c29] at H
       have c29b0 : decide (x14_3 < 5)=true:=decide_eq_true c29
       clear c29
       replace H:=yif H;obtain ⟨c30,H⟩:=H
       have c30b0 : decide (0≤x12_2)=true:=decide_eq_true c30
       clear c30
       replace H:=yif H;obtain ⟨c31,H⟩:=H
       have c31b0 : decide (x12_2 < (l2_0.length : Int))=true:=decide_eq_true c31
       clear c31
       replace H:=ybi H;obtain ⟨t509,A32,H⟩:=H
       replace H:=yif H;obtain ⟨c33,H⟩:=H
       have c33b0 : decide (x12_2 < (t505.length : Int))=true:=decide_eq_true c33
       clear c33
       replace H:=yif H;obtain ⟨c34,H⟩:=H
       have c34b0 : decide (0≤x14_3)=true:=decide_eq_true c34
       clear c34
       replace H:=yif H;obtain ⟨c35,H⟩:=H
       have c35b0 : decide (x14_3 < ((rd_L2 t505 x12_2).length : Int))=true:=decide_eq_true c35
       clear c35
       replace H:=ybi H;obtain ⟨t514,A36,H⟩:=H
       replace H:=yif H;obtain ⟨c37,H⟩:=H
       have LMc37:=zm c37;clear c37
       obtain ⟨y517,hy517⟩ : ∃ y_ : List (List Int),y_=(x13_3 ++ [t514]):=⟨_,rfl⟩
       replace H : (psalteryref23_Encode.l2 k3 a1 t505 x12_2 y517 (wrap64 (x14_3+1)) l2_0 a3 x498001_1 x498002_2)=some (r1,r2,r3):=yrw hy517 H
       have Ny517:=zm hy517;clear hy517
       have H' := zm H
       clear H
       try go_wp2
       replace HO_11:=zm (Kd.S_drew HO_11.out)
       replace HO_13:=zm (Kd.S_drew HO_13.out)
       replace HO_498001:=zm (Kd.S_drew HO_498001.out)
       replace HO_498002:=zm (zq HO_498002.out)
       replace BK495:=zm (zj BK495.out)
       replace BK496:=zm (zj BK496.out)
       replace BK497:=zm (zj BK497.out)
       replace HB:=zm (zf HB.out)
       have p508 : 0≤(x12_2 : Int):=yt
       have q508 : x12_2 < (l2_0.length : Int):=yt
       obtain ⟨ad508,A508_0,c508_0,e508,hx508_0,hl508_0,hi508_0⟩:=at_L1 HR2_0.out x12_2 p508 q508
       have hw508_0:=hx508_0
       cases e508
       replace hx508_0:=yhx HB hx508_0
       have HR508_0:=zm hi508_0;have HC508_0:=zm hl508_0;clear hi508_0 hl508_0
       replace p508:=eq_true p508
       replace q508:=eq_true q508
       obtain ⟨Ao39,co39,eo39⟩:=Kd.S_slice HO_11.out
       (first|subst eo39|(injection eo39 with f1_ f2_ f3_;have f4_:=f1_.symm;have f5_:=f3_.symm;clear f1_ f2_ f3_;subst f4_;subst f5_))
       have p512 : 0≤(x12_2 : Int):=yt
       have q512 : x12_2 < (t505.length : Int):=yt
       obtain ⟨ad512,A512_0,c512_0,e512,hx512_0,hl512_0,hi512_0⟩:=at_L2 (Kd.S_reads' HO_11.out).2.2 x12_2 p512 q512
       cases e512
       obtain ⟨ce512,hce512,hMe512,hcc512⟩:=Kd.S_get HO_11.out [] x12_2 p512 (by first|exact q512|exact yt|(have e_:=(Kd.S_reads' HO_11.out).1;omega))
       obtain ⟨ve512_0,rfl,ge512_0⟩:=hMe512
       have hv512_0:=hcc512 0 _ rfl
       rw [Nat.add_zero,show ((Kd.slice 3 (Kd.int .i64))).sz=1 from rfl,Nat.mul_one] at hv512_0
       replace hv512_0:=Option.some.inj (hv512_0.symm.trans hx512_0)
       rw [hv512_0] at ge512_0
       have HL512_0:=zm (show Kd.R (Kd.int .i64) 3 _ _ _ _ (rd_L2 t505 x12_2) from ge512_0)
       clear hv512_0 ge512_0;clear hcc512 hce512;have HR512_0:=zm hi512_0;have HC512_0:=zm hl512_0;clear hi512_0 hl512_0
       replace p512:=eq_true p512
       replace q512:=eq_true q512
       obtain ⟨ad513,e513,hx513_0,p513,q513⟩:=yai HR512_0 x14_3
       cases e513
       refine yst (fun w' => w'.cell? ⟨gb495,0,none⟩=some (.slice (some ad508) l2_0.length c2_0)∧w'.cell? (ad508.add (x12_2).toNat)=some (.slice A508_0 (rd_L1 l2_0 x12_2).length c508_0)∧w'.cell? (ad512.add (x12_2).toNat)=some (.slice (some ad513) (rd_L2 t505 x12_2).length c512_0)∧w'.cell? (ad513.add (x14_3).toNat)=some (.int .i64 (rd (rd_L2 t505 x12_2) x14_3))) [16,17] 19 psalteryref23_Encode.tab14 psalteryref23_Encode.bits14 (fun hHeld HT_ HW_ => ?_)
       generalize wr.drew=w38 at HO_11 HO_13 HO_498001 HO_498002 BK495 BK496 BK497 HB HL512_0 HR508_0 HR512_0 hx508_0 hx512_0 hx513_0 hHeld ⊢
       refine yp 0 47 HT_ ?_
       refine yp 1 48 HT_ ?_
       refine yp 3 50 HT_ ?_
       refine yp 6 53 HT_ ?_
       refine yp 8 55 HT_ ?_
       refine yp 9 56 HT_ ?_
       refine yp 10 57 HT_ ?_
       refine yp 12 59 HT_ ?_
       refine yl 2 49 HT_ HW_ hHeld ?_
       refine yp 4 51 HT_ ?_
       refine yl 5 52 HT_ HW_ hHeld ?_
       refine yl 11 58 HT_ HW_ hHeld ?_
       refine yp 13 60 HT_ ?_
       refine yl 14 61 HT_ HW_ hHeld ?_
       refine yw 7 54 HT_ (fun K hK => ?_)
       refine ygs Try.func28 #[.slice A508_0 (rd_L1 l2_0 x12_2).length c508_0, .int .i64 x14_3] ?_
       with_reducible refine (psalteryref10_Band.calls k3 _ _ (rd_L1 l2_0 x12_2) x14_3 t509 _ ?side1 ?side2 A32.out).mono ?_
       (case side1=>exact ycb HR508_0)
       (case side2=>exact HC508_0.out)
       rintro e w40 ⟨v510,rfl,ho0,hb⟩
       have HS2_:=yhs hb hHeld.2.2.1
       have HS3_:=yhs hb hHeld.2.2.2
       refine ⟨_,rfl, ?_⟩
       replace HO_11:=ySb HO_11 hb
       replace HO_13:=ySb HO_13 hb
       replace HO_498001:=ySb HO_498001 hb
       replace HO_498002:=yRb HO_498002 hb
       replace HL512_0:=yRb HL512_0 hb
       have HO511:=zm (Kd.R_lower ho0 (zE yhb))
       replace BK495:=ybb BK495 hb
       replace BK496:=ybb BK496 hb
       replace BK497:=ybb BK497 hb
       replace HR512_0:=yCb HR512_0 hb
       replace HB:=ybs hb
       (try clear hb)
       (try clear ho0)
       obtain ⟨Ao41,co41,eo41⟩:=Kd.R_slice HO511.out
       (first|subst eo41|(injection eo41 with f1_ f2_ f3_;have f4_:=f1_.symm;have f5_:=f3_.symm;clear f1_ f2_ f3_;subst f4_;subst f5_))
       refine hK.out _ _ yH (fun hHeld => ?_)
       clear hK K
       refine ym (some 54) ?_
       refine yw 15 62 HT_ (fun K hK => ?_)
       refine ygs Try.func63 #[.slice Ao41 t509.length co41, .int .i64 (rd (rd_L2 t505 x12_2) x14_3)] ?_
       with_reducible refine (psalteryref07_Search.calls k3 _ _ t509 (rd (rd_L2 t505 x12_2) x14_3) t514 _ ?side1 ?side2 A36.out).mono ?_
       (case side1=>exact yce (Kd.R_reads' HO511.out).2.2)
       (case side2=>exact (Kd.R_reads' HO511.out).2.1)
       rintro e w42 ⟨v515,rfl,ho0,hb⟩
       have HS2_:=yhs hb hHeld.2.2.1
       have HS3_:=yhs hb hHeld.2.2.2
       refine ⟨_,rfl, ?_⟩
       replace HO_11:=zm (Kd.S_elder' (yr HO_11) (Kd.R_base ho0) hb)
       replace HO_13:=zm (Kd.S_elder' (yr HO_13) (Kd.R_base ho0) hb)
       replace HO_498001:=zm (Kd.S_elder' (yr HO_498001) (Kd.R_base ho0) hb)
       replace HO_498002:=zm (Kd.R_elder' (yr HO_498002) (Kd.R_base ho0) hb)
       replace HO511:=yRb HO511 hb
       have HO516:=zm (Kd.R_lower (Kd.R_new' ho0 (Kd.R_lt (yr HL512_0))) (zE yhb))
       replace HL512_0:=zm (Kd.R_elder' (yr HL512_0) (Kd.R_base ho0) hb)
       replace BK495:=ybb BK495 hb
       replace BK496:=ybb BK496 hb
       replace BK497:=ybb BK497 hb
       replace HR512_0:=yCb HR512_0 hb
       replace HB:=ybs hb
       (try clear hb)
       (try clear ho0)
       obtain ⟨Ao44,co44,eo44⟩:=Kd.R_slice HO516.out
       (first|subst eo44|(injection eo44 with f1_ f2_ f3_;have f4_:=f1_.symm;have f5_:=f3_.symm;clear f1_ f2_ f3_;subst f4_;subst f5_))
       refine hK.out _ _ yH (fun hHeld => ?_)
       clear hK K
       refine ym (some 62) ?_
       refine last_ (i:=16) (N:=some 63) #[true,true,true,true,true,true,true,true,true,true,true,true,true,true,true,true,true,false,false] rfl rfl (one_of HT_.out (by kernel_rfl)) (by decide) (fun K hK => ?_)
       refine value_ (w1 := ?_) (v := ?_) (by rfl) rfl ?_ ?_
       rotate_left 2
       ·
        go_simp
        constructor
        ·
         rfl
        ·
         rfl
       refine hK.out _ _ ?_
       clear hK K
       refine ym (some 63) ?_
       refine last_ (i:=17) (N:=some 64) #[true,true,true,true,true,true,true,true,true,true,true,true,true,true,true,true,true,true,false] rfl rfl (one_of HT_.out (by kernel_rfl)) (by decide) (fun K hK => ?_)
       refine Kd.S_append_step (Kd.slice 3 (Kd.int .i64)) (w0:=w) w.heap.size (by rfl) (.tmp 47) (.tmp 63) 25 55 (.slice none 0 0) 24 rfl Try.underlying25 info55 rfl (by decide) (by omega) u13 x13_3 t514 [.slice Ao44 t514.length co44] (fun k_=>some k_≠(.slice (some ad512) t505.length co39 : Value).ownBlock∧some k_≠(.slice Ao26 x498001_1.length co26 : Value).ownBlock) (fun k_=>some k_=(.slice Ao44 t514.length co44 : Value).ownBlock) rfl rfl ?aP (fun k_ hk_=>((zG (ok' := fun k_=>((fun k_=>some k_≠(.slice (some ad512) t505.length co39 : Value).ownBlock∧some k_≠(.slice Ao26 x498001_1.length co26 : Value).ownBlock)) k_∧some k_≠(u13 : Value).ownBlock) (Kd.R_apart' (Kd.R_apart' (Kd.R_apart' (HO516.out) (Kd.S_typed HO_11.out) (by decide)) (Kd.S_typed HO_498001.out) (by decide)) (Kd.S_typed HO_13.out) (by decide)) (fun k_ hk=>⟨⟨hk.1.1.2,hk.1.2⟩,hk.2⟩))).1 k_ hk_.symm) ?aF ?aO ?aB ?aS ?aL ?_
       (case aP=>exact Kd.M_row (zG (Kd.R_tight rfl (zG (ok' := fun k_=>((fun k_=>some k_≠(.slice (some ad512) t505.length co39 : Value).ownBlock∧some k_≠(.slice Ao26 x498001_1.length co26 : Value).ownBlock)) k_∧some k_≠(u13 : Value).ownBlock) (Kd.R_apart' (Kd.R_apart' (Kd.R_apart' (HO516.out) (Kd.S_typed HO_11.out) (by decide)) (Kd.S_typed HO_498001.out) (by decide)) (Kd.S_typed HO_13.out) (by decide)) (fun k_ hk=>⟨⟨hk.1.1.2,hk.1.2⟩,hk.2⟩))) (fun _ h_=>h_)))
       (case aB=>exact yhb)
       (case aF=>exact (fun k_ hk=>⟨Kd.fresh' (Kd.S_lt (yr HO_11)) k_ hk,Kd.fresh' (Kd.S_lt (yr HO_498001)) k_ hk⟩))
       (case aO=>exact (yS0 HO_13))
       (case aS=>exact (zE yhb))
       (case aL=>have:=LMc37.out;omega)
       intro v518 w43 ho hb hg hat
       rw [← Ny517.out] at ho
       replace HO_11:=zm (Kd.S_after (ok:=(fun k_=>some k_≠(.slice Ao26 x498001_1.length co26 : Value).ownBlock∧some k_≠(.slice Ao44 t514.length co44 : Value).ownBlock)) (yS0 HO_11) hg hat)
       replace HO_498001:=zm (Kd.S_after (ok:=(fun k_=>some k_≠(.slice (some ad512) t505.length co39 : Value).ownBlock∧some k_≠(.slice Ao44 t514.length co44 : Value).ownBlock)) (yS0 HO_498001) hg hat)
       replace HO_498002:=zm (Kd.R_after (ok:=(fun k_=>some k_≠(.slice (some ad512) t505.length co39 : Value).ownBlock∧some k_≠(.slice Ao26 x498001_1.length co26 : Value).ownBlock∧some k_≠(.slice Ao44 t514.length co44 : Value).ownBlock)) (yR0 HO_498002) hg hat)
       replace BK495:=zm (blk_grown (yk BK495) hg (Kd.S_ne HO_13.out BK495.out (by decide)))
       replace BK496:=zm (blk_grown (yk BK496) hg (Kd.S_ne HO_13.out BK496.out (by decide)))
       replace BK497:=zm (blk_grown (yk BK497) hg (Kd.S_ne HO_13.out BK497.out (by decide)))
       replace HL512_0:=zm (Kd.R_after (ok:=(fun k_=>some k_≠(.slice (some ad512) t505.length co39 : Value).ownBlock∧some k_≠(.slice Ao26 x498001_1.length co26 : Value).ownBlock∧some k_≠(.slice Ao44 t514.length co44 : Value).ownBlock)) (yR0 HL512_0) hg hat)
       replace HO511:=zm (Kd.R_over' (yr HO511) (Kd.S_typed (yr HO_13)) (by decide) hg)
       replace HB:=zm (hb)
       have HO519:=zm (ho);clear HO_13;clear HO516;clear ho hb hg hat
       refine hK.out _ _ ?_
       clear hK K
       refine ym (some 64) ?_
       refine yp 18 13 HT_ ?_
       refine done_ (done_of HT_.out (by kernel_rfl)) ?_
       try go_wp2
       go_roundg k3
       case measure=>exact yom3 HK1 HK2 HK3
       case rel=>exact ⟨(y517),(wrap64 (x14_3+1)),yq,H',⟨yom3 HK1 HK2 HK3⟩,⟨yS0 HO_11⟩,⟨yr HO519⟩,⟨yS0 HO_498001⟩,⟨yR0 HO_498002⟩,⟨yk BK495⟩,⟨yk BK496⟩,⟨yk BK497⟩,⟨yhb⟩⟩
      ·
       rw [if_neg c29] at H
       have c29b0 : decide (x14_3 < 5)=false:=decide_eq_false c29
       clear c29
       replace H:=yif H;obtain ⟨c45,H⟩:=H
       have LMc45:=zm c45;clear c45
       obtain ⟨y520,hy520⟩ : ∃ y_ : List (List (List Int)),y_=(x498002_2 ++ [x13_3]):=⟨_,rfl⟩
       replace H : (psalteryref23_Encode.l1 k3 a1 t505 (wrap64 (x12_2+1)) l2_0 a3 x498001_1 y520)=some (r1,r2,r3):=yrw hy520 H
       have Ny520:=zm hy520;clear hy520
       have H' := zm H
       clear H
       have:=NB497_495.out
       have:=NB495_497.out
       have:=NB497_496.out
       have:=NB496_497.out
       obtain ⟨_,_,_,_,_,_⟩:=yc3 BK497
       obtain ⟨Ao50,co50,eo50⟩:=Kd.S_slice HO_13.out
       subst eo50
       go_wp2_with (first|((with_reducible refine gate_builtin (b:=.append) (xs := #[.tmp 66, .tmp 68]) rfl ?_);at_builtin;refine Kd.R_append (Kd.slice 55 (Kd.slice 3 (Kd.int .i64))) (w0:=w) w.heap.size rfl (.tmp 66) (.tmp 68) 29 25 (.slice none 0 0) 24 rfl Try.underlying29 info25 rfl (by decide) (by omega) u498002 x498002_2 x13_3 [.slice Ao50 x13_3.length co50] (fun k_=>some k_≠(v506 : Value).ownBlock∧some k_≠(.slice Ao26 x498001_1.length co26 : Value).ownBlock) (fun k_=>((fun k_=>some k_≠(v506 : Value).ownBlock∧some k_≠(.slice Ao26 x498001_1.length co26 : Value).ownBlock)) k_∧some k_≠(u498002 : Value).ownBlock) rfl rfl ?aP (fun _ hk=>hk) ?aF ?aO ?aB ?aS ?aL ?_;(case aP=>exact Kd.M_row (zG (Kd.R_apart' ((Kd.S_R HO_13.out)) (Kd.R_typed HO_498002.out) (by decide)) (fun k_ hk=>⟨⟨hk.1.1,hk.1.2⟩,hk.2⟩)));(case aB=>exact yhb);(case aF=>exact (fun k_ hk=>⟨Kd.fresh' (Kd.S_lt (yr HO_11)) k_ hk,Kd.fresh' (Kd.S_lt (yr HO_498001)) k_ hk⟩));(case aO=>exact (yR0 HO_498002));(case aS=>exact (zE yhb));(case aL=>have:=LMc45.out;omega);intro v521 w49 ho hb hg hat;rw [← Ny520.out] at ho;replace HO_11:=zm (Kd.S_over' (yr HO_11) (Kd.R_typed (yr HO_498002)) (by decide) hg);replace HO_498001:=zm (Kd.S_over' (yr HO_498001) (Kd.R_typed (yr HO_498002)) (by decide) hg);replace BK495:=zm (blk_grown (yk BK495) hg (zu HO_498002.out BK495.out (by decide)));replace BK496:=zm (blk_grown (yk BK496) hg (zu HO_498002.out BK496.out (by decide)));replace BK497:=zm (blk_grown (yk BK497) hg (zu HO_498002.out BK497.out (by decide)));replace HB:=zm (hb);have HO522:=zm (ho);clear HO_498002;clear HO_13;clear ho hb hg hat;obtain ⟨Ao51,co51,eo51⟩:=Kd.R_slice HO522.out;subst eo51;obtain ⟨_,_,_,_,_,_⟩:=yc3 BK497))
       go_roundg k3
       case measure=>exact yom3 HK1 HK2 HK3
       case rel=>exact ⟨(wrap64 (x12_2+1)),(y520),(.slice Ao51 y520.length co51),yq,H',⟨yom3 HK1 HK2 HK3⟩,⟨yS1 HO_11 BK497⟩,⟨yS1 HO_498001 BK497⟩,⟨yR1 HO522 BK497⟩,⟨yk BK495⟩,⟨yk BK496⟩,⟨ykp BK497⟩,⟨yhb⟩⟩
    ·
     rw [if_neg c28] at H
     have c28b0 : decide (x12_2 < a1)=false:=decide_eq_false c28
     clear c28
     simp only [Option.some.injEq,Prod.mk.injEq] at H
     obtain ⟨rfl,rfl,rfl⟩:=H
     have:=NB497_495.out
     have:=NB495_497.out
     have:=NB497_496.out
     have:=NB496_497.out
     obtain ⟨_,_,_,_,_,_⟩:=yc3 BK497
     have:=NB496_495.out
     have:=NB495_496.out
     obtain ⟨_,_,_,_,_,_⟩:=yc3 BK496
     obtain ⟨Ao58,co58,eo58⟩:=Kd.R_slice HO_498002.out
     subst eo58
     go_wp2
     refine bodyPost_ret (results_cell_row rfl _ _ gb496 42 #[.bool a3, .slice Ao26 x498001_1.length co26, .slice Ao58 x498002_2.length co58] (0,0) _ rfl (ykp BK496) Try.underlying42 rfl (by kernel_rfl)) rfl ?_
     exact ⟨_,_,ye,yS1 HO_498001 BK496,yR1 HO_498002 BK496,yhb⟩
mutual
def psalteryref07_Fair.j0 : Nat→List Int→Bool→Option (Bool)
 | 0,_,_=>none
 | k+1,x0,x3=>psalteryref07_Fair.l0 k x0 x3 0
def psalteryref07_Fair.l0 : Nat→List Int→Bool→Int→Option (Bool)
 | 0,_,_,_=>none
 | k+1,x0,x3,x4=>if x4 < (x0.length : Int) then (if x3=true then (if 0≤x4 then (if (rd x0 x4) ≥ (-1048576) then (psalteryref07_Fair.l0 k x0 (decide ((rd x0 x4)≤1048576)) (wrap64 (x4+1))) else (psalteryref07_Fair.l0 k x0 false (wrap64 (x4+1)))) else (none)) else (psalteryref07_Fair.l0 k x0 false (wrap64 (x4+1)))) else (some x3)
end
def psalteryref07_Fair.f (k : Nat) (l0 : List Int) : Option (Bool):=if (l0.length : Int) > 0 then (psalteryref07_Fair.j0 k l0 (decide ((l0.length : Int)≤16))) else (psalteryref07_Fair.j0 k l0 false)
theorem psalteryref07_Fair.mono_l : ∀ k,(∀ y0 y1,LeO (psalteryref07_Fair.j0 k y0 y1) (psalteryref07_Fair.j0 (k+1) y0 y1))∧(∀ y0 y1 y2,LeO (psalteryref07_Fair.l0 k y0 y1 y2) (psalteryref07_Fair.l0 (k+1) y0 y1 y2))
 | 0=>⟨fun _ _ r h=>by simp [psalteryref07_Fair.j0] at h,fun _ _ _ r h=>by simp [psalteryref07_Fair.l0] at h⟩
 | k+1=>by
  obtain ⟨ih0,ih1⟩:=psalteryref07_Fair.mono_l k
  refine ⟨?_, ?_⟩
  ·
   intro y0 y1
   unfold psalteryref07_Fair.j0
   repeat' with_reducible first|apply ih0|apply ih1|apply yLr|apply yLn|apply yLi|apply yLb|intro _
  ·
   intro y0 y1 y2
   unfold psalteryref07_Fair.l0
   repeat' with_reducible first|apply ih0|apply ih1|apply yLr|apply yLn|apply yLi|apply yLb|intro _
theorem psalteryref07_Fair.mono : ∀ a0 k,LeO (psalteryref07_Fair.f k a0) (psalteryref07_Fair.f (k+1) a0):=by
 intro a0 k
 obtain ⟨ih0,ih1⟩:=psalteryref07_Fair.mono_l k
 unfold psalteryref07_Fair.f
 repeat' with_reducible first|apply ih0|apply ih1|apply yLr|apply yLn|apply yLi|apply yLb|intro _
set_option maxHeartbeats 8000000 in
set_option maxRecDepth 100000 in
theorem psalteryref07_Fair.calls (k : Nat) (A0 : Option Addr) (c0 : Nat) (l0 : List Int) (r : Bool) (w : World) (hr0 : Kd.C (Kd.int .i64) w A0 l0.length l0) (hc0 : l0.length≤c0) (h : psalteryref07_Fair.f k l0=some r) :
  Calls Try.prog 82 #[.slice A0 l0.length c0] w fun e w' => e=.returned (.bool r)∧Drawn0 w w' := by
 have HR0:=zm hr0;have HC0:=zm hc0;clear hr0 hc0
 have H : (if (l0.length : Int) > 0 then (psalteryref07_Fair.j0 k l0 (decide ((l0.length : Int)≤16))) else (psalteryref07_Fair.j0 k l0 false))=some r:=h
 clear h;have HC2:=zm H;clear H
 go_enter Try.func82,Try.ntmps82
 go_upto_region 1 with (fail)
 go_cut [3] (fun v3 wc => ∃ (kq : Nat) (x3_1 : Bool),v3=.bool x3_1∧Aside0 (psalteryref07_Fair.j0 kq l0 x3_1=some r)∧Aside0 (kq≤k)∧Drawn0 w wc)
 case first =>
  have H:=HC2.out;clear HC2
  by_cases c3 : (l0.length : Int) > 0
  ·
   rw [if_pos c3] at H
   have c3b0 : decide (0 < (l0.length : Int))=true:=decide_eq_true c3
   have c3b1 : decide (0 < l0.length)=true:=decide_eq_true (by omega)
   clear c3
   (first|rw [c3b0]|(simp only [i64_w,i32_w];rw [c3b0])|skip)
   have H' := zm H
   clear H
   go_wp2
   go_meet
   case rel=>exact ⟨_,(decide ((l0.length : Int)≤16)),yq,H',⟨yo⟩,yd⟩
  ·
   rw [if_neg c3] at H
   have c3b0 : decide (0 < (l0.length : Int))=false:=decide_eq_false c3
   have c3b1 : decide (0 < l0.length)=false:=decide_eq_false (by omega)
   clear c3
   (first|rw [c3b0]|(simp only [i64_w,i32_w];rw [c3b0])|skip)
   have H' := zm H
   clear H
   go_wp2
   go_meet
   case rel=>exact ⟨_,(false),yq,H',⟨yo⟩,yd⟩
 case rest =>
  clear HC2
  obtain ⟨kq,x3_1,rfl,HA,HJ1,⟨mc1,rfl⟩⟩:=hcut
  obtain ⟨kj1,rfl⟩:=ysu kq (fun h=>by subst h;exact absurd HA.out (by simp [psalteryref07_Fair.j0]))
  have H:=HA.out;clear HA
  simp only [psalteryref07_Fair.j0] at H
  have H' := zm H
  clear H
  go_wp2
  go_loopg [3,4] kj1 (fun kq v3 v4 w' => ∃ (x3_2 : Bool) (x4_2 : Int),v3=.bool x3_2∧v4=.int .i64 x4_2∧Aside0 (psalteryref07_Fair.l0 kq l0 x3_2 x4_2=some r)∧Aside0 (kq≤kj1)∧Drawn0 w w')
  case atStart=>exact ⟨(x3_1),(0),yq,yq,H',⟨Nat.le_refl _⟩,yd⟩
  case round =>
   clear H'
   obtain ⟨x3_2,x4_2,rfl,rfl,HA,HK2,⟨m2,rfl⟩⟩:=hrel
   obtain ⟨k2,rfl⟩:=ysu gk (fun h=>by subst h;exact absurd HA.out (by simp [psalteryref07_Fair.l0]))
   have H:=HA.out;clear HA
   simp only [psalteryref07_Fair.l0] at H
   by_cases c4 : x4_2 < (l0.length : Int)
   ·
    rw [if_pos c4] at H
    have c4b0 : decide (x4_2 < (l0.length : Int))=true:=decide_eq_true c4
    clear c4
    by_cases c5 : x3_2=true
    ·
     subst c5
     rw [if_pos rfl] at H
     replace H:=yif H;obtain ⟨c6,H⟩:=H
     have c6b0 : decide (0≤x4_2)=true:=decide_eq_true c6
     clear c6
     by_cases c7 : (rd l0 x4_2) ≥ (-1048576)
     ·
      rw [if_pos c7] at H
      have c7b0 : decide ((-1048576)≤(rd l0 x4_2))=true:=decide_eq_true c7
      clear c7
      have H' := zm H
      clear H
      obtain ⟨ad378,e378,hx378_0,p378,q378⟩:=yai HR0 x4_2
      cases e378
      have p379 : 0≤(x4_2 : Int):=yt
      have q379 : x4_2 < (l0.length : Int):=yt
      obtain ⟨ad379,e379,hx379_0⟩:=Kd.at_int HR0.out x4_2 p379 q379
      obtain rfl : ad378=ad379:=(by injection e379)
      replace p379:=eq_true p379
      replace q379:=eq_true q379
      go_wp2
      go_roundg k2
      case measure=>exact yom2 HJ1 HK2
      case rel=>exact ⟨(decide ((rd l0 x4_2)≤1048576)),(wrap64 (x4_2+1)),yq,yq,H',⟨yom2 HJ1 HK2⟩,yd⟩
     ·
      rw [if_neg c7] at H
      have c7b0 : decide ((-1048576)≤(rd l0 x4_2))=false:=decide_eq_false c7
      clear c7
      have H' := zm H
      clear H
      obtain ⟨ad378,e378,hx378_0,p378,q378⟩:=yai HR0 x4_2
      cases e378
      go_wp2
      go_roundg k2
      case measure=>exact yom2 HJ1 HK2
      case rel=>exact ⟨(false),(wrap64 (x4_2+1)),yq,yq,H',⟨yom2 HJ1 HK2⟩,yd⟩
    ·
     replace c5:=Bool.eq_false_iff.mpr c5
     subst c5
     rw [ynf] at H
     have H' := zm H
     clear H
     go_wp2
     go_roundg k2
     case measure=>exact yom2 HJ1 HK2
     case rel=>exact ⟨(false),(wrap64 (x4_2+1)),yq,yq,H',⟨yom2 HJ1 HK2⟩,yd⟩
   ·
    rw [if_neg c4] at H
    have c4b0 : decide (x4_2 < (l0.length : Int))=false:=decide_eq_false c4
    clear c4
    obtain rfl:=Option.some.inj H
    go_wp2
    go_ret
    exact ⟨yq,yd⟩
def psalteryref10_Fair.f (k : Nat) (l0 : List Int) : Option (Bool):=if (l0.length : Int)=16 then ((psalteryref07_Fair.f k l0).bind fun t380=>(some t380)) else (some false)
theorem psalteryref10_Fair.mono : ∀ a0 k,LeO (psalteryref10_Fair.f k a0) (psalteryref10_Fair.f (k+1) a0):=by
 intro a0 k
 unfold psalteryref10_Fair.f
 repeat' with_reducible first|apply psalteryref07_Fair.mono|apply yLr|apply yLn|apply yLi|apply yLb|intro _
set_option maxHeartbeats 8000000 in
set_option maxRecDepth 100000 in
theorem psalteryref10_Fair.calls (k : Nat) (A0 : Option Addr) (c0 : Nat) (l0 : List Int) (r : Bool) (w : World) (hr0 : Kd.C (Kd.int .i64) w A0 l0.length l0) (hc0 : l0.length≤c0) (h : psalteryref10_Fair.f k l0=some r) :
  Calls Try.prog 41 #[.slice A0 l0.length c0] w fun e w' => e=.returned (.bool r)∧Drawn0 w w' := by
 have HR0:=zm hr0;have HC0:=zm hc0;clear hr0 hc0
 have H : (if (l0.length : Int)=16 then ((psalteryref07_Fair.f k l0).bind fun t380=>(some t380)) else (some false))=some r:=h
 clear h
 by_cases c2 : (l0.length : Int)=16
 ·
  rw [if_pos c2] at H
  have c2b0 : ((l0.length : Int) == 16)=true:=beq_iff_eq.mpr c2
  have c2b1 : ((l0.length : Int) != 16)=false:=bne_eq_false_iff_eq.mpr c2
  clear c2
  replace H:=ybi H;obtain ⟨t380,A3,H⟩:=H
  obtain rfl:=Option.some.inj H
  go_enter Try.func41,Try.ntmps41
  go_wp2_with (first|(go_at_call 82;(with_reducible refine (psalteryref07_Fair.calls k _ _ l0 t380 _ ?side1 HC0.out A3.out).mono ?_);(case side1=>exact yce HR0.out);rintro e w' ⟨rfl,⟨nd,rfl⟩⟩))
  go_ret
  exact ⟨yq,yd⟩
 ·
  rw [if_neg c2] at H
  have c2b0 : ((l0.length : Int) == 16)=false:=beq_eq_false_iff_ne.mpr c2
  have c2b1 : ((l0.length : Int) != 16)=true:=bne_iff_ne.mpr c2
  obtain rfl:=Option.some.inj H
  go_enter Try.func41,Try.ntmps41
  go_wp2
  go_ret
  exact ⟨yq,yd⟩
mutual
def psalteryref23_Right.j0 : Nat→Int→Bool→List (List Int)→Option (Bool)
 | 0,_,_,_=>none
 | k+1,x1,x18,x382000=>if x18=true then (some false) else (psalteryref23_Right.l0 k x1 0 x382000)
def psalteryref23_Right.l0 : Nat→Int→Int→List (List Int)→Option (Bool)
 | 0,_,_,_=>none
 | k+1,x1,x7,x382000=>if x7 < x1 then (if 0≤x7 then (if x7 < (x382000.length : Int) then ((psalteryref10_Fair.f k (rd_L1 x382000 x7)).bind fun t384=>(if t384=true then (psalteryref23_Right.l0 k x1 (wrap64 (x7+1)) x382000) else (some false))) else (none)) else (none)) else (some true)
end
def psalteryref23_Right.f (k : Nat) (a0 : Int) (a1 : Int) (l2_0 : List (List Int)) : Option (Bool):=(psalteryref12_Right.f a0 a1).bind fun t382=>(if t382=true then (psalteryref23_Right.j0 k a1 ((l2_0.length : Int) != a1) l2_0) else (psalteryref23_Right.j0 k a1 true l2_0))
theorem psalteryref23_Right.mono_l : ∀ k,(∀ y0 y1 y2,LeO (psalteryref23_Right.j0 k y0 y1 y2) (psalteryref23_Right.j0 (k+1) y0 y1 y2))∧(∀ y0 y1 y2,LeO (psalteryref23_Right.l0 k y0 y1 y2) (psalteryref23_Right.l0 (k+1) y0 y1 y2))
 | 0=>⟨fun _ _ _ r h=>by simp [psalteryref23_Right.j0] at h,fun _ _ _ r h=>by simp [psalteryref23_Right.l0] at h⟩
 | k+1=>by
  obtain ⟨ih0,ih1⟩:=psalteryref23_Right.mono_l k
  refine ⟨?_, ?_⟩
  ·
   intro y0 y1 y2
   unfold psalteryref23_Right.j0
   repeat' with_reducible first|apply ih0|apply ih1|apply psalteryref10_Fair.mono|apply yLr|apply yLn|apply yLi|apply yLb|intro _
  ·
   intro y0 y1 y2
   unfold psalteryref23_Right.l0
   repeat' with_reducible first|apply ih0|apply ih1|apply psalteryref10_Fair.mono|apply yLr|apply yLn|apply yLi|apply yLb|intro _
theorem psalteryref23_Right.mono : ∀ a0 a1 a2 k,LeO (psalteryref23_Right.f k a0 a1 a2) (psalteryref23_Right.f (k+1) a0 a1 a2):=by
 intro a0 a1 a2 k
 obtain ⟨ih0,ih1⟩:=psalteryref23_Right.mono_l k
 unfold psalteryref23_Right.f
 repeat' with_reducible first|apply ih0|apply ih1|apply psalteryref10_Fair.mono|apply yLr|apply yLn|apply yLi|apply yLb|intro _
set_option maxHeartbeats 8000000 in
set_option maxRecDepth 100000 in
theorem psalteryref23_Right.calls (k : Nat) (a0 : Int) (a1 : Int) (A2_0 : Option Addr) (c2_0 : Nat) (l2_0 : List (List Int)) (r : Bool) (w : World) (hr2_0 : Kd.C (Kd.slice 2 (Kd.int .i64)) w A2_0 l2_0.length l2_0) (hc2_0 : l2_0.length≤c2_0) (h : psalteryref23_Right.f k a0 a1 l2_0=some r) :
  Calls Try.prog 14 #[.int .i64 a0, .int .i64 a1, .agg #[.slice A2_0 l2_0.length c2_0]] w fun e w' => e=.returned (.bool r)∧Below w.heap.size w w' := by
 have hu24:=Try.underlying24;have HR2_0:=zm hr2_0;have HC2_0:=zm hc2_0;clear hr2_0 hc2_0;have HB:=zm (Below.refl w.heap.size w)
 have H : ((psalteryref12_Right.f a0 a1).bind fun t382=>(if t382=true then (psalteryref23_Right.j0 k a1 ((l2_0.length : Int) != a1) l2_0) else (psalteryref23_Right.j0 k a1 true l2_0)))=some r:=h
 clear h;have HC4:=zm H;clear H
 go_enter Try.func14,Try.ntmps14
 go_upto_region 1 with (first|((with_reducible refine gate_dst (N:=5) rfl ?_);(try (refine gate_guard (by rfl) ?_;dsimp only));refine ybx 5 #[.slice A2_0 l2_0.length c2_0] 24 ?_;intro gb381 hg w5 hbox hb;have BK381:=zm (hbox);have GW381:=ygw hg;have GE381:=ygw hg;replace HB:=ybs hb;clear hb hbox hg))
 (try simp only [Act.put,List.setIfInBounds_toArray,List.set_cons_zero,List.set_cons_succ])
 go_cut [18] (fun v18 wc => ∃ (kq : Nat) (x18_3 : Bool),v18=.bool x18_3∧Aside0 (psalteryref23_Right.j0 kq a1 x18_3 l2_0=some r)∧Aside0 (kq≤k)∧Aside0 (wc.heap[gb381]? = some (.cells #[(.slice A2_0 l2_0.length c2_0)] 24 (0,0)))∧Aside0 (Below w.heap.size w wc))
 case first =>
  have H:=HC4.out;clear HC4
  replace H:=ybi H;obtain ⟨t382,A6,H⟩:=H
  by_cases c7 : t382=true
  ·
   subst c7
   rw [if_pos rfl] at H
   have H' := zm H
   clear H
   go_wp2_with (first|((with_reducible refine gate_callee (f:=40) rfl ?_);refine ygl 10 Try.func40 #[.int .i64 a0, .int .i64 a1] ?_;(with_reducible refine (psalteryref12_Right.calls a0 a1 true _ A6.out).mono ?_);rintro e w' ⟨rfl,⟨nd,rfl⟩⟩;refine ⟨_,rfl, ?_⟩;obtain ⟨_,_⟩:=yc1 BK381))
   go_meet
   case rel=>exact ⟨_,(((l2_0.length : Int) != a1)),yq,H',⟨yo⟩,⟨yk BK381⟩,⟨yhb⟩⟩
  ·
   replace c7:=Bool.eq_false_iff.mpr c7
   subst c7
   rw [ynf] at H
   have H' := zm H
   clear H
   go_wp2_with (first|((with_reducible refine gate_callee (f:=40) rfl ?_);refine ygl 10 Try.func40 #[.int .i64 a0, .int .i64 a1] ?_;(with_reducible refine (psalteryref12_Right.calls a0 a1 false _ A6.out).mono ?_);rintro e w' ⟨rfl,⟨nd,rfl⟩⟩;refine ⟨_,rfl, ?_⟩))
   go_meet
   case rel=>exact ⟨_,(true),yq,H',⟨yo⟩,⟨yk BK381⟩,⟨yhb⟩⟩
 case rest =>
  clear HC4
  obtain ⟨kq,x18_3,rfl,HA,HJ3,BK381,HB⟩:=hcut
  obtain ⟨kj3,rfl⟩:=ysu kq (fun h=>by subst h;exact absurd HA.out (by simp [psalteryref23_Right.j0]))
  have H:=HA.out;clear HA
  simp only [psalteryref23_Right.j0] at H
  by_cases c9 : x18_3=true
  ·
   subst c9
   rw [if_pos rfl] at H
   obtain rfl:=Option.some.inj H
   go_wp2
   go_ret
   exact ⟨ye,yhb⟩
  ·
   replace c9:=Bool.eq_false_iff.mpr c9
   subst c9
   rw [ynf] at H
   have H' := zm H
   clear H
   go_wp2
   go_loopg [7] kj3 (fun kq v7 w' => ∃ (x7_2 : Int),v7=.int .i64 x7_2∧Aside0 (psalteryref23_Right.l0 kq a1 x7_2 l2_0=some r)∧Aside0 (kq≤kj3)∧Aside0 (w'.heap[gb381]? = some (.cells #[(.slice A2_0 l2_0.length c2_0)] 24 (0,0)))∧Aside0 (Below w.heap.size w w'))
   case atStart=>exact ⟨(0),yq,H',⟨Nat.le_refl _⟩,⟨yk BK381⟩,⟨yhb⟩⟩
   case round =>
    clear H'
    obtain ⟨x7_2,rfl,HA,HK2,BK381,HB⟩:=hrel
    obtain ⟨k2,rfl⟩:=ysu gk (fun h=>by subst h;exact absurd HA.out (by simp [psalteryref23_Right.l0]))
    have H:=HA.out;clear HA
    simp only [psalteryref23_Right.l0] at H
    by_cases c10 : x7_2 < a1
    ·
     rw [if_pos c10] at H
     have c10b0 : decide (x7_2 < a1)=true:=decide_eq_true c10
     clear c10
     replace H:=yif H;obtain ⟨c11,H⟩:=H
     have c11b0 : decide (0≤x7_2)=true:=decide_eq_true c11
     clear c11
     replace H:=yif H;obtain ⟨c12,H⟩:=H
     have c12b0 : decide (x7_2 < (l2_0.length : Int))=true:=decide_eq_true c12
     clear c12
     replace H:=ybi H;obtain ⟨t384,A13,H⟩:=H
     by_cases c14 : t384=true
     ·
      subst c14
      rw [if_pos rfl] at H
      have H' := zm H
      clear H
      obtain ⟨_,_⟩:=yc1 BK381
      have p383 : 0≤(x7_2 : Int):=yt
      have q383 : x7_2 < (l2_0.length : Int):=yt
      obtain ⟨ad383,A383_0,c383_0,e383,hx383_0,hl383_0,hi383_0⟩:=at_L1 HR2_0.out x7_2 p383 q383
      cases e383
      replace hx383_0:=yhx HB hx383_0
      have HR383_0:=zm hi383_0;have HC383_0:=zm hl383_0;clear hi383_0 hl383_0
      replace p383:=eq_true p383
      replace q383:=eq_true q383
      go_wp2_with (first|((with_reducible refine gate_callee (f:=41) rfl ?_);refine ygl 29 Try.func41 #[.slice A383_0 (rd_L1 l2_0 x7_2).length c383_0] ?_;(with_reducible refine (psalteryref10_Fair.calls k2 _ _ (rd_L1 l2_0 x7_2) true _ ?side1 HC383_0.out A13.out).mono ?_);(case side1=>exact ycb HR383_0);rintro e w' ⟨rfl,⟨nd,rfl⟩⟩;refine ⟨_,rfl, ?_⟩))
      go_roundg k2
      case measure=>exact yom2 HJ3 HK2
      case rel=>exact ⟨(wrap64 (x7_2+1)),yq,H',⟨yom2 HJ3 HK2⟩,⟨yk BK381⟩,⟨yhb⟩⟩
     ·
      replace c14:=Bool.eq_false_iff.mpr c14
      subst c14
      rw [ynf] at H
      obtain rfl:=Option.some.inj H
      obtain ⟨_,_⟩:=yc1 BK381
      have p383 : 0≤(x7_2 : Int):=yt
      have q383 : x7_2 < (l2_0.length : Int):=yt
      obtain ⟨ad383,A383_0,c383_0,e383,hx383_0,hl383_0,hi383_0⟩:=at_L1 HR2_0.out x7_2 p383 q383
      cases e383
      replace hx383_0:=yhx HB hx383_0
      have HR383_0:=zm hi383_0;have HC383_0:=zm hl383_0;clear hi383_0 hl383_0
      replace p383:=eq_true p383
      replace q383:=eq_true q383
      go_wp2_with (first|((with_reducible refine gate_callee (f:=41) rfl ?_);refine ygl 29 Try.func41 #[.slice A383_0 (rd_L1 l2_0 x7_2).length c383_0] ?_;(with_reducible refine (psalteryref10_Fair.calls k2 _ _ (rd_L1 l2_0 x7_2) false _ ?side1 HC383_0.out A13.out).mono ?_);(case side1=>exact ycb HR383_0);rintro e w' ⟨rfl,⟨nd,rfl⟩⟩;refine ⟨_,rfl, ?_⟩))
      go_ret
      exact ⟨ye,yhb⟩
    ·
     rw [if_neg c10] at H
     have c10b0 : decide (x7_2 < a1)=false:=decide_eq_false c10
     clear c10
     obtain rfl:=Option.some.inj H
     go_wp2
     go_ret
     exact ⟨ye,yhb⟩
def psalterylaw23_ToneEncodes.f (k : Nat) (a0 : Int) (a1 : Int) (l2_0 : List (List Int)) (a3 : Bool) : Option (Bool):=(psalterylaw23_great.f k l2_0).bind fun t524=>(if t524=true then ((psalterylaw23_knows.f k).bind fun t525=>(some t525)) else ((ccodec_Encode.f k a0 a1 l2_0 a3).bind fun bt526=>((psalteryref23_Right.f k a0 a1 l2_0).bind fun t535=>((ccodec_Right.f k a0 a1 l2_0).bind fun t536=>(if (t536 != t535)=true then (none) else (if t535=true then ((psalterylaw13_As.f bt526.1 bt526.2.1 bt526.2.2.1).bind fun bt546=>((psalteryref23_Encode.f k a0 a1 l2_0 a3).bind fun bt553=>((psalteryref13_Same.f k bt546.1 bt546.2.1 bt546.2.2 bt553.1 bt553.2.1 bt553.2.2).bind fun t560=>(if t560=true then (if bt526.2.2.2=0 then ((psalterylaw23_knows.f k).bind fun t561=>(some t561)) else (none)) else (none))))) else ((psalterylaw13_As.f bt526.1 bt526.2.1 bt526.2.2.1).bind fun bt537=>((psalteryref13_Same.f k bt537.1 bt537.2.1 bt537.2.2 false ([] : List (List Int)) ([] : List (List (List Int)))).bind fun t544=>(if t544=true then (if bt526.2.2.2=1 then ((psalterylaw23_knows.f k).bind fun t545=>(some t545)) else (none)) else (none))))))))))
theorem psalterylaw23_ToneEncodes.mono : ∀ a0 a1 a2 a3 k,LeO (psalterylaw23_ToneEncodes.f k a0 a1 a2 a3) (psalterylaw23_ToneEncodes.f (k+1) a0 a1 a2 a3):=by
 intro a0 a1 a2 a3 k
 unfold psalterylaw23_ToneEncodes.f
 repeat' with_reducible first|apply ccodec_Encode.mono|apply ccodec_Right.mono|apply psalterylaw23_great.mono|apply psalterylaw23_knows.mono|apply psalteryref13_Same.mono|apply psalteryref23_Encode.mono|apply psalteryref23_Right.mono|apply yLr|apply yLn|apply yLi|apply yLb|intro _
def psalterylaw23_ToneEncodes.T9 : Bool × List (List Nat × List Nat):=(true, [([], []),([0], [0]),([], []),([], []),([], []),([], []),([2,3,4,5,1], [2,3,4,5]),([1,6,6], [1,6]),([7,7], [7]),([8], [8]),([9,8], [8,9]),([8,10], [8,10]),([11,8], [11]),([12,12], [12]),([12,13], [12,13]),([14,13,0,1,2,3,4,5,6,7,8,9,10,11,12,13,14], [14])])
def psalterylaw23_ToneEncodes.B9 : List Nat := [0,1,0,0,0,0,63,127,255,511,1023,2047,4095,8191,16383,32767]
theorem psalterylaw23_ToneEncodes.tab9 : rtab .any (opsOf Try.f4 9)=psalterylaw23_ToneEncodes.T9:=by kernel_rfl
theorem psalterylaw23_ToneEncodes.bits9 : waitsOk psalterylaw23_ToneEncodes.T9.2 psalterylaw23_ToneEncodes.B9=true:=by kernel_rfl
set_option maxHeartbeats 8000000 in
set_option maxRecDepth 100000 in
theorem psalterylaw23_ToneEncodes.calls (k : Nat) (a0 : Int) (a1 : Int) (A2_0 : Option Addr) (c2_0 : Nat) (l2_0 : List (List Int)) (a3 : Bool) (r : Bool) (w : World) (hr2_0 : Kd.C (Kd.slice 2 (Kd.int .i64)) w A2_0 l2_0.length l2_0) (hc2_0 : l2_0.length≤c2_0) (h : psalterylaw23_ToneEncodes.f k a0 a1 l2_0 a3=some r) :
  Calls Try.prog 4 #[.int .i64 a0, .int .i64 a1, .agg #[.slice A2_0 l2_0.length c2_0], .bool a3] w fun e w' => e=.returned (.bool r)∧Below w.heap.size w w' := by
 have hu24:=Try.underlying24;have hu31:=Try.underlying31;have hu42:=Try.underlying42;have HR2_0:=zm hr2_0;have HC2_0:=zm hc2_0;clear hr2_0 hc2_0;have HB:=zm (Below.refl w.heap.size w)
 have H : ((psalterylaw23_great.f k l2_0).bind fun t524=>(if t524=true then ((psalterylaw23_knows.f k).bind fun t525=>(some t525)) else ((ccodec_Encode.f k a0 a1 l2_0 a3).bind fun bt526=>((psalteryref23_Right.f k a0 a1 l2_0).bind fun t535=>((ccodec_Right.f k a0 a1 l2_0).bind fun t536=>(if (t536 != t535)=true then (none) else (if t535=true then ((psalterylaw13_As.f bt526.1 bt526.2.1 bt526.2.2.1).bind fun bt546=>((psalteryref23_Encode.f k a0 a1 l2_0 a3).bind fun bt553=>((psalteryref13_Same.f k bt546.1 bt546.2.1 bt546.2.2 bt553.1 bt553.2.1 bt553.2.2).bind fun t560=>(if t560=true then (if bt526.2.2.2=0 then ((psalterylaw23_knows.f k).bind fun t561=>(some t561)) else (none)) else (none))))) else ((psalterylaw13_As.f bt526.1 bt526.2.1 bt526.2.2.1).bind fun bt537=>((psalteryref13_Same.f k bt537.1 bt537.2.1 bt537.2.2 false ([] : List (List Int)) ([] : List (List (List Int)))).bind fun t544=>(if t544=true then (if bt526.2.2.2=1 then ((psalterylaw23_knows.f k).bind fun t545=>(some t545)) else (none)) else (none)))))))))))=some r:=h
 clear h
 replace H:=ybi H;obtain ⟨t524,A5,H⟩:=H
 by_cases c6 : t524=true
 ·
  subst c6
  rw [if_pos rfl] at H
  replace H:=ybi H;obtain ⟨t525,A7,H⟩:=H
  obtain rfl:=Option.some.inj H
  go_enter Try.func4,Try.ntmps4
  go_wp2_with (first|((with_reducible refine gate_dst (N:=6) rfl ?_);refine ybx 6 #[.slice A2_0 l2_0.length c2_0] 24 ?_;intro gb523 hg w8 hbox hb;have BK523:=zm (hbox);have GW523:=ygw hg;have GE523:=ygw hg;replace HB:=ybs hb;clear hb hbox hg;obtain ⟨_,_⟩:=yc1 BK523)|((with_reducible refine gate_callee (f:=10) rfl ?_);refine ygl 13 Try.func10 #[.agg #[.slice A2_0 l2_0.length c2_0]] ?_;(with_reducible refine (psalterylaw23_great.calls k _ _ l2_0 true _ ?side1 HC2_0.out A5.out).mono ?_);(case side1=>exact ycb HR2_0);rintro e w10 ⟨rfl,hb⟩;refine ⟨_,rfl, ?_⟩;replace BK523:=ybb BK523 hb;replace HB:=ybs hb;(try clear hb))|((with_reducible refine gate_callee (f:=12) rfl ?_);refine ygl 14 Try.func12 #[] ?_;(with_reducible refine (psalterylaw23_knows.calls k  t525 _ A7.out).mono ?_);rintro e w11 ⟨rfl,hb⟩;refine ⟨_,rfl, ?_⟩;replace BK523:=ybb BK523 hb;replace HB:=ybs hb;(try clear hb)))
  go_ret
  exact ⟨ye,yhb⟩
 ·
  replace c6:=Bool.eq_false_iff.mpr c6
  subst c6
  rw [ynf] at H
  replace H:=ybi H;obtain ⟨⟨t526,t527,t530,t533⟩,A12,H⟩:=H
  try dsimp only at H
  replace H:=ybi H;obtain ⟨t535,A13,H⟩:=H
  replace H:=ybi H;obtain ⟨t536,A14,H⟩:=H
  replace H:=yie H;obtain ⟨c15,H⟩:=H
  have c15b0 : (t536 != t535)=false:=by simpa using c15
  (try (have c15b1 : decide (t536=t535)=true:=by simpa using c15))
  (try (have c15b2 : (t536 == t535)=true:=by simpa using c15))
  clear c15
  by_cases c16 : t535=true
  ·
   subst c16
   rw [if_pos rfl] at H
   replace H:=ybi H;obtain ⟨⟨t546,t547,t550⟩,A17,H⟩:=H
   try dsimp only at H
   replace H:=ybi H;obtain ⟨⟨t553,t554,t557⟩,A18,H⟩:=H
   try dsimp only at H
   replace H:=ybi H;obtain ⟨t560,A19,H⟩:=H
   replace H:=yif H;obtain ⟨c20,H⟩:=H
   subst c20
   by_cases c21 : t533=0
   ·
    rw [if_pos c21] at H
    have c21b0 : (t533 == 0)=true:=beq_iff_eq.mpr c21
    have c21b1 : (t533 != 0)=false:=bne_eq_false_iff_eq.mpr c21
    clear c21
    replace H:=ybi H;obtain ⟨t561,A22,H⟩:=H
    obtain rfl:=Option.some.inj H
    go_enter Try.func4,Try.ntmps4
    try go_wp2_with (first|((with_reducible refine gate_dst (N:=6) rfl ?_);refine ybx 6 #[.slice A2_0 l2_0.length c2_0] 24 ?_;intro gb523 hg w23 hbox hb;have BK523:=zm (hbox);have GW523:=ygw hg;have GE523:=ygw hg;replace HB:=ybs hb;clear hb hbox hg;obtain ⟨_,_⟩:=yc1 BK523)|((with_reducible refine gate_callee (f:=10) rfl ?_);refine ygl 13 Try.func10 #[.agg #[.slice A2_0 l2_0.length c2_0]] ?_;(with_reducible refine (psalterylaw23_great.calls k _ _ l2_0 false _ ?side1 HC2_0.out A5.out).mono ?_);(case side1=>exact ycb HR2_0);rintro e w25 ⟨rfl,hb⟩;refine ⟨_,rfl, ?_⟩;replace BK523:=ybb BK523 hb;replace HB:=ybs hb;(try clear hb);obtain ⟨_,_⟩:=yc1 BK523)|((with_reducible refine gate_callee (f:=13) rfl ?_);refine ygl 20 Try.func13 #[.int .i64 a0, .int .i64 a1, .agg #[.slice A2_0 l2_0.length c2_0], .bool a3] ?_;(with_reducible refine (ccodec_Encode.calls k a0 a1 _ _ l2_0 a3 t526 t527 t530 t533 _ ?side1 HC2_0.out A12.out).mono ?_);(case side1=>exact ycb HR2_0);rintro e w27 ⟨v528,v531,rfl,ho0,ho1,hb⟩;refine ⟨_,rfl, ?_⟩;have HO529:=zm (Kd.N_lower (Kd.N_mono (ok' := fun k_=>some k_≠(v531 : Value).ownBlock∧k_≠gb523) ho0 (fun k_ hk_=>⟨hk_.2,(Kd.freshB (yk BK523) k_ hk_.1)⟩)) (zE yhb));have HO532:=zm (Kd.N_lower (Kd.N_mono (ok' := fun k_=>some k_≠(v528 : Value).ownBlock∧k_≠gb523) ho1 (fun k_ hk_=>⟨hk_.2,(Kd.freshB (yk BK523) k_ hk_.1)⟩)) (zE yhb));replace BK523:=ybb BK523 hb;replace HB:=ybs hb;(try clear hb);(try clear ho0);(try clear ho1))|((with_reducible refine gate_dst (N:=9) rfl ?_);refine ybx 9 #[.bool false, .slice none 0 0, .slice none 0 0] 31 ?_;intro gb534 hg w28 hbox hb;replace HO529:=zm (Kd.N_below (Kd.N_elderB (yr HO529) gb534 (Nat.le_of_eq hg.symm)) hb);replace HO532:=zm (Kd.N_below (Kd.N_elderB (yr HO532) gb534 (Nat.le_of_eq hg.symm)) hb);have BK534:=zm (hbox);have GW534:=ygw hg;have GE534:=ygw hg;replace HB:=ybs hb;have NB523_534:=ynl BK523 hg;have NB534_523:=yng BK523 hg;replace BK523:=ybb BK523 hb;clear hb hbox hg;have:=NB534_523.out;have:=NB523_534.out;obtain ⟨_,_,_,_,_,_⟩:=yc3 BK534;obtain ⟨Ao31,co31,eo31⟩:=Kd.N_slice HO529.out;subst eo31;obtain ⟨Ao32,co32,eo32⟩:=Kd.N_slice HO532.out;subst eo32;obtain ⟨_,_⟩:=yc1 BK523)|((with_reducible refine gate_callee (f:=14) rfl ?_);refine ygl 26 Try.func14 #[.int .i64 a0, .int .i64 a1, .agg #[.slice A2_0 l2_0.length c2_0]] ?_;(with_reducible refine (psalteryref23_Right.calls k a0 a1 _ _ l2_0 true _ ?side1 HC2_0.out A13.out).mono ?_);(case side1=>exact Kd.C_below HR2_0.out yhb);rintro e w34 ⟨rfl,hb⟩;refine ⟨_,rfl, ?_⟩;replace HO529:=zm (Kd.N_below (yN0 HO529) hb);replace HO532:=zm (Kd.N_below (yN0 HO532) hb);replace BK523:=ybb BK523 hb;replace BK534:=zm (zF (g:=gb534) (o:=.cells #[.bool t526, .slice Ao31 t527.length co31, .slice Ao32 t530.length co32] 31 (0,0)) (ykp BK534) hb);replace HB:=ybs hb;(try clear hb);obtain ⟨_,_⟩:=yc1 BK523)|((with_reducible refine gate_callee (f:=20) rfl ?_);refine ygl 30 Try.func20 #[.int .i64 a0, .int .i64 a1, .agg #[.slice A2_0 l2_0.length c2_0]] ?_;(with_reducible refine (ccodec_Right.calls k a0 a1 _ _ l2_0 t536 _ ?side1 HC2_0.out A14.out).mono ?_);(case side1=>exact ycb HR2_0);rintro e w36 ⟨rfl,hb⟩;refine ⟨_,rfl, ?_⟩;replace HO529:=yNb HO529 hb;replace HO532:=yNb HO532 hb;replace BK523:=ybb BK523 hb;replace BK534:=ybb BK534 hb;replace HB:=ybs hb;(try clear hb)))
    replace HO529:=zm (Kd.N_drew HO529.out)
    replace HO532:=zm (Kd.N_drew HO532.out)
    replace BK523:=zm (zj BK523.out)
    replace BK534:=zm (zj BK534.out)
    replace HB:=zm (zf HB.out)
    refine yst (fun w' => w'.cell? ⟨gb534,0,none⟩=some (.bool t526)∧w'.cell? ⟨gb534,1,none⟩=some (.slice Ao31 t527.length co31)∧w'.cell? ⟨gb534,2,none⟩=some (.slice Ao32 t530.length co32)∧w'.cell? ⟨gb523,0,none⟩=some (.slice A2_0 l2_0.length c2_0)) [] 16 psalterylaw23_ToneEncodes.tab9 psalterylaw23_ToneEncodes.bits9 (fun hHeld HT_ HW_ => ?_)
    generalize w36.drew=w37 at HO529 HO532 BK523 BK534 HB hHeld ⊢
    refine yp 2 48 HT_ ?_
    refine yp 3 49 HT_ ?_
    refine yp 5 51 HT_ ?_
    refine yl 0 46 HT_ HW_ hHeld ?_
    refine yl 4 50 HT_ HW_ hHeld ?_
    refine yw 1 47 HT_ (fun K hK => ?_)
    refine ygs Try.func19 #[.agg #[.bool t526, .slice Ao31 t527.length co31, .slice Ao32 t530.length co32]] ?_
    with_reducible refine (psalterylaw13_As.calls t526 (fun k_=>((some k_≠(.slice Ao32 t530.length co32 : Value).ownBlock∧k_≠gb523)∧k_≠gb534)) _ _ t527 (fun k_=>((some k_≠(.slice Ao31 t527.length co31 : Value).ownBlock∧k_≠gb523)∧k_≠gb534)) _ _ t530 t546 t547 t550 _ ?side1 ?side2 A17.out).mono ?_
    (case side1=>exact Kd.N_V (HO529.out))
    (case side2=>exact Kd.N_V (HO532.out))
    rintro e w38 ⟨v548,v551,rfl,ho0,ho1,hb⟩
    refine ⟨_,rfl, ?_⟩
    replace HO529:=yNb HO529 hb
    replace HO532:=yNb HO532 hb
    have HO549:=yho (fun k_=>k_≠gb523∧k_≠gb534) ho0 (fun k_ hk_=>⟨yoB BK523 hk_,yoB BK534 hk_⟩)
    have HO552:=yho (fun k_=>k_≠gb523∧k_≠gb534) ho1 (fun k_ hk_=>⟨yoB BK523 hk_,yoB BK534 hk_⟩)
    replace BK523:=ybb BK523 hb
    replace BK534:=ybb BK534 hb
    replace HB:=ybs hb
    (try clear hb)
    (try clear ho0)
    (try clear ho1)
    refine hK.out _ _ yH (fun hHeld => ?_)
    clear hK K
    refine ym (some 47) ?_
    refine yw 6 52 HT_ (fun K hK => ?_)
    refine ygs Try.func21 #[.int .i64 a0, .int .i64 a1, .agg #[.slice A2_0 l2_0.length c2_0], .bool a3] ?_
    with_reducible refine (psalteryref23_Encode.calls k a0 a1 _ _ l2_0 a3 t553 t554 t557 _ ?side1 ?side2 A18.out).mono ?_
    (case side1=>exact ycb HR2_0)
    (case side2=>exact HC2_0.out)
    rintro e w39 ⟨v555,v558,rfl,ho0,ho1,hb⟩
    refine ⟨_,rfl, ?_⟩
    replace HO549:=zm (zy (Kd.V_told (Kd.V_told (Kd.V_old (yr HO549) hb) (Kd.S_base ho0)) (Kd.R_base ho1)) (fun _ h_=>h_.1))
    replace HO552:=zm (zy (Kd.V_told (Kd.V_told (Kd.V_old (yr HO552) hb) (Kd.S_base ho0)) (Kd.R_base ho1)) (fun _ h_=>h_.1))
    have HO556:=zm (Kd.N_lower (Kd.N_mono (ok' := fun k_=>some k_≠(v558 : Value).ownBlock∧some k_≠(.slice Ao31 t527.length co31 : Value).ownBlock∧some k_≠(.slice Ao32 t530.length co32 : Value).ownBlock∧k_≠gb523∧k_≠gb534) (Kd.S_N (Kd.S_bound (Kd.S_apart' ho0 (Kd.R_typed ho1) (by decide)))) (fun k_ hk_=>⟨hk_.1.2,(Kd.fresh' (Kd.N_lt (yr HO529)) k_ hk_.2.1),(Kd.fresh' (Kd.N_lt (yr HO532)) k_ hk_.2.1),(Kd.freshB (yk BK523) k_ hk_.2.1),(Kd.freshB (yk BK534) k_ hk_.2.1)⟩)) (zE yhb))
    have HO559:=zm (Kd.N_lower (Kd.N_mono (ok' := fun k_=>some k_≠(v555 : Value).ownBlock∧some k_≠(.slice Ao31 t527.length co31 : Value).ownBlock∧some k_≠(.slice Ao32 t530.length co32 : Value).ownBlock∧k_≠gb523∧k_≠gb534) (Kd.R_N (Kd.R_bound ho1)) (fun k_ hk_=>⟨hk_.1,(Kd.fresh' (Kd.N_lt (yr HO529)) k_ hk_.2.1),(Kd.fresh' (Kd.N_lt (yr HO532)) k_ hk_.2.1),(Kd.freshB (yk BK523) k_ hk_.2.1),(Kd.freshB (yk BK534) k_ hk_.2.1)⟩)) (zE yhb))
    replace HO529:=zm (Kd.N_mono (Kd.N_told (Kd.N_told (Kd.N_old (yr HO529) hb) (Kd.S_base ho0)) (Kd.R_base ho1)) (fun _ h_=>h_.1))
    replace HO532:=zm (Kd.N_mono (Kd.N_told (Kd.N_told (Kd.N_old (yr HO532) hb) (Kd.S_base ho0)) (Kd.R_base ho1)) (fun _ h_=>h_.1))
    replace BK523:=ybb BK523 hb
    replace BK534:=ybb BK534 hb
    replace HB:=ybs hb
    (try clear hb)
    (try clear ho0)
    (try clear ho1)
    obtain ⟨Ao40,co40,eo40⟩:=Kd.V_slice HO549.out
    (first|subst eo40|(injection eo40 with f1_ f2_ f3_;have f4_:=f1_.symm;have f5_:=f3_.symm;clear f1_ f2_ f3_;subst f4_;subst f5_))
    obtain ⟨Ao41,co41,eo41⟩:=Kd.V_slice HO552.out
    (first|subst eo41|(injection eo41 with f1_ f2_ f3_;have f4_:=f1_.symm;have f5_:=f3_.symm;clear f1_ f2_ f3_;subst f4_;subst f5_))
    obtain ⟨Ao42,co42,eo42⟩:=Kd.N_slice HO556.out
    (first|subst eo42|(injection eo42 with f1_ f2_ f3_;have f4_:=f1_.symm;have f5_:=f3_.symm;clear f1_ f2_ f3_;subst f4_;subst f5_))
    obtain ⟨Ao43,co43,eo43⟩:=Kd.N_slice HO559.out
    (first|subst eo43|(injection eo43 with f1_ f2_ f3_;have f4_:=f1_.symm;have f5_:=f3_.symm;clear f1_ f2_ f3_;subst f4_;subst f5_))
    refine hK.out _ _ yH (fun hHeld => ?_)
    clear hK K
    refine ym (some 52) ?_
    refine yw 7 53 HT_ (fun K hK => ?_)
    refine ygs Try.func18 #[.agg #[.bool t546, .slice Ao40 t547.length co40, .slice Ao41 t550.length co41], .agg #[.bool t553, .slice Ao42 t554.length co42, .slice Ao43 t557.length co43]] ?_
    with_reducible refine (psalteryref13_Same.calls k t546 _ _ t547 _ _ t550 t553 _ _ t554 _ _ t557 true _ ?side1 ?side2 ?side3 ?side4 ?side5 ?side6 ?side7 ?side8 A19.out).mono ?_
    (case side1=>exact yce (Kd.V_reads' HO549.out).2.2)
    (case side2=>exact (Kd.V_reads' HO549.out).2.1)
    (case side3=>exact yce (Kd.V_reads' HO552.out).2.2)
    (case side4=>exact (Kd.V_reads' HO552.out).2.1)
    (case side5=>exact yce (Kd.N_reads' HO556.out).2.2)
    (case side6=>exact (Kd.N_reads' HO556.out).2.1)
    (case side7=>exact yce (Kd.N_reads' HO559.out).2.2)
    (case side8=>exact (Kd.N_reads' HO559.out).2.1)
    rintro e w44 ⟨rfl,hb⟩
    refine ⟨_,rfl, ?_⟩
    replace HO529:=yNb HO529 hb
    replace HO532:=yNb HO532 hb
    replace HO549:=yVb HO549 hb
    replace HO552:=yVb HO552 hb
    replace HO556:=yNb HO556 hb
    replace HO559:=yNb HO559 hb
    replace BK523:=ybb BK523 hb
    replace BK534:=ybb BK534 hb
    replace HB:=ybs hb
    (try clear hb)
    refine hK.out _ _ yH (fun hHeld => ?_)
    clear hK K
    refine ym (some 53) ?_
    refine yp 8 54 HT_ ?_
    refine yp 9 55 HT_ ?_
    refine yp 10 56 HT_ ?_
    refine yp 11 57 HT_ ?_
    refine yp 12 58 HT_ ?_
    refine yw 13 59 HT_ (fun K hK => ?_)
    refine ygs Try.func12 #[] ?_
    with_reducible refine (psalterylaw23_knows.calls k  t561 _ A22.out).mono ?_
    rintro e w45 ⟨rfl,hb⟩
    refine ⟨_,rfl, ?_⟩
    replace HO529:=yNb HO529 hb
    replace HO532:=yNb HO532 hb
    replace HO549:=yVb HO549 hb
    replace HO552:=yVb HO552 hb
    replace HO556:=yNb HO556 hb
    replace HO559:=yNb HO559 hb
    replace BK523:=ybb BK523 hb
    replace BK534:=ybb BK534 hb
    replace HB:=ybs hb
    (try clear hb)
    refine hK.out _ _ yH (fun hHeld => ?_)
    clear hK K
    refine ym (some 59) ?_
    refine yp 14 60 HT_ ?_
    refine yp 15 8 HT_ ?_
    refine done_ (done_of HT_.out (by kernel_rfl)) ?_
    try go_wp2
    go_ret
    exact ⟨ye,yhb⟩
   ·
    rw [if_neg c21] at H
    have c21b0 : (t533 == 0)=false:=beq_eq_false_iff_ne.mpr c21
    have c21b1 : (t533 != 0)=true:=bne_iff_ne.mpr c21
    exact absurd H (by simp)
  ·
   replace c16:=Bool.eq_false_iff.mpr c16
   subst c16
   rw [ynf] at H
   replace H:=ybi H;obtain ⟨⟨t537,t538,t541⟩,A46,H⟩:=H
   try dsimp only at H
   replace H:=ybi H;obtain ⟨t544,A47,H⟩:=H
   replace H:=yif H;obtain ⟨c48,H⟩:=H
   subst c48
   replace H:=yif H;obtain ⟨c49,H⟩:=H
   have c49b0 : (t533 == 1)=true:=beq_iff_eq.mpr c49
   have c49b1 : (t533 != 1)=false:=bne_eq_false_iff_eq.mpr c49
   clear c49
   replace H:=ybi H;obtain ⟨t545,A50,H⟩:=H
   obtain rfl:=Option.some.inj H
   go_enter Try.func4,Try.ntmps4
   go_wp2_with (first|((with_reducible refine gate_dst (N:=6) rfl ?_);refine ybx 6 #[.slice A2_0 l2_0.length c2_0] 24 ?_;intro gb523 hg w51 hbox hb;have BK523:=zm (hbox);have GW523:=ygw hg;have GE523:=ygw hg;replace HB:=ybs hb;clear hb hbox hg;obtain ⟨_,_⟩:=yc1 BK523)|((with_reducible refine gate_callee (f:=10) rfl ?_);refine ygl 13 Try.func10 #[.agg #[.slice A2_0 l2_0.length c2_0]] ?_;(with_reducible refine (psalterylaw23_great.calls k _ _ l2_0 false _ ?side1 HC2_0.out A5.out).mono ?_);(case side1=>exact ycb HR2_0);rintro e w53 ⟨rfl,hb⟩;refine ⟨_,rfl, ?_⟩;replace BK523:=ybb BK523 hb;replace HB:=ybs hb;(try clear hb);obtain ⟨_,_⟩:=yc1 BK523)|((with_reducible refine gate_callee (f:=13) rfl ?_);refine ygl 20 Try.func13 #[.int .i64 a0, .int .i64 a1, .agg #[.slice A2_0 l2_0.length c2_0], .bool a3] ?_;(with_reducible refine (ccodec_Encode.calls k a0 a1 _ _ l2_0 a3 t526 t527 t530 t533 _ ?side1 HC2_0.out A12.out).mono ?_);(case side1=>exact ycb HR2_0);rintro e w55 ⟨v528,v531,rfl,ho0,ho1,hb⟩;refine ⟨_,rfl, ?_⟩;have HO529:=zm (Kd.N_lower (Kd.N_mono (ok' := fun k_=>some k_≠(v531 : Value).ownBlock∧k_≠gb523) ho0 (fun k_ hk_=>⟨hk_.2,(Kd.freshB (yk BK523) k_ hk_.1)⟩)) (zE yhb));have HO532:=zm (Kd.N_lower (Kd.N_mono (ok' := fun k_=>some k_≠(v528 : Value).ownBlock∧k_≠gb523) ho1 (fun k_ hk_=>⟨hk_.2,(Kd.freshB (yk BK523) k_ hk_.1)⟩)) (zE yhb));replace BK523:=ybb BK523 hb;replace HB:=ybs hb;(try clear hb);(try clear ho0);(try clear ho1))|((with_reducible refine gate_dst (N:=9) rfl ?_);refine ybx 9 #[.bool false, .slice none 0 0, .slice none 0 0] 31 ?_;intro gb534 hg w56 hbox hb;replace HO529:=zm (Kd.N_below (Kd.N_elderB (yr HO529) gb534 (Nat.le_of_eq hg.symm)) hb);replace HO532:=zm (Kd.N_below (Kd.N_elderB (yr HO532) gb534 (Nat.le_of_eq hg.symm)) hb);have BK534:=zm (hbox);have GW534:=ygw hg;have GE534:=ygw hg;replace HB:=ybs hb;have NB523_534:=ynl BK523 hg;have NB534_523:=yng BK523 hg;replace BK523:=ybb BK523 hb;clear hb hbox hg;have:=NB534_523.out;have:=NB523_534.out;obtain ⟨_,_,_,_,_,_⟩:=yc3 BK534;obtain ⟨Ao59,co59,eo59⟩:=Kd.N_slice HO529.out;subst eo59;obtain ⟨Ao60,co60,eo60⟩:=Kd.N_slice HO532.out;subst eo60;obtain ⟨_,_⟩:=yc1 BK523)|((with_reducible refine gate_callee (f:=14) rfl ?_);refine ygl 26 Try.func14 #[.int .i64 a0, .int .i64 a1, .agg #[.slice A2_0 l2_0.length c2_0]] ?_;(with_reducible refine (psalteryref23_Right.calls k a0 a1 _ _ l2_0 false _ ?side1 HC2_0.out A13.out).mono ?_);(case side1=>exact Kd.C_below HR2_0.out yhb);rintro e w62 ⟨rfl,hb⟩;refine ⟨_,rfl, ?_⟩;replace HO529:=zm (Kd.N_below (yN0 HO529) hb);replace HO532:=zm (Kd.N_below (yN0 HO532) hb);replace BK523:=ybb BK523 hb;replace BK534:=zm (zF (g:=gb534) (o:=.cells #[.bool t526, .slice Ao59 t527.length co59, .slice Ao60 t530.length co60] 31 (0,0)) (ykp BK534) hb);replace HB:=ybs hb;(try clear hb);obtain ⟨_,_⟩:=yc1 BK523)|((with_reducible refine gate_callee (f:=20) rfl ?_);refine ygl 30 Try.func20 #[.int .i64 a0, .int .i64 a1, .agg #[.slice A2_0 l2_0.length c2_0]] ?_;(with_reducible refine (ccodec_Right.calls k a0 a1 _ _ l2_0 t536 _ ?side1 HC2_0.out A14.out).mono ?_);(case side1=>exact ycb HR2_0);rintro e w64 ⟨rfl,hb⟩;refine ⟨_,rfl, ?_⟩;replace HO529:=yNb HO529 hb;replace HO532:=yNb HO532 hb;replace BK523:=ybb BK523 hb;replace BK534:=ybb BK534 hb;replace HB:=ybs hb;(try clear hb);obtain ⟨_,_,_,_,_,_⟩:=yc3 BK534)|((with_reducible refine gate_callee (f:=19) rfl ?_);refine ygl 36 Try.func19 #[.agg #[.bool t526, .slice Ao59 t527.length co59, .slice Ao60 t530.length co60]] ?_;(with_reducible refine (psalterylaw13_As.calls t526 (fun k_=>((some k_≠(.slice Ao60 t530.length co60 : Value).ownBlock∧k_≠gb523)∧k_≠gb534)) _ _ t527 (fun k_=>((some k_≠(.slice Ao59 t527.length co59 : Value).ownBlock∧k_≠gb523)∧k_≠gb534)) _ _ t530 t537 t538 t541 _ ?side1 ?side2 A46.out).mono ?_);(case side1=>exact Kd.N_V (HO529.out));(case side2=>exact Kd.N_V (HO532.out));rintro e w66 ⟨v539,v542,rfl,ho0,ho1,hb⟩;refine ⟨_,rfl, ?_⟩;replace HO529:=yNb HO529 hb;replace HO532:=yNb HO532 hb;have HO540:=yho (fun k_=>k_≠gb523∧k_≠gb534) ho0 (fun k_ hk_=>⟨yoB BK523 hk_,yoB BK534 hk_⟩);have HO543:=yho (fun k_=>k_≠gb523∧k_≠gb534) ho1 (fun k_ hk_=>⟨yoB BK523 hk_,yoB BK534 hk_⟩);replace BK523:=ybb BK523 hb;replace BK534:=ybb BK534 hb;replace HB:=ybs hb;(try clear hb);(try clear ho0);(try clear ho1);obtain ⟨Ao67,co67,eo67⟩:=Kd.V_slice HO540.out;subst eo67;obtain ⟨Ao68,co68,eo68⟩:=Kd.V_slice HO543.out;subst eo68)|((with_reducible refine gate_callee (f:=18) rfl ?_);refine ygl 38 Try.func18 #[.agg #[.bool t537, .slice Ao67 t538.length co67, .slice Ao68 t541.length co68], .agg #[.bool false, .slice none 0 0, .slice none 0 0]] ?_;(refine (psalteryref13_Same.calls k t537 _ _ t538 _ _ t541 false _ _ ([] : List (List Int)) _ _ ([] : List (List (List Int))) true _ ?side1 ?side2 ?side3 ?side4 ?side5 ?side6 ?side7 ?side8 A47.out).mono ?_);(case side1=>exact yce (Kd.V_reads' HO540.out).2.2);(case side2=>exact (Kd.V_reads' HO540.out).2.1);(case side3=>exact yce (Kd.V_reads' HO543.out).2.2);(case side4=>exact (Kd.V_reads' HO543.out).2.1);(case side5=>exact Kd.C_nil _ _);(case side6=>exact Nat.le_refl _);(case side7=>exact Kd.C_nil _ _);(case side8=>exact Nat.le_refl _);rintro e w69 ⟨rfl,hb⟩;refine ⟨_,rfl, ?_⟩;replace HO529:=yNb HO529 hb;replace HO532:=yNb HO532 hb;replace HO540:=yVb HO540 hb;replace HO543:=yVb HO543 hb;replace BK523:=ybb BK523 hb;replace BK534:=ybb BK534 hb;replace HB:=ybs hb;(try clear hb))|(go_at_call 12;(with_reducible refine (psalterylaw23_knows.calls k  t545 _ A50.out).mono ?_);rintro e w70 ⟨rfl,hb⟩;replace HO529:=yNb HO529 hb;replace HO532:=yNb HO532 hb;replace HO540:=yVb HO540 hb;replace HO543:=yVb HO543 hb;replace BK523:=ybb BK523 hb;replace BK534:=ybb BK534 hb;replace HB:=ybs hb;(try clear hb)))
   go_ret
   exact ⟨ye,yhb⟩
def psalteryref11_Right.l0 : Nat→List Int→Bool→Int→Option (Bool)
 | 0,_,_,_=>none
 | k+1,x0,x3,x4=>if x4 < (x0.length : Int) then (if x3=true then (if 0≤x4 then (if (rd x0 x4) ≥ 0 then (psalteryref11_Right.l0 k x0 (decide ((rd x0 x4)≤44)) (wrap64 (x4+1))) else (psalteryref11_Right.l0 k x0 false (wrap64 (x4+1)))) else (none)) else (psalteryref11_Right.l0 k x0 false (wrap64 (x4+1)))) else (some x3)
def psalteryref11_Right.f (k : Nat) (l0 : List Int) : Option (Bool):=psalteryref11_Right.l0 k l0 ((l0.length : Int) == 5) 0
theorem psalteryref11_Right.mono_l : ∀ k,(∀ y0 y1 y2,LeO (psalteryref11_Right.l0 k y0 y1 y2) (psalteryref11_Right.l0 (k+1) y0 y1 y2))
 | 0=>fun _ _ _ r h=>by simp [psalteryref11_Right.l0] at h
 | k+1=>by
  have ih0:=psalteryref11_Right.mono_l k
  ·
   intro y0 y1 y2
   unfold psalteryref11_Right.l0
   repeat' with_reducible first|apply ih0|apply yLr|apply yLn|apply yLi|apply yLb|intro _
theorem psalteryref11_Right.mono : ∀ a0 k,LeO (psalteryref11_Right.f k a0) (psalteryref11_Right.f (k+1) a0):=by
 intro a0 k
 have ih0:=psalteryref11_Right.mono_l k
 unfold psalteryref11_Right.f
 repeat' with_reducible first|apply ih0|apply yLr|apply yLn|apply yLi|apply yLb|intro _
set_option maxHeartbeats 8000000 in
set_option maxRecDepth 100000 in
theorem psalteryref11_Right.calls (k : Nat) (A0 : Option Addr) (c0 : Nat) (l0 : List Int) (r : Bool) (w : World) (hr0 : Kd.C (Kd.int .i64) w A0 l0.length l0) (hc0 : l0.length≤c0) (h : psalteryref11_Right.f k l0=some r) :
  Calls Try.prog 34 #[.slice A0 l0.length c0] w fun e w' => e=.returned (.bool r)∧Drawn0 w w' := by
 have HR0:=zm hr0;have HC0:=zm hc0;clear hr0 hc0
 have H : (psalteryref11_Right.l0 k l0 ((l0.length : Int) == 5) 0)=some r:=h
 clear h
 have H' := zm H
 clear H
 go_enter Try.func34,Try.ntmps34
 go_wp2
 go_loopg [3,4] k (fun kq v3 v4 w' => ∃ (x3_1 : Bool) (x4_1 : Int),v3=.bool x3_1∧v4=.int .i64 x4_1∧Aside0 (psalteryref11_Right.l0 kq l0 x3_1 x4_1=some r)∧Aside0 (kq≤k)∧Drawn0 w w')
 case atStart=>exact ⟨(((l0.length : Int) == 5)),(0),yq,yq,H',⟨Nat.le_refl _⟩,yd⟩
 case round =>
  clear H'
  obtain ⟨x3_1,x4_1,rfl,rfl,HA,HK1,⟨m1,rfl⟩⟩:=hrel
  obtain ⟨k1,rfl⟩:=ysu gk (fun h=>by subst h;exact absurd HA.out (by simp [psalteryref11_Right.l0]))
  have H:=HA.out;clear HA
  simp only [psalteryref11_Right.l0] at H
  by_cases c2 : x4_1 < (l0.length : Int)
  ·
   rw [if_pos c2] at H
   have c2b0 : decide (x4_1 < (l0.length : Int))=true:=decide_eq_true c2
   clear c2
   by_cases c3 : x3_1=true
   ·
    subst c3
    rw [if_pos rfl] at H
    replace H:=yif H;obtain ⟨c4,H⟩:=H
    have c4b0 : decide (0≤x4_1)=true:=decide_eq_true c4
    clear c4
    by_cases c5 : (rd l0 x4_1) ≥ 0
    ·
     rw [if_pos c5] at H
     have c5b0 : decide (0≤(rd l0 x4_1))=true:=decide_eq_true c5
     clear c5
     have H' := zm H
     clear H
     obtain ⟨ad568,e568,hx568_0,p568,q568⟩:=yai HR0 x4_1
     cases e568
     have p569 : 0≤(x4_1 : Int):=yt
     have q569 : x4_1 < (l0.length : Int):=yt
     obtain ⟨ad569,e569,hx569_0⟩:=Kd.at_int HR0.out x4_1 p569 q569
     obtain rfl : ad568=ad569:=(by injection e569)
     replace p569:=eq_true p569
     replace q569:=eq_true q569
     go_wp2
     go_roundg k1
     case measure=>exact yom1 HK1
     case rel=>exact ⟨(decide ((rd l0 x4_1)≤44)),(wrap64 (x4_1+1)),yq,yq,H',⟨yom1 HK1⟩,yd⟩
    ·
     rw [if_neg c5] at H
     have c5b0 : decide (0≤(rd l0 x4_1))=false:=decide_eq_false c5
     clear c5
     have H' := zm H
     clear H
     obtain ⟨ad568,e568,hx568_0,p568,q568⟩:=yai HR0 x4_1
     cases e568
     go_wp2
     go_roundg k1
     case measure=>exact yom1 HK1
     case rel=>exact ⟨(false),(wrap64 (x4_1+1)),yq,yq,H',⟨yom1 HK1⟩,yd⟩
   ·
    replace c3:=Bool.eq_false_iff.mpr c3
    subst c3
    rw [ynf] at H
    have H' := zm H
    clear H
    go_wp2
    go_roundg k1
    case measure=>exact yom1 HK1
    case rel=>exact ⟨(false),(wrap64 (x4_1+1)),yq,yq,H',⟨yom1 HK1⟩,yd⟩
  ·
   rw [if_neg c2] at H
   have c2b0 : decide (x4_1 < (l0.length : Int))=false:=decide_eq_false c2
   clear c2
   obtain rfl:=Option.some.inj H
   go_wp2
   go_ret
   exact ⟨yq,yd⟩
def psalteryref12_Fair.l0 : Nat→List (List Int)→Int→Option (Bool)
 | 0,_,_=>none
 | k+1,x1,x5=>if x5 < (x1.length : Int) then (if 0≤x5 then ((psalteryref11_Right.f k (rd_L2 x1 x5)).bind fun t571=>(if t571=true then (psalteryref12_Fair.l0 k x1 (wrap64 (x5+1))) else (some false))) else (none)) else (some true)
def psalteryref12_Fair.f (k : Nat) (a0 : Int) (l1 : List (List Int)) : Option (Bool):=if (l1.length : Int)=a0 then (psalteryref12_Fair.l0 k l1 0) else (some false)
theorem psalteryref12_Fair.mono_l : ∀ k,(∀ y0 y1,LeO (psalteryref12_Fair.l0 k y0 y1) (psalteryref12_Fair.l0 (k+1) y0 y1))
 | 0=>fun _ _ r h=>by simp [psalteryref12_Fair.l0] at h
 | k+1=>by
  have ih0:=psalteryref12_Fair.mono_l k
  ·
   intro y0 y1
   unfold psalteryref12_Fair.l0
   repeat' with_reducible first|apply ih0|apply psalteryref11_Right.mono|apply yLr|apply yLn|apply yLi|apply yLb|intro _
theorem psalteryref12_Fair.mono : ∀ a0 a1 k,LeO (psalteryref12_Fair.f k a0 a1) (psalteryref12_Fair.f (k+1) a0 a1):=by
 intro a0 a1 k
 have ih0:=psalteryref12_Fair.mono_l k
 unfold psalteryref12_Fair.f
 repeat' with_reducible first|apply ih0|apply psalteryref11_Right.mono|apply yLr|apply yLn|apply yLi|apply yLb|intro _
set_option maxHeartbeats 8000000 in
set_option maxRecDepth 100000 in
theorem psalteryref12_Fair.calls (k : Nat) (a0 : Int) (A1 : Option Addr) (c1 : Nat) (l1 : List (List Int)) (r : Bool) (w : World) (hr1 : Kd.C (Kd.slice 3 (Kd.int .i64)) w A1 l1.length l1) (hc1 : l1.length≤c1) (h : psalteryref12_Fair.f k a0 l1=some r) :
  Calls Try.prog 11 #[.int .i64 a0, .slice A1 l1.length c1] w fun e w' => e=.returned (.bool r)∧Drawn0 w w' := by
 have HR1:=zm hr1;have HC1:=zm hc1;clear hr1 hc1
 have H : (if (l1.length : Int)=a0 then (psalteryref12_Fair.l0 k l1 0) else (some false))=some r:=h
 clear h
 by_cases c3 : (l1.length : Int)=a0
 ·
  rw [if_pos c3] at H
  have c3b0 : ((l1.length : Int) == a0)=true:=beq_iff_eq.mpr c3
  have c3b1 : ((l1.length : Int) != a0)=false:=bne_eq_false_iff_eq.mpr c3
  clear c3
  have H' := zm H
  clear H
  go_enter Try.func11,Try.ntmps11
  go_wp2
  go_loopg [5] k (fun kq v5 w' => ∃ (x5_1 : Int),v5=.int .i64 x5_1∧Aside0 (psalteryref12_Fair.l0 kq l1 x5_1=some r)∧Aside0 (kq≤k)∧Drawn0 w w')
  case atStart=>exact ⟨(0),yq,H',⟨Nat.le_refl _⟩,yd⟩
  case round =>
   clear H'
   try clear c1
   try clear c3b0
   try clear c3b1
   obtain ⟨x5_1,rfl,HA,HK1,⟨m1,rfl⟩⟩:=hrel
   obtain ⟨k1,rfl⟩:=ysu gk (fun h=>by subst h;exact absurd HA.out (by simp [psalteryref12_Fair.l0]))
   have H:=HA.out;clear HA
   simp only [psalteryref12_Fair.l0] at H
   by_cases c4 : x5_1 < (l1.length : Int)
   ·
    rw [if_pos c4] at H
    have c4b0 : decide (x5_1 < (l1.length : Int))=true:=decide_eq_true c4
    clear c4
    replace H:=yif H;obtain ⟨c5,H⟩:=H
    have c5b0 : decide (0≤x5_1)=true:=decide_eq_true c5
    clear c5
    replace H:=ybi H;obtain ⟨t571,A6,H⟩:=H
    by_cases c7 : t571=true
    ·
     subst c7
     rw [if_pos rfl] at H
     have H' := zm H
     clear H
     have p570 : 0≤(x5_1 : Int):=yt
     have q570 : x5_1 < (l1.length : Int):=yt
     obtain ⟨ad570,A570_0,c570_0,e570,hx570_0,hl570_0,hi570_0⟩:=at_L2 HR1.out x5_1 p570 q570
     cases e570
     have HR570_0:=zm hi570_0;have HC570_0:=zm hl570_0;clear hi570_0 hl570_0
     replace p570:=eq_true p570
     replace q570:=eq_true q570
     go_wp2_with (first|((with_reducible refine gate_callee (f:=34) rfl ?_);refine ygl 20 Try.func34 #[.slice A570_0 (rd_L2 l1 x5_1).length c570_0] ?_;(with_reducible refine (psalteryref11_Right.calls k1 _ _ (rd_L2 l1 x5_1) true _ ?side1 HC570_0.out A6.out).mono ?_);(case side1=>exact yce HR570_0.out);rintro e w' ⟨rfl,⟨nd,rfl⟩⟩;refine ⟨_,rfl, ?_⟩))
     go_roundg k1
     case measure=>exact yom1 HK1
     case rel=>exact ⟨(wrap64 (x5_1+1)),yq,H',⟨yom1 HK1⟩,yd⟩
    ·
     replace c7:=Bool.eq_false_iff.mpr c7
     subst c7
     rw [ynf] at H
     obtain rfl:=Option.some.inj H
     have p570 : 0≤(x5_1 : Int):=yt
     have q570 : x5_1 < (l1.length : Int):=yt
     obtain ⟨ad570,A570_0,c570_0,e570,hx570_0,hl570_0,hi570_0⟩:=at_L2 HR1.out x5_1 p570 q570
     cases e570
     have HR570_0:=zm hi570_0;have HC570_0:=zm hl570_0;clear hi570_0 hl570_0
     replace p570:=eq_true p570
     replace q570:=eq_true q570
     go_wp2_with (first|((with_reducible refine gate_callee (f:=34) rfl ?_);refine ygl 20 Try.func34 #[.slice A570_0 (rd_L2 l1 x5_1).length c570_0] ?_;(with_reducible refine (psalteryref11_Right.calls k1 _ _ (rd_L2 l1 x5_1) false _ ?side1 HC570_0.out A6.out).mono ?_);(case side1=>exact yce HR570_0.out);rintro e w' ⟨rfl,⟨nd,rfl⟩⟩;refine ⟨_,rfl, ?_⟩))
     go_ret
     exact ⟨yq,yd⟩
   ·
    rw [if_neg c4] at H
    have c4b0 : decide (x5_1 < (l1.length : Int))=false:=decide_eq_false c4
    clear c4
    obtain rfl:=Option.some.inj H
    go_wp2
    go_ret
    exact ⟨yq,yd⟩
 ·
  rw [if_neg c3] at H
  have c3b0 : ((l1.length : Int) == a0)=false:=beq_eq_false_iff_ne.mpr c3
  have c3b1 : ((l1.length : Int) != a0)=true:=bne_iff_ne.mpr c3
  obtain rfl:=Option.some.inj H
  go_enter Try.func11,Try.ntmps11
  go_wp2
  go_ret
  exact ⟨yq,yd⟩
def coder_New.f  : Option (Int × Int × List Int):=some (0,4294967295,([] : List Int))
set_option maxHeartbeats 8000000 in
set_option maxRecDepth 100000 in
theorem coder_New.calls  (r1 : Int) (r2 : Int) (r3 : List Int) (w : World) (h : coder_New.f  = some (r1,r2,r3)) :
  Calls Try.prog 44 #[] w fun e w' => ∃ v2_ : Value,e=.returned (.agg #[.int .u64 r1, .int .u32 r2,v2_])∧Kd.R (Kd.int .u8) 5 w' w.heap.size (fun _=>True) v2_ r3∧Below w.heap.size w w' := by
 have hu75:=Try.underlying75;have HB:=zm (Below.refl w.heap.size w)
 have H : (some (0,4294967295,([] : List Int)))=some (r1,r2,r3):=h
 clear h
 simp only [Option.some.injEq,Prod.mk.injEq] at H
 obtain ⟨rfl,rfl,rfl⟩:=H
 go_enter Try.func44,Try.ntmps44
 go_wp2_with (first|((with_reducible refine gate_dst (N:=0) rfl ?_);refine ybx 0 #[.int .u64 0, .int .u32 0, .slice none 0 0] 75 ?_;intro gb822 hg w1 hbox hb;have BK822:=zm (hbox);have GW822:=ygw hg;have GE822:=ygw hg;replace HB:=ybs hb;clear hb hbox hg;obtain ⟨_,_,_,_,_,_⟩:=yc3 BK822))
 refine bodyPost_ret (results_cell_row rfl _ _ gb822 75 #[.int .u64 0, .int .u32 4294967295, .slice none 0 0] (0,0) _ rfl (ykp BK822) Try.underlying75 rfl (by kernel_rfl)) rfl ?_
 exact ⟨_,ye,yn,yhb⟩
def coder_fair.f (a0 : Int) (a1 : Int) (a2 : Int) : Option (Bool):=if a0 ≥ 0 then (if a0 < a1 then (if a1≤a2 then (some (decide (a2≤65536))) else (some false)) else (some false)) else (some false)
set_option maxHeartbeats 8000000 in
set_option maxRecDepth 100000 in
theorem coder_fair.calls (a0 : Int) (a1 : Int) (a2 : Int) (r : Bool) (w : World) (h : coder_fair.f a0 a1 a2=some r) :
  Calls Try.prog 84 #[.int .i64 a0, .int .i64 a1, .int .i64 a2] w fun e w' => e=.returned (.bool r)∧Drawn0 w w' := by
 have H : (if a0 ≥ 0 then (if a0 < a1 then (if a1≤a2 then (some (decide (a2≤65536))) else (some false)) else (some false)) else (some false))=some r:=h
 clear h
 by_cases c4 : a0 ≥ 0
 ·
  rw [if_pos c4] at H
  have c4b0 : decide (0≤a0)=true:=decide_eq_true c4
  clear c4
  by_cases c5 : a0 < a1
  ·
   rw [if_pos c5] at H
   have c5b0 : decide (a0 < a1)=true:=decide_eq_true c5
   clear c5
   by_cases c6 : a1≤a2
   ·
    rw [if_pos c6] at H
    have c6b0 : decide (a1≤a2)=true:=decide_eq_true c6
    clear c6
    obtain rfl:=Option.some.inj H
    go_enter Try.func84,Try.ntmps84
    go_wp2
    go_ret
    exact ⟨yq,yd⟩
   ·
    rw [if_neg c6] at H
    have c6b0 : decide (a1≤a2)=false:=decide_eq_false c6
    clear c6
    obtain rfl:=Option.some.inj H
    go_enter Try.func84,Try.ntmps84
    go_wp2
    go_ret
    exact ⟨yq,yd⟩
  ·
   rw [if_neg c5] at H
   have c5b0 : decide (a0 < a1)=false:=decide_eq_false c5
   clear c5
   obtain rfl:=Option.some.inj H
   go_enter Try.func84,Try.ntmps84
   go_wp2
   go_ret
   exact ⟨yq,yd⟩
 ·
  rw [if_neg c4] at H
  have c4b0 : decide (0≤a0)=false:=decide_eq_false c4
  clear c4
  obtain rfl:=Option.some.inj H
  go_enter Try.func84,Try.ntmps84
  go_wp2
  go_ret
  exact ⟨yq,yd⟩
def coder_RightEnc.f (a0_0 : Int) (a0_1 : Int) (l0_2 : List Int) : Option (Bool):=if a0_0≤4294967295 then (if a0_1 ≥ 16777216 then (some (decide ((l0_2.length : Int)≤4000))) else (some false)) else (some false)
set_option maxHeartbeats 8000000 in
set_option maxRecDepth 100000 in
theorem coder_RightEnc.calls (a0_0 : Int) (a0_1 : Int) (A0_2 : Option Addr) (c0_2 : Nat) (l0_2 : List Int) (r : Bool) (w : World) (hr0_2 : Kd.C (Kd.int .u8) w A0_2 l0_2.length l0_2) (hc0_2 : l0_2.length≤c0_2) (h : coder_RightEnc.f a0_0 a0_1 l0_2=some r) :
  Calls Try.prog 116 #[.agg #[.int .u64 a0_0, .int .u32 a0_1, .slice A0_2 l0_2.length c0_2]] w fun e w' => e=.returned (.bool r)∧Below w.heap.size w w' := by
 have hu75:=Try.underlying75;have HR0_2:=zm hr0_2;have HC0_2:=zm hc0_2;clear hr0_2 hc0_2;have HB:=zm (Below.refl w.heap.size w)
 have H : (if a0_0≤4294967295 then (if a0_1 ≥ 16777216 then (some (decide ((l0_2.length : Int)≤4000))) else (some false)) else (some false))=some r:=h
 clear h
 by_cases c2 : a0_0≤4294967295
 ·
  rw [if_pos c2] at H
  have c2b0 : decide (a0_0≤4294967295)=true:=decide_eq_true c2
  clear c2
  by_cases c3 : a0_1 ≥ 16777216
  ·
   rw [if_pos c3] at H
   have c3b0 : decide (16777216≤a0_1)=true:=decide_eq_true c3
   clear c3
   obtain rfl:=Option.some.inj H
   go_enter Try.func116,Try.ntmps116
   go_wp2_with (first|((with_reducible refine gate_dst (N:=1) rfl ?_);(try (refine gate_guard (by rfl) ?_;dsimp only));refine ybx 1 #[.int .u64 a0_0, .int .u32 a0_1, .slice A0_2 l0_2.length c0_2] 75 ?_;intro gb823 hg w4 hbox hb;have BK823:=zm (hbox);have GW823:=ygw hg;have GE823:=ygw hg;replace HB:=ybs hb;clear hb hbox hg;obtain ⟨_,_,_,_,_,_⟩:=yc3 BK823))
   go_ret
   exact ⟨ye,yhb⟩
  ·
   rw [if_neg c3] at H
   have c3b0 : decide (16777216≤a0_1)=false:=decide_eq_false c3
   clear c3
   obtain rfl:=Option.some.inj H
   go_enter Try.func116,Try.ntmps116
   go_wp2_with (first|((with_reducible refine gate_dst (N:=1) rfl ?_);(try (refine gate_guard (by rfl) ?_;dsimp only));refine ybx 1 #[.int .u64 a0_0, .int .u32 a0_1, .slice A0_2 l0_2.length c0_2] 75 ?_;intro gb823 hg w6 hbox hb;have BK823:=zm (hbox);have GW823:=ygw hg;have GE823:=ygw hg;replace HB:=ybs hb;clear hb hbox hg;obtain ⟨_,_,_,_,_,_⟩:=yc3 BK823))
   go_ret
   exact ⟨ye,yhb⟩
 ·
  rw [if_neg c2] at H
  have c2b0 : decide (a0_0≤4294967295)=false:=decide_eq_false c2
  clear c2
  obtain rfl:=Option.some.inj H
  go_enter Try.func116,Try.ntmps116
  go_wp2_with (first|((with_reducible refine gate_dst (N:=1) rfl ?_);(try (refine gate_guard (by rfl) ?_;dsimp only));refine ybx 1 #[.int .u64 a0_0, .int .u32 a0_1, .slice A0_2 l0_2.length c0_2] 75 ?_;intro gb823 hg w8 hbox hb;have BK823:=zm (hbox);have GW823:=ygw hg;have GE823:=ygw hg;replace HB:=ybs hb;clear hb hbox hg;obtain ⟨_,_,_,_,_,_⟩:=yc3 BK823))
  go_ret
  exact ⟨ye,yhb⟩
def coder_own.f (a0_0 : Int) (a0_1 : Int) (l0_2 : List Int) : Option (Int × Int × List Int):=(coder_RightEnc.f a0_0 a0_1 l0_2).bind fun t826=>(if t826=true then ((some (([] : List Int) : List Int)).bind fun y827=>(if y827.length+l0_2.length < 140737488355328 then (some (a0_0,a0_1,(y827 ++ l0_2))) else (none))) else ((coder_New.f).bind fun bt833=>(some (bt833.1,bt833.2.1,bt833.2.2))))
set_option maxHeartbeats 8000000 in
set_option maxRecDepth 100000 in
theorem coder_own.calls (a0_0 : Int) (a0_1 : Int) (A0_2 : Option Addr) (c0_2 : Nat) (l0_2 : List Int) (r1 : Int) (r2 : Int) (r3 : List Int) (w : World) (hr0_2 : Kd.C (Kd.int .u8) w A0_2 l0_2.length l0_2) (hc0_2 : l0_2.length≤c0_2) (h : coder_own.f a0_0 a0_1 l0_2=some (r1,r2,r3)) :
  Calls Try.prog 83 #[.agg #[.int .u64 a0_0, .int .u32 a0_1, .slice A0_2 l0_2.length c0_2]] w fun e w' => ∃ v2_ : Value,e=.returned (.agg #[.int .u64 r1, .int .u32 r2,v2_])∧Kd.R (Kd.int .u8) 5 w' w.heap.size (fun _=>True) v2_ r3∧Below w.heap.size w w' := by
 have hu75:=Try.underlying75;have HR0_2:=zm hr0_2;have HC0_2:=zm hc0_2;clear hr0_2 hc0_2;have HB:=zm (Below.refl w.heap.size w)
 have H : ((coder_RightEnc.f a0_0 a0_1 l0_2).bind fun t826=>(if t826=true then ((some (([] : List Int) : List Int)).bind fun y827=>(if y827.length+l0_2.length < 140737488355328 then (some (a0_0,a0_1,(y827 ++ l0_2))) else (none))) else ((coder_New.f).bind fun bt833=>(some (bt833.1,bt833.2.1,bt833.2.2)))))=some (r1,r2,r3):=h
 clear h
 replace H:=ybi H;obtain ⟨t826,A2,H⟩:=H
 by_cases c3 : t826=true
 ·
  subst c3
  rw [if_pos rfl] at H
  obtain ⟨y827,hy827⟩ : ∃ y_ : List Int,y_=(([] : List Int)):=⟨_,rfl⟩
  replace H : (if y827.length+l0_2.length < 140737488355328 then (some (a0_0,a0_1,(y827 ++ l0_2))) else (none))=some (r1,r2,r3):=yrw hy827 H
  have Ny827:=zm hy827;clear hy827
  replace H:=yif H;obtain ⟨c4,H⟩:=H
  have LMc4:=zm c4;clear c4
  obtain ⟨y830,hy830⟩ : ∃ y_ : List Int,y_=(y827 ++ l0_2):=⟨_,rfl⟩
  replace H : (some (a0_0,a0_1,y830))=some (r1,r2,r3):=yrw hy830 H
  have Ny830:=zm hy830;clear hy830
  simp only [Option.some.injEq,Prod.mk.injEq] at H
  obtain ⟨rfl,rfl,rfl⟩:=H
  go_enter Try.func83,Try.ntmps83
  go_wp2_with (first|((with_reducible refine gate_dst (N:=1) rfl ?_);refine ybx 1 #[.int .u64 a0_0, .int .u32 a0_1, .slice A0_2 l0_2.length c0_2] 75 ?_;intro gb824 hg w5 hbox hb;have BK824:=zm (hbox);have GW824:=ygw hg;have GE824:=ygw hg;replace HB:=ybs hb;clear hb hbox hg)|((with_reducible refine gate_dst (N:=2) rfl ?_);refine ybx 2 #[.int .u64 0, .int .u32 0, .slice none 0 0] 75 ?_;intro gb825 hg w6 hbox hb;have BK825:=zm (hbox);have GW825:=ygw hg;have GE825:=ygw hg;replace HB:=ybs hb;have NB824_825:=ynl BK824 hg;have NB825_824:=yng BK824 hg;replace BK824:=ybb BK824 hb;clear hb hbox hg;have:=NB824_825.out;have:=NB825_824.out;obtain ⟨_,_,_,_,_,_⟩:=yc3 BK824)|((with_reducible refine gate_callee (f:=116) rfl ?_);refine ygl 4 Try.func116 #[.agg #[.int .u64 a0_0, .int .u32 a0_1, .slice A0_2 l0_2.length c0_2]] ?_;(with_reducible refine (coder_RightEnc.calls a0_0 a0_1 _ _ l0_2 true _ ?side1 HC0_2.out A2.out).mono ?_);(case side1=>exact ycb HR0_2);rintro e w9 ⟨rfl,hb⟩;refine ⟨_,rfl, ?_⟩;replace BK824:=ybb BK824 hb;replace BK825:=ybb BK825 hb;replace HB:=ybs hb;(try clear hb))|((with_reducible refine gate_dst (N:=7) rfl ?_);refine Kd.R_lit (Kd.int .u8) _ 5 ?hg (N:=7) ?hd (xs:=([] : List Int)) (inner := []) (ok:=fun _=>True) (okp:=fun _=>True) ?hr ?hp (fun _ hk=>hk) trivial (Below.refl _ _) (Nat.le_refl _) (by simp) ?_;(case hd=>rfl);(case hg=>rfl);(case hr=>first|(go_simp;done)|(go_simp;rfl));(case hp=>exact (Reps.none _ _));intro v828 w10 ho11 hb hg_ hnew_;clear hg_ hnew_;(first|rw [← Ny827.out] at ho11|(simp only [Int.reduceToNat] at ho11;rw [← Ny827.out] at ho11));have HO829:=zm (Kd.R_lower ho11 (zE yhb));replace BK824:=ybb BK824 hb;replace BK825:=ybb BK825 hb;replace HB:=ybs hb;clear hb ho11;obtain ⟨_,_,_,_,_,_⟩:=yc3 BK824)|((with_reducible refine gate_builtin (b:=.append) (xs := #[.tmp 7, .tmp 9]) rfl ?_);at_builtin;refine Kd.R_append_rows (Kd.int .u8) (w0:=w) w.heap.size rfl (.tmp 7) (.tmp 9) 36 5 (.int .u8 0) 1 rfl Try.underlying36 info5 rfl (by decide) (by omega) v828 y827 l0_2 _ _ _ (fun _=>True) (fun _=>False) rfl rfl ?aO ?aR (fun _ _ h=>h) (fun _ h=>h.elim) ?aF ?aB ?aS ?aL ?_;(case aR=>exact ycb HR0_2);(case aB=>exact yhb);(case aF=>exact (fun _ _=>trivial));(case aO=>exact (yr HO829));(case aS=>exact (zE yhb));(case aL=>have:=LMc4.out;omega);intro v831 w13 ho hb hg hat;rw [← Ny830.out] at ho;replace BK824:=zm (blk_grown (yk BK824) hg (zu HO829.out BK824.out (by decide)));replace BK825:=zm (blk_grown (yk BK825) hg (zu HO829.out BK825.out (by decide)));replace HB:=zm (hb);have HO832:=zm (ho);clear HO829;clear ho hb hg hat;obtain ⟨Ao14,co14,eo14⟩:=Kd.R_slice HO832.out;subst eo14;obtain ⟨_,_,_,_,_,_⟩:=yc3 BK824;obtain ⟨_,_,_,_,_,_⟩:=yc3 BK825))
  refine bodyPost_ret (results_cell_row rfl _ _ gb825 75 #[.int .u64 a0_0, .int .u32 a0_1, .slice Ao14 y830.length co14] (0,0) _ rfl (ykp BK825) Try.underlying75 rfl (by kernel_rfl)) rfl ?_
  exact ⟨_,ye,yR2 HO832 BK824 BK825,yhb⟩
 ·
  replace c3:=Bool.eq_false_iff.mpr c3
  subst c3
  rw [ynf] at H
  replace H:=ybi H;obtain ⟨⟨t833,t834,t835⟩,A17,H⟩:=H
  try dsimp only at H
  simp only [Option.some.injEq,Prod.mk.injEq] at H
  obtain ⟨rfl,rfl,rfl⟩:=H
  go_enter Try.func83,Try.ntmps83
  go_wp2_with (first|((with_reducible refine gate_dst (N:=1) rfl ?_);refine ybx 1 #[.int .u64 a0_0, .int .u32 a0_1, .slice A0_2 l0_2.length c0_2] 75 ?_;intro gb824 hg w18 hbox hb;have BK824:=zm (hbox);have GW824:=ygw hg;have GE824:=ygw hg;replace HB:=ybs hb;clear hb hbox hg)|((with_reducible refine gate_dst (N:=2) rfl ?_);refine ybx 2 #[.int .u64 0, .int .u32 0, .slice none 0 0] 75 ?_;intro gb825 hg w19 hbox hb;have BK825:=zm (hbox);have GW825:=ygw hg;have GE825:=ygw hg;replace HB:=ybs hb;have NB824_825:=ynl BK824 hg;have NB825_824:=yng BK824 hg;replace BK824:=ybb BK824 hb;clear hb hbox hg;have:=NB824_825.out;have:=NB825_824.out;obtain ⟨_,_,_,_,_,_⟩:=yc3 BK824)|((with_reducible refine gate_callee (f:=116) rfl ?_);refine ygl 4 Try.func116 #[.agg #[.int .u64 a0_0, .int .u32 a0_1, .slice A0_2 l0_2.length c0_2]] ?_;(with_reducible refine (coder_RightEnc.calls a0_0 a0_1 _ _ l0_2 false _ ?side1 HC0_2.out A2.out).mono ?_);(case side1=>exact ycb HR0_2);rintro e w22 ⟨rfl,hb⟩;refine ⟨_,rfl, ?_⟩;replace BK824:=ybb BK824 hb;replace BK825:=ybb BK825 hb;replace HB:=ybs hb;(try clear hb))|((with_reducible refine gate_callee (f:=44) rfl ?_);refine ygl 6 Try.func44 #[] ?_;(with_reducible refine (coder_New.calls  t833 t834 t835 _ A17.out).mono ?_);rintro e w23 ⟨v836,rfl,ho0,hb⟩;refine ⟨_,rfl, ?_⟩;have HO837:=zm (Kd.R_lower ho0 (zE yhb));replace BK824:=ybb BK824 hb;replace BK825:=ybb BK825 hb;replace HB:=ybs hb;(try clear hb);(try clear ho0);obtain ⟨_,_,_,_,_,_⟩:=yc3 BK825;obtain ⟨Ao25,co25,eo25⟩:=Kd.R_slice HO837.out;subst eo25))
  refine bodyPost_ret (results_cell_row rfl _ _ gb825 75 #[.int .u64 t833, .int .u32 t834, .slice Ao25 t835.length co25] (0,0) _ rfl (ykp BK825) Try.underlying75 rfl (by kernel_rfl)) rfl ?_
  exact ⟨_,ye,yR1 HO837 BK825,yhb⟩
def cpack_gains.l0 : Nat→Int→List (List Int)→List (List Int)→Int→Int→Option (Bool)
 | 0,_,_,_,_,_=>none
 | k+1,x0,x1,x7,x8,x9=>if x9 < x8 then (if 0≤x9 then (if x9 < (x7.length : Int) then ((gain_Right.f k (rd_L2 x7 x9)).bind fun t821=>(if t821=true then (cpack_gains.l0 k x0 x1 x7 x8 (wrap64 (x9+1))) else (some false))) else (none)) else (none)) else (some ((x1.length : Int) == x0))
def cpack_gains.f (k : Nat) (a0 : Int) (l1 : List (List Int)) : Option (Bool):=cpack_gains.l0 k a0 l1 l1 (l1.length : Int) 0
theorem cpack_gains.mono_l : ∀ k,(∀ y0 y1 y2 y3 y4,LeO (cpack_gains.l0 k y0 y1 y2 y3 y4) (cpack_gains.l0 (k+1) y0 y1 y2 y3 y4))
 | 0=>fun _ _ _ _ _ r h=>by simp [cpack_gains.l0] at h
 | k+1=>by
  have ih0:=cpack_gains.mono_l k
  ·
   intro y0 y1 y2 y3 y4
   unfold cpack_gains.l0
   repeat' with_reducible first|apply ih0|apply gain_Right.mono|apply yLr|apply yLn|apply yLi|apply yLb|intro _
theorem cpack_gains.mono : ∀ a0 a1 k,LeO (cpack_gains.f k a0 a1) (cpack_gains.f (k+1) a0 a1):=by
 intro a0 a1 k
 have ih0:=cpack_gains.mono_l k
 unfold cpack_gains.f
 repeat' with_reducible first|apply ih0|apply gain_Right.mono|apply yLr|apply yLn|apply yLi|apply yLb|intro _
set_option maxHeartbeats 8000000 in
set_option maxRecDepth 100000 in
theorem cpack_gains.calls (k : Nat) (a0 : Int) (A1 : Option Addr) (c1 : Nat) (l1 : List (List Int)) (r : Bool) (w : World) (hr1 : Kd.C (Kd.slice 3 (Kd.int .i64)) w A1 l1.length l1) (hc1 : l1.length≤c1) (h : cpack_gains.f k a0 l1=some r) :
  Calls Try.prog 42 #[.int .i64 a0, .slice A1 l1.length c1] w fun e w' => e=.returned (.bool r)∧Drawn0 w w' := by
 have HR1:=zm hr1;have HC1:=zm hc1;clear hr1 hc1
 have H : (cpack_gains.l0 k a0 l1 l1 (l1.length : Int) 0)=some r:=h
 clear h
 have H' := zm H
 clear H
 go_enter Try.func42,Try.ntmps42
 go_wp2
 go_loopg [9] k (fun kq v9 w' => ∃ (x9_1 : Int),v9=.int .i64 x9_1∧Aside0 (cpack_gains.l0 kq a0 l1 l1 (l1.length : Int) x9_1=some r)∧Aside0 (kq≤k)∧Drawn0 w w')
 case atStart=>exact ⟨(0),yq,H',⟨Nat.le_refl _⟩,yd⟩
 case round =>
  clear H'
  try clear c1
  obtain ⟨x9_1,rfl,HA,HK1,⟨m1,rfl⟩⟩:=hrel
  obtain ⟨k1,rfl⟩:=ysu gk (fun h=>by subst h;exact absurd HA.out (by simp [cpack_gains.l0]))
  have H:=HA.out;clear HA
  simp only [cpack_gains.l0] at H
  by_cases c3 : x9_1 < (l1.length : Int)
  ·
   rw [if_pos c3] at H
   have c3b0 : decide (x9_1 < (l1.length : Int))=true:=decide_eq_true c3
   clear c3
   replace H:=yif H;obtain ⟨c4,H⟩:=H
   have c4b0 : decide (0≤x9_1)=true:=decide_eq_true c4
   clear c4
   replace H:=yif H;obtain ⟨c5,H⟩:=H
   have c5b0 : decide (x9_1 < (l1.length : Int))=true:=decide_eq_true c5
   clear c5
   replace H:=ybi H;obtain ⟨t821,A6,H⟩:=H
   by_cases c7 : t821=true
   ·
    subst c7
    rw [if_pos rfl] at H
    have H' := zm H
    clear H
    have p820 : 0≤(x9_1 : Int):=yt
    have q820 : x9_1 < (l1.length : Int):=yt
    obtain ⟨ad820,A820_0,c820_0,e820,hx820_0,hl820_0,hi820_0⟩:=at_L2 HR1.out x9_1 p820 q820
    cases e820
    have HR820_0:=zm hi820_0;have HC820_0:=zm hl820_0;clear hi820_0 hl820_0
    replace p820:=eq_true p820
    replace q820:=eq_true q820
    go_wp2_with (first|((with_reducible refine gate_callee (f:=72) rfl ?_);refine ygl 14 Try.func72 #[.slice A820_0 (rd_L2 l1 x9_1).length c820_0] ?_;(with_reducible refine (gain_Right.calls k1 _ _ (rd_L2 l1 x9_1) true _ ?side1 HC820_0.out A6.out).mono ?_);(case side1=>exact yce HR820_0.out);rintro e w' ⟨rfl,⟨nd,rfl⟩⟩;refine ⟨_,rfl, ?_⟩))
    go_roundg k1
    case measure=>exact yom1 HK1
    case rel=>exact ⟨(wrap64 (x9_1+1)),yq,H',⟨yom1 HK1⟩,yd⟩
   ·
    replace c7:=Bool.eq_false_iff.mpr c7
    subst c7
    rw [ynf] at H
    obtain rfl:=Option.some.inj H
    have p820 : 0≤(x9_1 : Int):=yt
    have q820 : x9_1 < (l1.length : Int):=yt
    obtain ⟨ad820,A820_0,c820_0,e820,hx820_0,hl820_0,hi820_0⟩:=at_L2 HR1.out x9_1 p820 q820
    cases e820
    have HR820_0:=zm hi820_0;have HC820_0:=zm hl820_0;clear hi820_0 hl820_0
    replace p820:=eq_true p820
    replace q820:=eq_true q820
    go_wp2_with (first|((with_reducible refine gate_callee (f:=72) rfl ?_);refine ygl 14 Try.func72 #[.slice A820_0 (rd_L2 l1 x9_1).length c820_0] ?_;(with_reducible refine (gain_Right.calls k1 _ _ (rd_L2 l1 x9_1) false _ ?side1 HC820_0.out A6.out).mono ?_);(case side1=>exact yce HR820_0.out);rintro e w' ⟨rfl,⟨nd,rfl⟩⟩;refine ⟨_,rfl, ?_⟩))
    go_ret
    exact ⟨yq,yd⟩
  ·
   rw [if_neg c3] at H
   have c3b0 : decide (x9_1 < (l1.length : Int))=false:=decide_eq_false c3
   clear c3
   obtain rfl:=Option.some.inj H
   go_wp2
   go_ret
   exact ⟨yq,yd⟩
end Go.Proofs.Ytifkhfnmbiefaaa.Prt
