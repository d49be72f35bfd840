-- Functions of the program and of the document as plain Lean, each with the proof that the code comes to it. Written by a program of this session (wip/tools/myprint.py, pack.py) over the kit's printer; Lean checks it.
import Derived.Test.YtnmbndkojpjkmaaZPackRightsPrt0
import Derived.Test.YtnmbndkojpjkmaaZPackRightsM1
import Derived.Test.YtnmbndkojpjkmaaZPackRightsM5
import Derived.Test.YtnmbndkojpjkmaaZPackRightsSh
namespace Go.Proofs.Ytnmbndkojpjkmaa.Prt
open Go.RowKit Go.Proofs.YtnmbndkojpjkmaaW.PrintWords Go.Proofs.YtnmbndkojpjkmaaW.PrintLast Go.Proofs.YtnmbndkojpjkmaaW.PrintMore
attribute [local go_sem] max2_int min2_int max_two min_two max_three min_three max_four min_four   -- for this text's walks alone
set_option linter.unusedVariables false
set_option linter.unusedSimpArgs false

/-! ### psalterylaw13_PackRights: function 4 -/
def psalterylaw13_PackRights.f (k : Nat) (a0 : Int) (a1 : Int) (a2_0 : Bool) (l2_1 : List (List Int)) (l2_2 : List (List (List Int))) : Option (Bool):=(psalterylaw13_great.f k a2_0 l2_1 l2_2 ([] : List (List Int))).bind fun t750=>(if t750=true then ((psalterylaw13_knows.f k).bind fun t751=>(some t751)) else ((cpack_Right.f k a0 a1 a2_0 l2_1 l2_2).bind fun t752=>((psalterylaw13_As.f a2_0 l2_1 l2_2).bind fun bt753=>((psalteryref13_Right.f k a0 a1 bt753.1 bt753.2.1 bt753.2.2).bind fun t760=>(if (t752 == t760)=true then ((psalterylaw13_knows.f k).bind fun t761=>(some t761)) else (none))))))
theorem psalterylaw13_PackRights.mono : ∀ a0 a1 a2 a3 a4 k,LeO (psalterylaw13_PackRights.f k a0 a1 a2 a3 a4) (psalterylaw13_PackRights.f (k+1) a0 a1 a2 a3 a4):=by
 intro a0 a1 a2 a3 a4 k
 unfold psalterylaw13_PackRights.f
 repeat' first
   | (with_reducible exact cpack_Right.mono _ _ _ _ _ _)
   | (with_reducible exact psalterylaw13_great.mono _ _ _ _ _)
   | (with_reducible exact psalterylaw13_knows.mono _)
   | (with_reducible exact psalteryref13_Right.mono _ _ _ _ _ _)
   | (with_reducible exact LeO.refl _)
   | (with_reducible exact LeO.none _)
   | (with_reducible refine LeO.ite ?_ ?_)
   | (with_reducible refine LeO.bind ?_ (fun _ => ?_))
   | exact cpack_Right.mono _ _ _ _ _ _
   | exact psalterylaw13_great.mono _ _ _ _ _
   | exact psalterylaw13_knows.mono _
   | exact psalteryref13_Right.mono _ _ _ _ _ _
   | exact LeO.none _
   | refine LeO.ite ?_ ?_
   | refine LeO.bind ?_ (fun _ => ?_)
def psalterylaw13_PackRights.T3 : Bool × List (List Nat × List Nat):=(true, [([], []),([], []),([], []),([0,1,2], [0,1,2]),([], []),([], []),([], []),([6,3], [6]),([4,5,7,7], [4,5,7]),([3,8], [3,8]),([9,8], [9]),([10,10], [10]),([10,11], [10,11]),([12,11,0,1,2,3,4,5,6,7,8,9,10,11,12], [12])])
def psalterylaw13_PackRights.B3 : List Nat := [0,0,0,7,0,0,0,79,255,511,1023,2047,4095,8191]
theorem psalterylaw13_PackRights.tab3 : rtab .any (opsOf Try.f4 3)=psalterylaw13_PackRights.T3:=by kernel_rfl
theorem psalterylaw13_PackRights.bits3 : waitsOk psalterylaw13_PackRights.T3.2 psalterylaw13_PackRights.B3=true:=by kernel_rfl
set_option maxHeartbeats 8000000 in
set_option maxRecDepth 100000 in
theorem psalterylaw13_PackRights.calls (k : Nat) (a0 : Int) (a1 : Int) (a2_0 : Bool) (A2_1 : Option Addr) (c2_1 : Nat) (l2_1 : List (List Int)) (A2_2 : Option Addr) (c2_2 : Nat) (l2_2 : List (List (List Int))) (r : Bool) (w : World) (hr2_1 : Kd.C (Kd.slice 3 (Kd.int .i64)) w A2_1 l2_1.length l2_1) (hc2_1 : l2_1.length≤c2_1) (hr2_2 : Kd.C (Kd.slice 49 (Kd.slice 3 (Kd.int .i64))) w A2_2 l2_2.length l2_2) (hc2_2 : l2_2.length≤c2_2) (h : psalterylaw13_PackRights.f k a0 a1 a2_0 l2_1 l2_2=some r) :
  Calls Try.prog 4 #[.int .i64 a0, .int .i64 a1, .agg #[.bool a2_0, .slice A2_1 l2_1.length c2_1, .slice A2_2 l2_2.length c2_2]] w fun e w' => e=.returned (.bool r)∧Below w.heap.size w w' := by
 have hu25:=Try.underlying25;have HR2_1:=zm hr2_1;have HC2_1:=zm hc2_1;clear hr2_1 hc2_1;have HR2_2:=zm hr2_2;have HC2_2:=zm hc2_2;clear hr2_2 hc2_2;have HB:=zm (Below.refl w.heap.size w)
 have H : ((psalterylaw13_great.f k a2_0 l2_1 l2_2 ([] : List (List Int))).bind fun t750=>(if t750=true then ((psalterylaw13_knows.f k).bind fun t751=>(some t751)) else ((cpack_Right.f k a0 a1 a2_0 l2_1 l2_2).bind fun t752=>((psalterylaw13_As.f a2_0 l2_1 l2_2).bind fun bt753=>((psalteryref13_Right.f k a0 a1 bt753.1 bt753.2.1 bt753.2.2).bind fun t760=>(if (t752 == t760)=true then ((psalterylaw13_knows.f k).bind fun t761=>(some t761)) else (none)))))))=some r:=h
 clear h
 obtain ⟨t750,A4,H⟩:=ybi H
 by_cases c5 : t750=true
 ·
  subst c5
  rw [if_pos rfl] at H
  obtain ⟨t751,A6,H⟩:=ybi H
  obtain rfl:=Option.some.inj H
  go_enter Try.func4,Try.ntmps4
  go_wp2_with (first|((with_reducible refine gate_dst (N:=5) rfl ?_);refine ybx 5 #[.bool a2_0, .slice A2_1 l2_1.length c2_1, .slice A2_2 l2_2.length c2_2] 25 ?_;intro gb749 hg w7 hbox hb;have BK749:=zm (hbox);have GW749:=ygw hg;have GE749:=ygw hg;replace HB:=ybs hb;clear hb hbox hg;obtain ⟨_,_,_,_,_,_⟩:=yc3 BK749)|((with_reducible refine gate_callee (f:=10) rfl ?_);refine ygl 8 Try.func10 #[.agg #[.bool a2_0, .slice A2_1 l2_1.length c2_1, .slice A2_2 l2_2.length c2_2], .slice none 0 0] ?_;(refine (psalterylaw13_great.calls k a2_0 _ _ l2_1 _ _ l2_2 _ _ ([] : List (List Int)) true _ ?side1 ?side2 ?side3 ?side4 ?side5 ?side6 A4.out).mono ?_);(case side1=>exact ycb HR2_1);(case side2=>exact HC2_1.out);(case side3=>exact ycb HR2_2);(case side4=>exact HC2_2.out);(case side5=>exact Kd.C_nil _ _);(case side6=>exact Nat.le_refl _);rintro e w9 ⟨rfl,hb⟩;refine ⟨_,rfl, ?_⟩;replace BK749:=ybb BK749 hb;replace HB:=ybs hb;(try clear hb);(try clear hb2);(try clear hk);(try clear hi))|((with_reducible refine gate_callee (f:=11) rfl ?_);refine ygl 9 Try.func11 #[] ?_;(with_reducible refine (psalterylaw13_knows.calls k  t751 _ A6.out).mono ?_);rintro e w10 ⟨rfl,hb⟩;refine ⟨_,rfl, ?_⟩;replace BK749:=ybb BK749 hb;replace HB:=ybs hb;(try clear hb);(try clear hb2);(try clear hk);(try clear hi)))
  go_ret
  exact ⟨ye,yhb⟩
 ·
  replace c5:=Bool.eq_false_iff.mpr c5
  subst c5
  rw [ynf] at H
  obtain ⟨t752,A11,H⟩:=ybi H
  obtain ⟨⟨t753,t754,t757⟩,A12,H⟩:=ybi H
  try dsimp only at H
  obtain ⟨t760,A13,H⟩:=ybi H
  by_cases c14 : (t752 == t760)=true
  ·
   rw [if_pos c14] at H
   have c14b0 : (t752 == t760)=true:=c14
   (try (have c14b1 : decide (t752=t760)=true:=by simpa using c14))
   (try (have c14b2 : (t752 == t760)=true:=by simpa using c14))
   clear c14
   obtain ⟨t761,A15,H⟩:=ybi H
   obtain rfl:=Option.some.inj H
   go_enter Try.func4,Try.ntmps4
   try go_wp2_with (first|((with_reducible refine gate_dst (N:=5) rfl ?_);refine ybx 5 #[.bool a2_0, .slice A2_1 l2_1.length c2_1, .slice A2_2 l2_2.length c2_2] 25 ?_;intro gb749 hg w16 hbox hb;have BK749:=zm (hbox);have GW749:=ygw hg;have GE749:=ygw hg;replace HB:=ybs hb;clear hb hbox hg;obtain ⟨_,_,_,_,_,_⟩:=yc3 BK749)|((with_reducible refine gate_callee (f:=10) rfl ?_);refine ygl 8 Try.func10 #[.agg #[.bool a2_0, .slice A2_1 l2_1.length c2_1, .slice A2_2 l2_2.length c2_2], .slice none 0 0] ?_;(refine (psalterylaw13_great.calls k a2_0 _ _ l2_1 _ _ l2_2 _ _ ([] : List (List Int)) false _ ?side1 ?side2 ?side3 ?side4 ?side5 ?side6 A4.out).mono ?_);(case side1=>exact ycb HR2_1);(case side2=>exact HC2_1.out);(case side3=>exact ycb HR2_2);(case side4=>exact HC2_2.out);(case side5=>exact Kd.C_nil _ _);(case side6=>exact Nat.le_refl _);rintro e w18 ⟨rfl,hb⟩;refine ⟨_,rfl, ?_⟩;replace BK749:=ybb BK749 hb;replace HB:=ybs hb;(try clear hb);(try clear hb2);(try clear hk);(try clear hi)))
   replace BK749:=zm (zj BK749.out)
   replace HB:=zm (zf HB.out)
   refine start_ (n:=14) (S:=fun w' => w'.cell? ⟨gb749,0,none⟩=some (.bool a2_0)∧w'.cell? ⟨gb749,1,none⟩=some (.slice A2_1 l2_1.length c2_1)∧w'.cell? ⟨gb749,2,none⟩=some (.slice A2_2 l2_2.length c2_2)) (ds := []) #[false,false,false,false,false,false,false,false,false,false,false,false,false,false] (by kernel_rfl) rfl rfl ⟨(zs BK749.out 0).trans rfl,(zs BK749.out 1).trans rfl,(zs BK749.out 2).trans rfl⟩ (fun hHeld => ?_);refine with_tabW psalterylaw13_PackRights.tab3 psalterylaw13_PackRights.bits3 (fun HT_ HW_ => ?_)
   generalize w18.drew=w19 at BK749 HB hHeld ⊢
   refine yp 0 10 HT_ ?_
   refine yp 1 11 HT_ ?_
   refine yp 4 14 HT_ ?_
   refine yp 5 15 HT_ ?_
   refine yl 2 12 HT_ HW_ hHeld ?_
   refine yl 6 16 HT_ HW_ hHeld ?_
   refine yw 3 13 HT_ (fun K hK => ?_)
   refine ygs Try.func15 #[.int .i64 a0, .int .i64 a1, .agg #[.bool a2_0, .slice A2_1 l2_1.length c2_1, .slice A2_2 l2_2.length c2_2]] ?_
   with_reducible refine (cpack_Right.calls k a0 a1 a2_0 _ _ l2_1 _ _ l2_2 t752 _ ?side1 ?side2 ?side3 ?side4 A11.out).mono ?_
   (case side1=>exact ycb HR2_1)
   (case side2=>exact HC2_1.out)
   (case side3=>exact ycb HR2_2)
   (case side4=>exact HC2_2.out)
   rintro e w20 ⟨rfl,hb⟩
   refine ⟨_,rfl, ?_⟩
   replace BK749:=ybb BK749 hb
   replace HB:=ybs hb
   (try clear hb)
   (try clear hb2)
   (try clear hk)
   (try clear hi)
   refine hK.out _ _ ⟨(zs BK749.out 0).trans rfl,(zs BK749.out 1).trans rfl,(zs BK749.out 2).trans rfl⟩ (fun hHeld => ?_)
   clear hK K
   refine ym (some 13) ?_
   refine yw 7 17 HT_ (fun K hK => ?_)
   refine ygs Try.func14 #[.agg #[.bool a2_0, .slice A2_1 l2_1.length c2_1, .slice A2_2 l2_2.length c2_2]] ?_
   with_reducible refine (psalterylaw13_As.calls a2_0 (fun k_=>k_ < w.heap.size) _ _ l2_1 (fun k_=>k_ < w.heap.size) _ _ l2_2 t753 t754 t757 _ ?side1 ?side2 A12.out).mono ?_
   (case side1=>exact Kd.V_mk HC2_1.out (Kd.F_below (Kd.C_F (Kd.heap_slice 3 (Kd.heap_int .i64)) HR2_1.out) yhb))
   (case side2=>exact Kd.V_mk HC2_2.out (Kd.F_below (Kd.C_F (Kd.heap_slice 49 (Kd.heap_slice 3 (Kd.heap_int .i64))) HR2_2.out) yhb))
   rintro e w21 ⟨v755,v758,rfl,ho0,ho1,hb⟩
   refine ⟨_,rfl, ?_⟩
   have HO756:=zm (Kd.V_lower (zy (ok' := fun k_=>k_≠gb749) ho0 (fun k_ hk_=>Or.elim hk_ (fun hs_=>Or.elim hs_ (fun hs_=>fun e_=>Nat.not_le.2 hs_ (by rw [e_];exact GW749.out)) (fun hs_=>fun e_=>Nat.not_le.2 hs_ (by rw [e_];exact GW749.out))) (fun hn_=>(Kd.freshB (yk BK749) k_ hn_)))) (zE yhb))
   have HO759:=zm (Kd.V_lower (zy (ok' := fun k_=>k_≠gb749) ho1 (fun k_ hk_=>Or.elim hk_ (fun hs_=>Or.elim hs_ (fun hs_=>fun e_=>Nat.not_le.2 hs_ (by rw [e_];exact GW749.out)) (fun hs_=>fun e_=>Nat.not_le.2 hs_ (by rw [e_];exact GW749.out))) (fun hn_=>(Kd.freshB (yk BK749) k_ hn_)))) (zE yhb))
   replace BK749:=ybb BK749 hb
   replace HB:=ybs hb
   (try clear hb)
   (try clear hb2)
   (try clear hk)
   (try clear hi)
   (try clear ho0)
   (try clear ho1)
   obtain ⟨Ao22,co22,eo22⟩:=Kd.V_slice HO756.out
   (first|subst eo22|(injection eo22 with f1_ f2_ f3_;have f4_:=f1_.symm;have f5_:=f3_.symm;clear f1_ f2_ f3_;subst f4_;subst f5_))
   obtain ⟨Ao23,co23,eo23⟩:=Kd.V_slice HO759.out
   (first|subst eo23|(injection eo23 with f1_ f2_ f3_;have f4_:=f1_.symm;have f5_:=f3_.symm;clear f1_ f2_ f3_;subst f4_;subst f5_))
   refine hK.out _ _ ⟨(zs BK749.out 0).trans rfl,(zs BK749.out 1).trans rfl,(zs BK749.out 2).trans rfl⟩ (fun hHeld => ?_)
   clear hK K
   refine ym (some 17) ?_
   refine yw 8 18 HT_ (fun K hK => ?_)
   refine ygs Try.func16 #[.int .i64 a0, .int .i64 a1, .agg #[.bool t753, .slice Ao22 t754.length co22, .slice Ao23 t757.length co23]] ?_
   with_reducible refine (psalteryref13_Right.calls k a0 a1 t753 _ _ t754 _ _ t757 t760 _ ?side1 ?side2 ?side3 ?side4 A13.out).mono ?_
   (case side1=>exact yce (Kd.V_reads' HO756.out).2.2)
   (case side2=>exact (Kd.V_reads' HO756.out).2.1)
   (case side3=>exact yce (Kd.V_reads' HO759.out).2.2)
   (case side4=>exact (Kd.V_reads' HO759.out).2.1)
   rintro e w24 ⟨rfl,hb⟩
   refine ⟨_,rfl, ?_⟩
   replace HO756:=yVb HO756 hb
   replace HO759:=yVb HO759 hb
   replace BK749:=ybb BK749 hb
   replace HB:=ybs hb
   (try clear hb)
   (try clear hb2)
   (try clear hk)
   (try clear hi)
   refine hK.out _ _ ⟨(zs BK749.out 0).trans rfl,(zs BK749.out 1).trans rfl,(zs BK749.out 2).trans rfl⟩ (fun hHeld => ?_)
   clear hK K
   refine ym (some 18) ?_
   refine yp 9 19 HT_ ?_
   refine yp 10 20 HT_ ?_
   refine yw 11 21 HT_ (fun K hK => ?_)
   refine ygs Try.func11 #[] ?_
   with_reducible refine (psalterylaw13_knows.calls k  t761 _ A15.out).mono ?_
   rintro e w25 ⟨rfl,hb⟩
   refine ⟨_,rfl, ?_⟩
   replace HO756:=yVb HO756 hb
   replace HO759:=yVb HO759 hb
   replace BK749:=ybb BK749 hb
   replace HB:=ybs hb
   (try clear hb)
   (try clear hb2)
   (try clear hk)
   (try clear hi)
   refine hK.out _ _ ⟨(zs BK749.out 0).trans rfl,(zs BK749.out 1).trans rfl,(zs BK749.out 2).trans rfl⟩ (fun hHeld => ?_)
   clear hK K
   refine ym (some 21) ?_
   refine yp 12 22 HT_ ?_
   refine yp 13 6 HT_ ?_
   refine done_ (done_of HT_.out (by kernel_rfl)) ?_
   try go_wp2
   go_ret
   exact ⟨ye,yhb⟩
  ·
   rw [if_neg c14] at H
   have c14b0 : (t752 == t760)=false:=by simpa using c14
   (try (have c14b1 : decide (t752=t760)=false:=by simpa using c14))
   (try (have c14b2 : (t752 == t760)=false:=by simpa using c14))
   (try (have c14b3 : ¬ (t752=t760):=by simpa using c14))
   clear c14
   exact absurd H (by simp)

end Go.Proofs.Ytnmbndkojpjkmaa.Prt
