-- Functions of the program and of the document as plain Lean, each with the proof that the code comes to it. Written by a program of this session (wip/tools/myprint.py, pack.py) over the kit's printer; Lean checks it.
import Derived.Test.YtifkhfnmbiefaaaZToneNormsPrt0
import Derived.Test.YtifkhfnmbiefaaaZToneNormsM1
import Derived.Test.YtifkhfnmbiefaaaZToneNormsM2
import Derived.Test.YtifkhfnmbiefaaaZToneNormsSh
namespace Go.Proofs.Ytifkhfnmbiefaaa.Prt
open Go.RowKit Go.Proofs.YtifkhfnmbiefaaaW.PrintWords Go.Proofs.YtifkhfnmbiefaaaW.PrintLast Go.Proofs.YtifkhfnmbiefaaaW.PrintMore
attribute [local go_sem] max2_int min2_int max_two min_two max_three min_three max_four min_four   -- for this text's walks alone
set_option linter.unusedVariables false
set_option linter.unusedSimpArgs false


mutual
def psalterylaw23_ToneNorms.j0 : Nat→Int→Bool→Bool→List (List Int)→List (List (List Int))→List (List Int)→Option (Bool)
 | 0,_,_,_,_,_,_=>none
 | k+1,x1,x65,x737000,x737001,x737002,x744000=>if x65=true then (none) else (psalterylaw23_ToneNorms.l0 k x1 0 x737000 x737001 x737002 x744000)
def psalterylaw23_ToneNorms.l0 : Nat→Int→Int→Bool→List (List Int)→List (List (List Int))→List (List Int)→Option (Bool)
 | 0,_,_,_,_,_,_=>none
 | k+1,x1,x11,x737000,x737001,x737002,x744000=>if x11 < x1 then (if 0≤x11 then (if x11 < (x744000.length : Int) then (if ((rd_L1 x744000 x11).length : Int)=16 then (if x11 < (x737002.length : Int) then (if ((rd_L4 x737002 x11).length : Int)=5 then (if x11 < (x737001.length : Int) then (psalterylaw23_ToneNorms.j2 k x1 x11 (((rd_L2 x737001 x11).length : Int) != 5) x737000 x737001 x737002 x744000) else (none)) else (psalterylaw23_ToneNorms.j2 k x1 x11 true x737000 x737001 x737002 x744000)) else (none)) else (psalterylaw23_ToneNorms.j2 k x1 x11 true x737000 x737001 x737002 x744000)) else (none)) else (none)) else ((psalterylaw23_knows.f k).bind fun t744=>(some t744))
def psalterylaw23_ToneNorms.j2 : Nat→Int→Int→Bool→Bool→List (List Int)→List (List (List Int))→List (List Int)→Option (Bool)
 | 0,_,_,_,_,_,_,_=>none
 | k+1,x1,x11,x95,x737000,x737001,x737002,x744000=>if x95=true then (none) else (psalterylaw23_ToneNorms.l1 k x1 x11 0 x737000 x737001 x737002 x744000)
def psalterylaw23_ToneNorms.l1 : Nat→Int→Int→Int→Bool→List (List Int)→List (List (List Int))→List (List Int)→Option (Bool)
 | 0,_,_,_,_,_,_,_=>none
 | k+1,x1,x11,x12,x737000,x737001,x737002,x744000=>if x12 < 5 then (if 0≤x11 then (if x11 < (x744000.length : Int) then ((psalteryref10_Band.f k (rd_L1 x744000 x11) x12).bind fun t749=>(if x11 < (x737002.length : Int) then (if 0≤x12 then (if x12 < ((rd_L4 x737002 x11).length : Int) then ((psalteryref06_Pulses.f k (rd_L2 (rd_L4 x737002 x11) x12)).bind fun t754=>(if t754=0 then (psalterylaw23_ToneNorms.j4 k x1 x11 x12 t749 true x737000 x737001 x737002 x744000) else ((psalterylaw23_cut.f k t749).bind fun t755=>(psalterylaw23_ToneNorms.j4 k x1 x11 x12 t749 t755 x737000 x737001 x737002 x744000)))) else (none)) else (none)) else (none))) else (none)) else (none)) else (psalterylaw23_ToneNorms.l0 k x1 (wrap64 (x11+1)) x737000 x737001 x737002 x744000)
def psalterylaw23_ToneNorms.j4 : Nat→Int→Int→Int→List Int→Bool→Bool→List (List Int)→List (List (List Int))→List (List Int)→Option (Bool)
 | 0,_,_,_,_,_,_,_,_,_=>none
 | k+1,x1,x11,x12,x13,x120,x737000,x737001,x737002,x744000=>if x120=true then (psalterylaw23_ToneNorms.l1 k x1 x11 (wrap64 (x12+1)) x737000 x737001 x737002 x744000) else (if 0≤x11 then (if x11 < (x737001.length : Int) then (if 0≤x12 then (if x12 < ((rd_L2 x737001 x11).length : Int) then ((psalteryref10_Value.f k (rd (rd_L2 x737001 x11) x12)).bind fun t758=>((psalteryref07_Square.f k x13).bind fun t759=>((psalteryref03_Sqrt.f k t759).bind fun t760=>(if (wrap64 ((wrap64 (t760)) - t758)) < 0 then (if (wrap64 (-(wrap64 ((wrap64 (t760)) - t758)))) > (wrap64 ((wrap64 (Int.tdiv t758 255))+3)) then (none) else (psalterylaw23_ToneNorms.l1 k x1 x11 (wrap64 (x12+1)) x737000 x737001 x737002 x744000)) else (if (wrap64 ((wrap64 (t760)) - t758)) > (wrap64 ((wrap64 (Int.tdiv t758 255))+3)) then (none) else (psalterylaw23_ToneNorms.l1 k x1 x11 (wrap64 (x12+1)) x737000 x737001 x737002 x744000)))))) else (none)) else (none)) else (none)) else (none))
end
def psalterylaw23_ToneNorms.f (k : Nat) (a0 : Int) (a1 : Int) (l2_0 : List (List Int)) : Option (Bool):=(psalterylaw23_great.f k l2_0).bind fun t726=>(if t726=true then ((psalterylaw23_knows.f k).bind fun t727=>(some t727)) else ((ccodec_Encode.f k a0 a1 l2_0 true).bind fun bt728=>(if bt728.2.2.2=0 then ((ccodec_Decode.f k a0 a1 bt728.1 bt728.2.1 bt728.2.2.1).bind fun bt739=>(if bt739.2=0 then (if (bt739.1.length : Int)=a1 then (if (bt728.2.2.1.length : Int)=a1 then (psalterylaw23_ToneNorms.j0 k a1 ((bt728.2.1.length : Int) != a1) bt728.1 bt728.2.1 bt728.2.2.1 bt739.1) else (psalterylaw23_ToneNorms.j0 k a1 true bt728.1 bt728.2.1 bt728.2.2.1 bt739.1)) else (psalterylaw23_ToneNorms.j0 k a1 true bt728.1 bt728.2.1 bt728.2.2.1 bt739.1)) else (psalterylaw23_ToneNorms.j0 k a1 true bt728.1 bt728.2.1 bt728.2.2.1 bt739.1))) else ((psalteryref23_Right.f k a0 a1 l2_0).bind fun t737=>(if t737=true then (none) else ((psalterylaw23_knows.f k).bind fun t738=>(some t738)))))))
theorem psalterylaw23_ToneNorms.mono_l : ∀ k,(∀ y0 y1 y2 y3 y4 y5,LeO (psalterylaw23_ToneNorms.j0 k y0 y1 y2 y3 y4 y5) (psalterylaw23_ToneNorms.j0 (k+1) y0 y1 y2 y3 y4 y5))∧(∀ y0 y1 y2 y3 y4 y5,LeO (psalterylaw23_ToneNorms.l0 k y0 y1 y2 y3 y4 y5) (psalterylaw23_ToneNorms.l0 (k+1) y0 y1 y2 y3 y4 y5))∧(∀ y0 y1 y2 y3 y4 y5 y6,LeO (psalterylaw23_ToneNorms.j2 k y0 y1 y2 y3 y4 y5 y6) (psalterylaw23_ToneNorms.j2 (k+1) y0 y1 y2 y3 y4 y5 y6))∧(∀ y0 y1 y2 y3 y4 y5 y6,LeO (psalterylaw23_ToneNorms.l1 k y0 y1 y2 y3 y4 y5 y6) (psalterylaw23_ToneNorms.l1 (k+1) y0 y1 y2 y3 y4 y5 y6))∧(∀ y0 y1 y2 y3 y4 y5 y6 y7 y8,LeO (psalterylaw23_ToneNorms.j4 k y0 y1 y2 y3 y4 y5 y6 y7 y8) (psalterylaw23_ToneNorms.j4 (k+1) y0 y1 y2 y3 y4 y5 y6 y7 y8))
 | 0=>⟨fun _ _ _ _ _ _ r h=>by simp [psalterylaw23_ToneNorms.j0] at h,fun _ _ _ _ _ _ r h=>by simp [psalterylaw23_ToneNorms.l0] at h,fun _ _ _ _ _ _ _ r h=>by simp [psalterylaw23_ToneNorms.j2] at h,fun _ _ _ _ _ _ _ r h=>by simp [psalterylaw23_ToneNorms.l1] at h,fun _ _ _ _ _ _ _ _ _ r h=>by simp [psalterylaw23_ToneNorms.j4] at h⟩
 | k+1=>by
  obtain ⟨ih0,ih1,ih2,ih3,ih4⟩:=psalterylaw23_ToneNorms.mono_l k
  refine ⟨?_, ?_, ?_, ?_, ?_⟩
  ·
   intro y0 y1 y2 y3 y4 y5
   unfold psalterylaw23_ToneNorms.j0
   repeat' with_reducible first|apply ih0|apply ih1|apply ih2|apply ih3|apply ih4|apply ccodec_Decode.mono|apply ccodec_Encode.mono|apply psalterylaw23_cut.mono|apply psalterylaw23_great.mono|apply psalterylaw23_knows.mono|apply psalteryref03_Sqrt.mono|apply psalteryref06_Pulses.mono|apply psalteryref07_Square.mono|apply psalteryref10_Band.mono|apply psalteryref10_Value.mono|apply psalteryref23_Right.mono|apply yLr|apply yLn|apply yLi|apply yLb|intro _
  ·
   intro y0 y1 y2 y3 y4 y5
   unfold psalterylaw23_ToneNorms.l0
   repeat' with_reducible first|apply ih0|apply ih1|apply ih2|apply ih3|apply ih4|apply ccodec_Decode.mono|apply ccodec_Encode.mono|apply psalterylaw23_cut.mono|apply psalterylaw23_great.mono|apply psalterylaw23_knows.mono|apply psalteryref03_Sqrt.mono|apply psalteryref06_Pulses.mono|apply psalteryref07_Square.mono|apply psalteryref10_Band.mono|apply psalteryref10_Value.mono|apply psalteryref23_Right.mono|apply yLr|apply yLn|apply yLi|apply yLb|intro _
  ·
   intro y0 y1 y2 y3 y4 y5 y6
   unfold psalterylaw23_ToneNorms.j2
   repeat' with_reducible first|apply ih0|apply ih1|apply ih2|apply ih3|apply ih4|apply ccodec_Decode.mono|apply ccodec_Encode.mono|apply psalterylaw23_cut.mono|apply psalterylaw23_great.mono|apply psalterylaw23_knows.mono|apply psalteryref03_Sqrt.mono|apply psalteryref06_Pulses.mono|apply psalteryref07_Square.mono|apply psalteryref10_Band.mono|apply psalteryref10_Value.mono|apply psalteryref23_Right.mono|apply yLr|apply yLn|apply yLi|apply yLb|intro _
  ·
   intro y0 y1 y2 y3 y4 y5 y6
   unfold psalterylaw23_ToneNorms.l1
   repeat' with_reducible first|apply ih0|apply ih1|apply ih2|apply ih3|apply ih4|apply ccodec_Decode.mono|apply ccodec_Encode.mono|apply psalterylaw23_cut.mono|apply psalterylaw23_great.mono|apply psalterylaw23_knows.mono|apply psalteryref03_Sqrt.mono|apply psalteryref06_Pulses.mono|apply psalteryref07_Square.mono|apply psalteryref10_Band.mono|apply psalteryref10_Value.mono|apply psalteryref23_Right.mono|apply yLr|apply yLn|apply yLi|apply yLb|intro _
  ·
   intro y0 y1 y2 y3 y4 y5 y6 y7 y8
   unfold psalterylaw23_ToneNorms.j4
   repeat' with_reducible first|apply ih0|apply ih1|apply ih2|apply ih3|apply ih4|apply ccodec_Decode.mono|apply ccodec_Encode.mono|apply psalterylaw23_cut.mono|apply psalterylaw23_great.mono|apply psalterylaw23_knows.mono|apply psalteryref03_Sqrt.mono|apply psalteryref06_Pulses.mono|apply psalteryref07_Square.mono|apply psalteryref10_Band.mono|apply psalteryref10_Value.mono|apply psalteryref23_Right.mono|apply yLr|apply yLn|apply yLi|apply yLb|intro _
theorem psalterylaw23_ToneNorms.mono : ∀ a0 a1 a2 k,LeO (psalterylaw23_ToneNorms.f k a0 a1 a2) (psalterylaw23_ToneNorms.f (k+1) a0 a1 a2):=by
 intro a0 a1 a2 k
 obtain ⟨ih0,ih1,ih2,ih3,ih4⟩:=psalterylaw23_ToneNorms.mono_l k
 unfold psalterylaw23_ToneNorms.f
 repeat' with_reducible first|apply ih0|apply ih1|apply ih2|apply ih3|apply ih4|apply ccodec_Decode.mono|apply ccodec_Encode.mono|apply psalterylaw23_cut.mono|apply psalterylaw23_great.mono|apply psalterylaw23_knows.mono|apply psalteryref03_Sqrt.mono|apply psalteryref06_Pulses.mono|apply psalteryref07_Square.mono|apply psalteryref10_Band.mono|apply psalteryref10_Value.mono|apply psalteryref23_Right.mono|apply yLr|apply yLn|apply yLi|apply yLb|intro _
set_option maxHeartbeats 8000000 in
set_option maxRecDepth 100000 in
theorem psalterylaw23_ToneNorms.calls (k : Nat) (a0 : Int) (a1 : Int) (A2_0 : Option Addr) (c2_0 : Nat) (l2_0 : List (List Int)) (r : Bool) (w : World) (hr2_0 : Kd.C (Kd.slice 2 (Kd.int .i64)) w A2_0 l2_0.length l2_0) (hc2_0 : l2_0.length≤c2_0) (h : psalterylaw23_ToneNorms.f k a0 a1 l2_0=some r) :
  Calls Try.prog 7 #[.int .i64 a0, .int .i64 a1, .agg #[.slice A2_0 l2_0.length c2_0]] w fun e w' => e=.returned (.bool r)∧Below w.heap.size w w' := by
 have hu24:=Try.underlying24;have hu31:=Try.underlying31;have HR2_0:=zm hr2_0;have HC2_0:=zm hc2_0;clear hr2_0 hc2_0;have HB:=zm (Below.refl w.heap.size w)
 have H : ((psalterylaw23_great.f k l2_0).bind fun t726=>(if t726=true then ((psalterylaw23_knows.f k).bind fun t727=>(some t727)) else ((ccodec_Encode.f k a0 a1 l2_0 true).bind fun bt728=>(if bt728.2.2.2=0 then ((ccodec_Decode.f k a0 a1 bt728.1 bt728.2.1 bt728.2.2.1).bind fun bt739=>(if bt739.2=0 then (if (bt739.1.length : Int)=a1 then (if (bt728.2.2.1.length : Int)=a1 then (psalterylaw23_ToneNorms.j0 k a1 ((bt728.2.1.length : Int) != a1) bt728.1 bt728.2.1 bt728.2.2.1 bt739.1) else (psalterylaw23_ToneNorms.j0 k a1 true bt728.1 bt728.2.1 bt728.2.2.1 bt739.1)) else (psalterylaw23_ToneNorms.j0 k a1 true bt728.1 bt728.2.1 bt728.2.2.1 bt739.1)) else (psalterylaw23_ToneNorms.j0 k a1 true bt728.1 bt728.2.1 bt728.2.2.1 bt739.1))) else ((psalteryref23_Right.f k a0 a1 l2_0).bind fun t737=>(if t737=true then (none) else ((psalterylaw23_knows.f k).bind fun t738=>(some t738))))))))=some r:=h
 clear h
 replace H:=ybi H;obtain ⟨t726,A4,H⟩:=H
 by_cases c5 : t726=true
 ·
  subst c5
  rw [if_pos rfl] at H
  replace H:=ybi H;obtain ⟨t727,A6,H⟩:=H
  obtain rfl:=Option.some.inj H
  go_enter Try.func7,Try.ntmps7
  go_wp2_with (first|((with_reducible refine gate_dst (N:=5) rfl ?_);(try (refine gate_guard (by rfl) ?_;dsimp only));refine ybx 5 #[.slice A2_0 l2_0.length c2_0] 24 ?_;intro gb725 hg w7 hbox hb;have BK725:=zm (hbox);have GW725:=ygw hg;have GE725:=ygw hg;replace HB:=ybs hb;clear hb hbox hg;obtain ⟨hcz8_0,hfz8_0⟩:=yc1 BK725)|((with_reducible refine gate_callee (f:=10) rfl ?_);refine ygl 17 Try.func10 #[.agg #[.slice A2_0 l2_0.length c2_0]] ?_;(with_reducible refine (psalterylaw23_great.calls k _ _ l2_0 true _ ?side1 HC2_0.out A4.out).mono ?_);(case side1=>exact ycb HR2_0);rintro e w9 ⟨rfl,hb⟩;refine ⟨_,rfl, ?_⟩;replace BK725:=ybb BK725 hb;replace HB:=ybs hb;(try clear hb))|((with_reducible refine gate_callee (f:=12) rfl ?_);refine ygl 18 Try.func12 #[] ?_;(with_reducible refine (psalterylaw23_knows.calls k  t727 _ A6.out).mono ?_);rintro e w10 ⟨rfl,hb⟩;refine ⟨_,rfl, ?_⟩;replace BK725:=ybb BK725 hb;replace HB:=ybs hb;(try clear hb)))
  go_ret
  exact ⟨ye,yhb⟩
 ·
  replace c5:=Bool.eq_false_iff.mpr c5
  subst c5
  rw [ynf] at H
  replace H:=ybi H;obtain ⟨⟨t728,t729,t732,t735⟩,A11,H⟩:=H
  try dsimp only at H
  by_cases c12 : t735=0
  ·
   rw [if_pos c12] at H
   have c12b0 : (t735 == 0)=true:=beq_iff_eq.mpr c12
   have c12b1 : (t735 != 0)=false:=bne_eq_false_iff_eq.mpr c12
   clear c12
   replace H:=ybi H;obtain ⟨⟨t739,t742⟩,A13,H⟩:=H
   try dsimp only at H
   have HC14:=zm H;clear H
   go_enter Try.func7,Try.ntmps7
   go_upto_region 7 with (first|((with_reducible refine gate_dst (N:=5) rfl ?_);(try (refine gate_guard (by rfl) ?_;dsimp only));refine ybx 5 #[.slice A2_0 l2_0.length c2_0] 24 ?_;intro gb725 hg w15 hbox hb;have BK725:=zm (hbox);have GW725:=ygw hg;have GE725:=ygw hg;replace HB:=ybs hb;clear hb hbox hg;obtain ⟨hcz16_0,hfz16_0⟩:=yc1 BK725)|((with_reducible refine gate_callee (f:=10) rfl ?_);refine ygl 17 Try.func10 #[.agg #[.slice A2_0 l2_0.length c2_0]] ?_;(with_reducible refine (psalterylaw23_great.calls k _ _ l2_0 false _ ?side1 HC2_0.out A4.out).mono ?_);(case side1=>exact ycb HR2_0);rintro e w17 ⟨rfl,hb⟩;refine ⟨_,rfl, ?_⟩;replace BK725:=ybb BK725 hb;replace HB:=ybs hb;(try clear hb);obtain ⟨hcz18_0,hfz18_0⟩:=yc1 BK725)|((with_reducible refine gate_callee (f:=13) rfl ?_);refine ygl 23 Try.func13 #[.int .i64 a0, .int .i64 a1, .agg #[.slice A2_0 l2_0.length c2_0], .bool true] ?_;(with_reducible refine (ccodec_Encode.calls k a0 a1 _ _ l2_0 true t728 t729 t732 t735 _ ?side1 HC2_0.out A11.out).mono ?_);(case side1=>exact ycb HR2_0);rintro e w19 ⟨v730,v733,rfl,ho0,ho1,hb⟩;refine ⟨_,rfl, ?_⟩;have HO731:=zm (Kd.N_lower (Kd.N_mono (ok' := fun k_=>some k_≠(v733 : Value).ownBlock∧k_≠gb725) ho0 (fun k_ hk_=>⟨hk_.2,(Kd.freshB (yk BK725) k_ hk_.1)⟩)) (zE yhb));have HO734:=zm (Kd.N_lower (Kd.N_mono (ok' := fun k_=>some k_≠(v730 : Value).ownBlock∧k_≠gb725) ho1 (fun k_ hk_=>⟨hk_.2,(Kd.freshB (yk BK725) k_ hk_.1)⟩)) (zE yhb));replace BK725:=ybb BK725 hb;replace HB:=ybs hb;(try clear hb);(try clear ho0);(try clear ho1))|((with_reducible refine gate_dst (N:=7) rfl ?_);(try (refine gate_guard (by rfl) ?_;dsimp only));refine ybx 7 #[.bool false, .slice none 0 0, .slice none 0 0] 31 ?_;intro gb736 hg w20 hbox hb;replace HO731:=zm (Kd.N_below (Kd.N_elderB (yr HO731) gb736 (Nat.le_of_eq hg.symm)) hb);replace HO734:=zm (Kd.N_below (Kd.N_elderB (yr HO734) gb736 (Nat.le_of_eq hg.symm)) hb);have BK736:=zm (hbox);have GW736:=ygw hg;have GE736:=ygw hg;replace HB:=ybs hb;have NB725_736:=ynl BK725 hg;have NB736_725:=yng BK725 hg;replace BK725:=ybb BK725 hb;clear hb hbox hg;have:=NB736_725.out;have:=NB725_736.out;obtain ⟨hcz22_0,hcz22_1,hcz22_2,hfz22_0,hfz22_1,hfz22_2⟩:=yc3 BK736;obtain ⟨Ao23,co23,eo23⟩:=Kd.N_slice HO731.out;subst eo23;obtain ⟨Ao24,co24,eo24⟩:=Kd.N_slice HO734.out;subst eo24)|((with_reducible refine gate_callee (f:=23) rfl ?_);refine ygl 40 Try.func23 #[.int .i64 a0, .int .i64 a1, .agg #[.bool t728, .slice Ao23 t729.length co23, .slice Ao24 t732.length co24]] ?_;(with_reducible refine (ccodec_Decode.calls k a0 a1 t728 _ _ t729 _ _ t732 t739 t742 _ ?side1 ?side2 ?side3 ?side4 A13.out).mono ?_);(case side1=>refine (Kd.N_reads' (e:=55) (base:=w.heap.size) (ok:=fun k_=>((some k_≠(.slice Ao24 t732.length co24 : Value).ownBlock∧k_≠gb725)∧k_≠gb736)) (n:=t729.length) (c:=co23) ?_).2.2;exact (yN0 HO731));(case side2=>exact (Kd.N_reads' HO731.out).2.1);(case side3=>refine (Kd.N_reads' (e:=25) (base:=w.heap.size) (ok:=fun k_=>((some k_≠(.slice Ao23 t729.length co23 : Value).ownBlock∧k_≠gb725)∧k_≠gb736)) (n:=t732.length) (c:=co24) ?_).2.2;exact (yN0 HO734));(case side4=>exact (Kd.N_reads' HO734.out).2.1);rintro e w25 ⟨v740,rfl,ho0,hb⟩;refine ⟨_,rfl, ?_⟩;have HO741:=zm (Kd.N_lower (Kd.N_mono (ok' := fun k_=>some k_≠(.slice Ao23 t729.length co23 : Value).ownBlock∧some k_≠(.slice Ao24 t732.length co24 : Value).ownBlock∧k_≠gb725∧k_≠gb736) (Kd.S_N (Kd.S_bound ho0)) (fun k_ hk_=>⟨(Kd.fresh' (Kd.N_lt (yN0 HO731)) k_ hk_.2.1),(Kd.fresh' (Kd.N_lt (yN0 HO734)) k_ hk_.2.1),(Kd.freshB (yk BK725) k_ hk_.2.1),(Kd.freshB (g:=gb736) (o:=.cells #[.bool t728, .slice Ao23 t729.length co23, .slice Ao24 t732.length co24] 31 (0,0)) (ykp BK736) k_ hk_.2.1)⟩)) (zE yhb));replace HO731:=zm (Kd.N_elder' (yN0 HO731) (Kd.S_base ho0) hb);replace HO734:=zm (Kd.N_elder' (yN0 HO734) (Kd.S_base ho0) hb);replace BK725:=ybb BK725 hb;replace BK736:=zm (zF (g:=gb736) (o:=.cells #[.bool t728, .slice Ao23 t729.length co23, .slice Ao24 t732.length co24] 31 (0,0)) (ykp BK736) hb);replace HB:=ybs hb;(try clear hb);(try clear ho0))|((with_reducible refine gate_dst (N:=9) rfl ?_);(try (refine gate_guard (by rfl) ?_;dsimp only));refine ybx 9 #[.slice none 0 0] 24 ?_;intro gb743 hg w26 hbox hb;replace HO731:=zm (Kd.N_below (Kd.N_elderB (yr HO731) gb743 (Nat.le_of_eq hg.symm)) hb);replace HO734:=zm (Kd.N_below (Kd.N_elderB (yr HO734) gb743 (Nat.le_of_eq hg.symm)) hb);replace HO741:=zm (Kd.N_below (Kd.N_elderB (yr HO741) gb743 (Nat.le_of_eq hg.symm)) hb);have BK743:=zm (hbox);have GW743:=ygw hg;have GE743:=ygw hg;replace HB:=ybs hb;have NB725_743:=ynl BK725 hg;have NB743_725:=yng BK725 hg;replace BK725:=ybb BK725 hb;have NB736_743:=ynl BK736 hg;have NB743_736:=yng BK736 hg;replace BK736:=ybb BK736 hb;clear hb hbox hg;obtain ⟨Ao27,co27,eo27⟩:=Kd.N_slice HO741.out;subst eo27;have:=NB743_725.out;have:=NB725_743.out;have:=NB743_736.out;have:=NB736_743.out;obtain ⟨hcz30_0,hfz30_0⟩:=yc1 BK743))
   (try simp only [Act.put,List.setIfInBounds_toArray,List.set_cons_zero,List.set_cons_succ])
   go_cut [65] (fun v65 wc => ∃ (kq : Nat) (x65_13 : Bool),v65=.bool x65_13∧Aside0 (psalterylaw23_ToneNorms.j0 kq a1 x65_13 t728 t729 t732 t739=some r)∧Aside0 (kq≤k)∧Aside0 (Kd.N (Kd.slice 3 (Kd.int .i64)) 55 wc w.heap.size (fun k_=>some k_≠((.slice Ao24 t732.length co24) : Value).ownBlock∧some k_≠((.slice Ao27 t739.length co27) : Value).ownBlock∧k_≠gb725∧k_≠gb736∧k_≠gb743) (.slice Ao23 t729.length co23) t729)∧Aside0 (Kd.N (Kd.slice 55 (Kd.slice 3 (Kd.int .i64))) 25 wc w.heap.size (fun k_=>some k_≠((.slice Ao23 t729.length co23) : Value).ownBlock∧some k_≠((.slice Ao27 t739.length co27) : Value).ownBlock∧k_≠gb725∧k_≠gb736∧k_≠gb743) (.slice Ao24 t732.length co24) t732)∧Aside0 (Kd.N (Kd.slice 2 (Kd.int .i64)) 53 wc w.heap.size (fun k_=>some k_≠((.slice Ao23 t729.length co23) : Value).ownBlock∧some k_≠((.slice Ao24 t732.length co24) : Value).ownBlock∧k_≠gb725∧k_≠gb736∧k_≠gb743) (.slice Ao27 t739.length co27) t739)∧Aside0 (wc.heap[gb725]? = some (.cells #[(.slice A2_0 l2_0.length c2_0)] 24 (0,0)))∧Aside0 (wc.heap[gb736]? = some (.cells #[.bool t728,(.slice Ao23 t729.length co23),(.slice Ao24 t732.length co24)] 31 (0,0)))∧Aside0 (wc.heap[gb743]? = some (.cells #[(.slice Ao27 t739.length co27)] 24 (0,0)))∧Aside0 (Below w.heap.size w wc))
   case first =>
    have H:=HC14.out;clear HC14
    by_cases c31 : t742=0
    ·
     rw [if_pos c31] at H
     have c31b0 : (t742 == 0)=true:=beq_iff_eq.mpr c31
     have c31b1 : (t742 != 0)=false:=bne_eq_false_iff_eq.mpr c31
     clear c31
     (first|rw [c31b0]|(simp only [i64_w,i32_w];rw [c31b0])|skip)
     by_cases c32 : (t739.length : Int)=a1
     ·
      rw [if_pos c32] at H
      have c32b0 : ((t739.length : Int) == a1)=true:=beq_iff_eq.mpr c32
      have c32b1 : ((t739.length : Int) != a1)=false:=bne_eq_false_iff_eq.mpr c32
      clear c32
      by_cases c33 : (t732.length : Int)=a1
      ·
       rw [if_pos c33] at H
       have c33b0 : ((t732.length : Int) == a1)=true:=beq_iff_eq.mpr c33
       have c33b1 : ((t732.length : Int) != a1)=false:=bne_eq_false_iff_eq.mpr c33
       clear c33
       have H' := zm H
       clear H
       have:=NB743_725.out
       have:=NB725_743.out
       have:=NB743_736.out
       have:=NB736_743.out
       obtain ⟨_,_⟩:=yc1 BK743
       have:=NB736_725.out
       have:=NB725_736.out
       obtain ⟨_,_,_,_,_,_⟩:=yc3 BK736
       go_wp2
       go_meet
       case rel=>exact ⟨_,(((t729.length : Int) != a1)),yq,H',⟨yo⟩,⟨yN0 HO731⟩,⟨yN0 HO734⟩,⟨yN0 HO741⟩,⟨yk BK725⟩,⟨yk BK736⟩,⟨ykp BK743⟩,⟨yhb⟩⟩
      ·
       rw [if_neg c33] at H
       have c33b0 : ((t732.length : Int) == a1)=false:=beq_eq_false_iff_ne.mpr c33
       have c33b1 : ((t732.length : Int) != a1)=true:=bne_iff_ne.mpr c33
       have H' := zm H
       clear H
       have:=NB743_725.out
       have:=NB725_743.out
       have:=NB743_736.out
       have:=NB736_743.out
       obtain ⟨_,_⟩:=yc1 BK743
       have:=NB736_725.out
       have:=NB725_736.out
       obtain ⟨_,_,_,_,_,_⟩:=yc3 BK736
       go_wp2
       go_meet
       case rel=>exact ⟨_,(true),yq,H',⟨yo⟩,⟨yN0 HO731⟩,⟨yN0 HO734⟩,⟨yN0 HO741⟩,⟨yk BK725⟩,⟨yk BK736⟩,⟨ykp BK743⟩,⟨yhb⟩⟩
     ·
      rw [if_neg c32] at H
      have c32b0 : ((t739.length : Int) == a1)=false:=beq_eq_false_iff_ne.mpr c32
      have c32b1 : ((t739.length : Int) != a1)=true:=bne_iff_ne.mpr c32
      have H' := zm H
      clear H
      have:=NB743_725.out
      have:=NB725_743.out
      have:=NB743_736.out
      have:=NB736_743.out
      obtain ⟨_,_⟩:=yc1 BK743
      go_wp2
      go_meet
      case rel=>exact ⟨_,(true),yq,H',⟨yo⟩,⟨yN0 HO731⟩,⟨yN0 HO734⟩,⟨yN0 HO741⟩,⟨yk BK725⟩,⟨yk BK736⟩,⟨ykp BK743⟩,⟨yhb⟩⟩
    ·
     rw [if_neg c31] at H
     have c31b0 : (t742 == 0)=false:=beq_eq_false_iff_ne.mpr c31
     have c31b1 : (t742 != 0)=true:=bne_iff_ne.mpr c31
     (first|rw [c31b0]|(simp only [i64_w,i32_w];rw [c31b0])|skip)
     have H' := zm H
     clear H
     go_wp2
     go_meet
     case rel=>exact ⟨_,(true),yq,H',⟨yo⟩,⟨yN0 HO731⟩,⟨yN0 HO734⟩,⟨yN0 HO741⟩,⟨yk BK725⟩,⟨yk BK736⟩,⟨ykp BK743⟩,⟨yhb⟩⟩
   case rest =>
    clear HC14
    try clear c12b0
    try clear c12b1
    try clear hcz16_0
    try clear hcz18_0
    try clear hcz22_0
    try clear hcz22_1
    try clear hcz22_2
    try clear hcz30_0
    try clear hcz8_0
    try clear hfz16_0
    try clear hfz18_0
    try clear hfz22_0
    try clear hfz22_1
    try clear hfz22_2
    try clear hfz30_0
    try clear hfz8_0
    obtain ⟨kq,x65_13,rfl,HA,HJ13,HO_737001,HO_737002,HO_744000,BK725,BK736,BK743,HB⟩:=hcut
    obtain ⟨kj13,rfl⟩:=ysu kq (fun h=>by subst h;exact absurd HA.out (by simp [psalterylaw23_ToneNorms.j0]))
    have H:=HA.out;clear HA
    simp only [psalterylaw23_ToneNorms.j0] at H
    replace H:=yie H;obtain ⟨c47,H⟩:=H
    replace c47:=Bool.eq_false_iff.mpr c47
    subst c47
    have H' := zm H
    clear H
    go_wp2
    go_loopg [11] kj13 (fun kq v11 w' => ∃ (x11_2 : Int),v11=.int .i64 x11_2∧Aside0 (psalterylaw23_ToneNorms.l0 kq a1 x11_2 t728 t729 t732 t739=some r)∧Aside0 (kq≤kj13)∧Aside0 (Kd.N (Kd.slice 3 (Kd.int .i64)) 55 w' w.heap.size (fun k_=>some k_≠((.slice Ao24 t732.length co24) : Value).ownBlock∧some k_≠((.slice Ao27 t739.length co27) : Value).ownBlock∧k_≠gb725∧k_≠gb736∧k_≠gb743) (.slice Ao23 t729.length co23) t729)∧Aside0 (Kd.N (Kd.slice 55 (Kd.slice 3 (Kd.int .i64))) 25 w' w.heap.size (fun k_=>some k_≠((.slice Ao23 t729.length co23) : Value).ownBlock∧some k_≠((.slice Ao27 t739.length co27) : Value).ownBlock∧k_≠gb725∧k_≠gb736∧k_≠gb743) (.slice Ao24 t732.length co24) t732)∧Aside0 (Kd.N (Kd.slice 2 (Kd.int .i64)) 53 w' w.heap.size (fun k_=>some k_≠((.slice Ao23 t729.length co23) : Value).ownBlock∧some k_≠((.slice Ao24 t732.length co24) : Value).ownBlock∧k_≠gb725∧k_≠gb736∧k_≠gb743) (.slice Ao27 t739.length co27) t739)∧Aside0 (w'.heap[gb725]? = some (.cells #[(.slice A2_0 l2_0.length c2_0)] 24 (0,0)))∧Aside0 (w'.heap[gb736]? = some (.cells #[.bool t728,(.slice Ao23 t729.length co23),(.slice Ao24 t732.length co24)] 31 (0,0)))∧Aside0 (w'.heap[gb743]? = some (.cells #[(.slice Ao27 t739.length co27)] 24 (0,0)))∧Aside0 (Below w.heap.size w w'))
    case atStart=>exact ⟨(0),yq,H',⟨Nat.le_refl _⟩,⟨yr HO_737001⟩,⟨yr HO_737002⟩,⟨yr HO_744000⟩,⟨yk BK725⟩,⟨yk BK736⟩,⟨yk BK743⟩,⟨yhb⟩⟩
    case round =>
     clear H'
     obtain ⟨x11_2,rfl,HA,HK2,HO_737001,HO_737002,HO_744000,BK725,BK736,BK743,HB⟩:=hrel
     obtain ⟨k2,rfl⟩:=ysu gk (fun h=>by subst h;exact absurd HA.out (by simp [psalterylaw23_ToneNorms.l0]))
     have H:=HA.out;clear HA
     simp only [psalterylaw23_ToneNorms.l0] at H
     by_cases c48 : x11_2 < a1
     ·
      rw [if_pos c48] at H
      have c48b0 : decide (x11_2 < a1)=true:=decide_eq_true c48
      clear c48;have HC49:=zm H;clear H
      go_upto_region 12 with (fail)
      go_cut [95] (fun v95 wc => ∃ (kq : Nat) (x95_48 : Bool),v95=.bool x95_48∧Aside0 (psalterylaw23_ToneNorms.j2 kq a1 x11_2 x95_48 t728 t729 t732 t739=some r)∧Aside0 (kq≤k2)∧Aside0 (Kd.N (Kd.slice 3 (Kd.int .i64)) 55 wc w.heap.size (fun k_=>some k_≠((.slice Ao24 t732.length co24) : Value).ownBlock∧some k_≠((.slice Ao27 t739.length co27) : Value).ownBlock∧k_≠gb725∧k_≠gb736∧k_≠gb743) (.slice Ao23 t729.length co23) t729)∧Aside0 (Kd.N (Kd.slice 55 (Kd.slice 3 (Kd.int .i64))) 25 wc w.heap.size (fun k_=>some k_≠((.slice Ao23 t729.length co23) : Value).ownBlock∧some k_≠((.slice Ao27 t739.length co27) : Value).ownBlock∧k_≠gb725∧k_≠gb736∧k_≠gb743) (.slice Ao24 t732.length co24) t732)∧Aside0 (Kd.N (Kd.slice 2 (Kd.int .i64)) 53 wc w.heap.size (fun k_=>some k_≠((.slice Ao23 t729.length co23) : Value).ownBlock∧some k_≠((.slice Ao24 t732.length co24) : Value).ownBlock∧k_≠gb725∧k_≠gb736∧k_≠gb743) (.slice Ao27 t739.length co27) t739)∧Aside0 (wc.heap[gb725]? = some (.cells #[(.slice A2_0 l2_0.length c2_0)] 24 (0,0)))∧Aside0 (wc.heap[gb736]? = some (.cells #[.bool t728,(.slice Ao23 t729.length co23),(.slice Ao24 t732.length co24)] 31 (0,0)))∧Aside0 (wc.heap[gb743]? = some (.cells #[(.slice Ao27 t739.length co27)] 24 (0,0)))∧Aside0 (Below w.heap.size w wc))
      case first =>
       have H:=HC49.out;clear HC49
       replace H:=yif H;obtain ⟨c50,H⟩:=H
       have c50b0 : decide (0≤x11_2)=true:=decide_eq_true c50
       clear c50
       (first|rw [c50b0]|(simp only [i64_w,i32_w];rw [c50b0])|skip)
       replace H:=yif H;obtain ⟨c51,H⟩:=H
       have c51b0 : decide (x11_2 < (t739.length : Int))=true:=decide_eq_true c51
       clear c51
       by_cases c52 : ((rd_L1 t739 x11_2).length : Int)=16
       ·
        rw [if_pos c52] at H
        have c52b0 : (((rd_L1 t739 x11_2).length : Int) == 16)=true:=beq_iff_eq.mpr c52
        have c52b1 : (((rd_L1 t739 x11_2).length : Int) != 16)=false:=bne_eq_false_iff_eq.mpr c52
        clear c52
        replace H:=yif H;obtain ⟨c53,H⟩:=H
        have c53b0 : decide (x11_2 < (t732.length : Int))=true:=decide_eq_true c53
        clear c53
        by_cases c54 : ((rd_L4 t732 x11_2).length : Int)=5
        ·
         rw [if_pos c54] at H
         have c54b0 : (((rd_L4 t732 x11_2).length : Int) == 5)=true:=beq_iff_eq.mpr c54
         have c54b1 : (((rd_L4 t732 x11_2).length : Int) != 5)=false:=bne_eq_false_iff_eq.mpr c54
         clear c54
         replace H:=yif H;obtain ⟨c55,H⟩:=H
         have c55b0 : decide (x11_2 < (t729.length : Int))=true:=decide_eq_true c55
         clear c55
         have H' := zm H
         clear H
         have:=NB743_725.out
         have:=NB725_743.out
         have:=NB743_736.out
         have:=NB736_743.out
         obtain ⟨_,_⟩:=yc1 BK743
         have p745 : 0≤(x11_2 : Int):=yt
         have q745 : x11_2 < (t739.length : Int):=yt
         obtain ⟨ad745,A745_0,c745_0,e745,hx745_0,hl745_0,hi745_0⟩:=at_L1 (Kd.N_reads' HO_744000.out).2.2 x11_2 p745 q745
         cases e745
         obtain ⟨ce745,hce745,hMe745,hcc745⟩:=Kd.N_get HO_744000.out [] x11_2 p745 (by first|exact q745|exact yt|(have e_:=(Kd.N_reads' HO_744000.out).1;omega))
         obtain ⟨ua745_0,uc745_0,rfl,ul745_0,ge745_0⟩:=Kd.FK_slice_open hMe745
         have hv745_0:=hcc745 0 _ rfl
         rw [Nat.add_zero,show ((Kd.slice 2 (Kd.int .i64))).sz=1 from rfl,Nat.mul_one] at hv745_0
         replace hv745_0:=Option.some.inj (hv745_0.symm.trans hx745_0)
         injection hv745_0 with hva_ hvn_ hvc_
         rw [hva_] at ge745_0
         rw [hvc_] at ul745_0
         have HL745_0:=zm (show Kd.V (Kd.int .i64) 2 _ w.heap.size _ _ (rd_L1 t739 x11_2) from Kd.V_mk ul745_0 ge745_0)
         clear hva_ hvn_ hvc_ ge745_0 ul745_0;clear hcc745 hce745;have HR745_0:=zm hi745_0;have HC745_0:=zm hl745_0;clear hi745_0 hl745_0
         replace p745:=eq_true p745
         replace q745:=eq_true q745
         have:=NB736_725.out
         have:=NB725_736.out
         obtain ⟨_,_,_,_,_,_⟩:=yc3 BK736
         have p746 : 0≤(x11_2 : Int):=yt
         have q746 : x11_2 < (t732.length : Int):=yt
         obtain ⟨ad746,A746_0,c746_0,e746,hx746_0,hl746_0,hi746_0⟩:=at_L4 (Kd.N_reads' HO_737002.out).2.2 x11_2 p746 q746
         cases e746
         obtain ⟨ce746,hce746,hMe746,hcc746⟩:=Kd.N_get HO_737002.out [] x11_2 p746 (by first|exact q746|exact yt|(have e_:=(Kd.N_reads' HO_737002.out).1;omega))
         obtain ⟨ua746_0,uc746_0,rfl,ul746_0,ge746_0⟩:=Kd.FK_slice_open hMe746
         have hv746_0:=hcc746 0 _ rfl
         rw [Nat.add_zero,show ((Kd.slice 55 (Kd.slice 3 (Kd.int .i64)))).sz=1 from rfl,Nat.mul_one] at hv746_0
         replace hv746_0:=Option.some.inj (hv746_0.symm.trans hx746_0)
         injection hv746_0 with hva_ hvn_ hvc_
         rw [hva_] at ge746_0
         rw [hvc_] at ul746_0
         have HL746_0:=zm (show Kd.V (Kd.slice 3 (Kd.int .i64)) 55 _ w.heap.size _ _ (rd_L4 t732 x11_2) from Kd.V_mk ul746_0 ge746_0)
         clear hva_ hvn_ hvc_ ge746_0 ul746_0;clear hcc746 hce746;have HR746_0:=zm hi746_0;have HC746_0:=zm hl746_0;clear hi746_0 hl746_0
         replace p746:=eq_true p746
         replace q746:=eq_true q746
         have p747 : 0≤(x11_2 : Int):=yt
         have q747 : x11_2 < (t729.length : Int):=yt
         obtain ⟨ad747,A747_0,c747_0,e747,hx747_0,hl747_0,hi747_0⟩:=at_L2 (Kd.N_reads' HO_737001.out).2.2 x11_2 p747 q747
         cases e747
         obtain ⟨ce747,hce747,hMe747,hcc747⟩:=Kd.N_get HO_737001.out [] x11_2 p747 (by first|exact q747|exact yt|(have e_:=(Kd.N_reads' HO_737001.out).1;omega))
         obtain ⟨ua747_0,uc747_0,rfl,ul747_0,ge747_0⟩:=Kd.FK_slice_open hMe747
         have hv747_0:=hcc747 0 _ rfl
         rw [Nat.add_zero,show ((Kd.slice 3 (Kd.int .i64))).sz=1 from rfl,Nat.mul_one] at hv747_0
         replace hv747_0:=Option.some.inj (hv747_0.symm.trans hx747_0)
         injection hv747_0 with hva_ hvn_ hvc_
         rw [hva_] at ge747_0
         rw [hvc_] at ul747_0
         have HL747_0:=zm (show Kd.V (Kd.int .i64) 3 _ w.heap.size _ _ (rd_L2 t729 x11_2) from Kd.V_mk ul747_0 ge747_0)
         clear hva_ hvn_ hvc_ ge747_0 ul747_0;clear hcc747 hce747;have HR747_0:=zm hi747_0;have HC747_0:=zm hl747_0;clear hi747_0 hl747_0
         replace p747:=eq_true p747
         replace q747:=eq_true q747
         go_wp2
         go_meet
         case rel=>exact ⟨_,((((rd_L2 t729 x11_2).length : Int) != 5)),yq,H',⟨yom2 HJ13 HK2⟩,⟨yr HO_737001⟩,⟨yr HO_737002⟩,⟨yr HO_744000⟩,⟨yk BK725⟩,⟨yk BK736⟩,⟨yk BK743⟩,⟨yhb⟩⟩
        ·
         rw [if_neg c54] at H
         have c54b0 : (((rd_L4 t732 x11_2).length : Int) == 5)=false:=beq_eq_false_iff_ne.mpr c54
         have c54b1 : (((rd_L4 t732 x11_2).length : Int) != 5)=true:=bne_iff_ne.mpr c54
         have H' := zm H
         clear H
         have:=NB743_725.out
         have:=NB725_743.out
         have:=NB743_736.out
         have:=NB736_743.out
         obtain ⟨_,_⟩:=yc1 BK743
         have p745 : 0≤(x11_2 : Int):=yt
         have q745 : x11_2 < (t739.length : Int):=yt
         obtain ⟨ad745,A745_0,c745_0,e745,hx745_0,hl745_0,hi745_0⟩:=at_L1 (Kd.N_reads' HO_744000.out).2.2 x11_2 p745 q745
         cases e745
         obtain ⟨ce745,hce745,hMe745,hcc745⟩:=Kd.N_get HO_744000.out [] x11_2 p745 (by first|exact q745|exact yt|(have e_:=(Kd.N_reads' HO_744000.out).1;omega))
         obtain ⟨ua745_0,uc745_0,rfl,ul745_0,ge745_0⟩:=Kd.FK_slice_open hMe745
         have hv745_0:=hcc745 0 _ rfl
         rw [Nat.add_zero,show ((Kd.slice 2 (Kd.int .i64))).sz=1 from rfl,Nat.mul_one] at hv745_0
         replace hv745_0:=Option.some.inj (hv745_0.symm.trans hx745_0)
         injection hv745_0 with hva_ hvn_ hvc_
         rw [hva_] at ge745_0
         rw [hvc_] at ul745_0
         have HL745_0:=zm (show Kd.V (Kd.int .i64) 2 _ w.heap.size _ _ (rd_L1 t739 x11_2) from Kd.V_mk ul745_0 ge745_0)
         clear hva_ hvn_ hvc_ ge745_0 ul745_0;clear hcc745 hce745;have HR745_0:=zm hi745_0;have HC745_0:=zm hl745_0;clear hi745_0 hl745_0
         replace p745:=eq_true p745
         replace q745:=eq_true q745
         have:=NB736_725.out
         have:=NB725_736.out
         obtain ⟨_,_,_,_,_,_⟩:=yc3 BK736
         have p746 : 0≤(x11_2 : Int):=yt
         have q746 : x11_2 < (t732.length : Int):=yt
         obtain ⟨ad746,A746_0,c746_0,e746,hx746_0,hl746_0,hi746_0⟩:=at_L4 (Kd.N_reads' HO_737002.out).2.2 x11_2 p746 q746
         cases e746
         obtain ⟨ce746,hce746,hMe746,hcc746⟩:=Kd.N_get HO_737002.out [] x11_2 p746 (by first|exact q746|exact yt|(have e_:=(Kd.N_reads' HO_737002.out).1;omega))
         obtain ⟨ua746_0,uc746_0,rfl,ul746_0,ge746_0⟩:=Kd.FK_slice_open hMe746
         have hv746_0:=hcc746 0 _ rfl
         rw [Nat.add_zero,show ((Kd.slice 55 (Kd.slice 3 (Kd.int .i64)))).sz=1 from rfl,Nat.mul_one] at hv746_0
         replace hv746_0:=Option.some.inj (hv746_0.symm.trans hx746_0)
         injection hv746_0 with hva_ hvn_ hvc_
         rw [hva_] at ge746_0
         rw [hvc_] at ul746_0
         have HL746_0:=zm (show Kd.V (Kd.slice 3 (Kd.int .i64)) 55 _ w.heap.size _ _ (rd_L4 t732 x11_2) from Kd.V_mk ul746_0 ge746_0)
         clear hva_ hvn_ hvc_ ge746_0 ul746_0;clear hcc746 hce746;have HR746_0:=zm hi746_0;have HC746_0:=zm hl746_0;clear hi746_0 hl746_0
         replace p746:=eq_true p746
         replace q746:=eq_true q746
         go_wp2
         go_meet
         case rel=>exact ⟨_,(true),yq,H',⟨yom2 HJ13 HK2⟩,⟨yr HO_737001⟩,⟨yr HO_737002⟩,⟨yr HO_744000⟩,⟨yk BK725⟩,⟨yk BK736⟩,⟨yk BK743⟩,⟨yhb⟩⟩
       ·
        rw [if_neg c52] at H
        have c52b0 : (((rd_L1 t739 x11_2).length : Int) == 16)=false:=beq_eq_false_iff_ne.mpr c52
        have c52b1 : (((rd_L1 t739 x11_2).length : Int) != 16)=true:=bne_iff_ne.mpr c52
        have H' := zm H
        clear H
        have:=NB743_725.out
        have:=NB725_743.out
        have:=NB743_736.out
        have:=NB736_743.out
        obtain ⟨_,_⟩:=yc1 BK743
        have p745 : 0≤(x11_2 : Int):=yt
        have q745 : x11_2 < (t739.length : Int):=yt
        obtain ⟨ad745,A745_0,c745_0,e745,hx745_0,hl745_0,hi745_0⟩:=at_L1 (Kd.N_reads' HO_744000.out).2.2 x11_2 p745 q745
        cases e745
        obtain ⟨ce745,hce745,hMe745,hcc745⟩:=Kd.N_get HO_744000.out [] x11_2 p745 (by first|exact q745|exact yt|(have e_:=(Kd.N_reads' HO_744000.out).1;omega))
        obtain ⟨ua745_0,uc745_0,rfl,ul745_0,ge745_0⟩:=Kd.FK_slice_open hMe745
        have hv745_0:=hcc745 0 _ rfl
        rw [Nat.add_zero,show ((Kd.slice 2 (Kd.int .i64))).sz=1 from rfl,Nat.mul_one] at hv745_0
        replace hv745_0:=Option.some.inj (hv745_0.symm.trans hx745_0)
        injection hv745_0 with hva_ hvn_ hvc_
        rw [hva_] at ge745_0
        rw [hvc_] at ul745_0
        have HL745_0:=zm (show Kd.V (Kd.int .i64) 2 _ w.heap.size _ _ (rd_L1 t739 x11_2) from Kd.V_mk ul745_0 ge745_0)
        clear hva_ hvn_ hvc_ ge745_0 ul745_0;clear hcc745 hce745;have HR745_0:=zm hi745_0;have HC745_0:=zm hl745_0;clear hi745_0 hl745_0
        replace p745:=eq_true p745
        replace q745:=eq_true q745
        go_wp2
        go_meet
        case rel=>exact ⟨_,(true),yq,H',⟨yom2 HJ13 HK2⟩,⟨yr HO_737001⟩,⟨yr HO_737002⟩,⟨yr HO_744000⟩,⟨yk BK725⟩,⟨yk BK736⟩,⟨yk BK743⟩,⟨yhb⟩⟩
      case rest =>
       clear HC49
       try clear c48b0
       obtain ⟨kq,x95_48,rfl,HA,HJ48,HO_737001,HO_737002,HO_744000,BK725,BK736,BK743,HB⟩:=hcut
       obtain ⟨kj48,rfl⟩:=ysu kq (fun h=>by subst h;exact absurd HA.out (by simp [psalterylaw23_ToneNorms.j2]))
       have H:=HA.out;clear HA
       simp only [psalterylaw23_ToneNorms.j2] at H
       replace H:=yie H;obtain ⟨c69,H⟩:=H
       replace c69:=Bool.eq_false_iff.mpr c69
       subst c69
       have H' := zm H
       clear H
       go_wp2
       go_loopg [12] kj48 (fun kq v12 w' => ∃ (x12_4 : Int),v12=.int .i64 x12_4∧Aside0 (psalterylaw23_ToneNorms.l1 kq a1 x11_2 x12_4 t728 t729 t732 t739=some r)∧Aside0 (kq≤kj48)∧Aside0 (Kd.N (Kd.slice 3 (Kd.int .i64)) 55 w' w.heap.size (fun k_=>some k_≠((.slice Ao24 t732.length co24) : Value).ownBlock∧some k_≠((.slice Ao27 t739.length co27) : Value).ownBlock∧k_≠gb725∧k_≠gb736∧k_≠gb743) (.slice Ao23 t729.length co23) t729)∧Aside0 (Kd.N (Kd.slice 55 (Kd.slice 3 (Kd.int .i64))) 25 w' w.heap.size (fun k_=>some k_≠((.slice Ao23 t729.length co23) : Value).ownBlock∧some k_≠((.slice Ao27 t739.length co27) : Value).ownBlock∧k_≠gb725∧k_≠gb736∧k_≠gb743) (.slice Ao24 t732.length co24) t732)∧Aside0 (Kd.N (Kd.slice 2 (Kd.int .i64)) 53 w' w.heap.size (fun k_=>some k_≠((.slice Ao23 t729.length co23) : Value).ownBlock∧some k_≠((.slice Ao24 t732.length co24) : Value).ownBlock∧k_≠gb725∧k_≠gb736∧k_≠gb743) (.slice Ao27 t739.length co27) t739)∧Aside0 (w'.heap[gb725]? = some (.cells #[(.slice A2_0 l2_0.length c2_0)] 24 (0,0)))∧Aside0 (w'.heap[gb736]? = some (.cells #[.bool t728,(.slice Ao23 t729.length co23),(.slice Ao24 t732.length co24)] 31 (0,0)))∧Aside0 (w'.heap[gb743]? = some (.cells #[(.slice Ao27 t739.length co27)] 24 (0,0)))∧Aside0 (Below w.heap.size w w'))
       case atStart=>exact ⟨(0),yq,H',⟨Nat.le_refl _⟩,⟨yr HO_737001⟩,⟨yr HO_737002⟩,⟨yr HO_744000⟩,⟨yk BK725⟩,⟨yk BK736⟩,⟨yk BK743⟩,⟨yhb⟩⟩
       case round =>
        clear H'
        obtain ⟨x12_4,rfl,HA,HK4,HO_737001,HO_737002,HO_744000,BK725,BK736,BK743,HB⟩:=hrel
        obtain ⟨k4,rfl⟩:=ysu gk (fun h=>by subst h;exact absurd HA.out (by simp [psalterylaw23_ToneNorms.l1]))
        have H:=HA.out;clear HA
        simp only [psalterylaw23_ToneNorms.l1] at H
        by_cases c70 : x12_4 < 5
        ·
         rw [if_pos c70] at H
         have c70b0 : decide (x12_4 < 5)=true:=decide_eq_true c70
         clear c70
         replace H:=yif H;obtain ⟨c71,H⟩:=H
         have c71b0 : decide (0≤x11_2)=true:=decide_eq_true c71
         clear c71
         replace H:=yif H;obtain ⟨c72,H⟩:=H
         have c72b0 : decide (x11_2 < (t739.length : Int))=true:=decide_eq_true c72
         clear c72
         replace H:=ybi H;obtain ⟨t749,A73,H⟩:=H
         have HC74:=zm H;clear H
         have:=NB743_725.out
         have:=NB725_743.out
         have:=NB743_736.out
         have:=NB736_743.out
         obtain ⟨hcz77_0,hfz77_0⟩:=yc1 BK743
         have p748 : 0≤(x11_2 : Int):=yt
         have q748 : x11_2 < (t739.length : Int):=yt
         obtain ⟨ad748,A748_0,c748_0,e748,hx748_0,hl748_0,hi748_0⟩:=at_L1 (Kd.N_reads' HO_744000.out).2.2 x11_2 p748 q748
         cases e748
         obtain ⟨ce748,hce748,hMe748,hcc748⟩:=Kd.N_get HO_744000.out [] x11_2 p748 (by first|exact q748|exact yt|(have e_:=(Kd.N_reads' HO_744000.out).1;omega))
         obtain ⟨ua748_0,uc748_0,rfl,ul748_0,ge748_0⟩:=Kd.FK_slice_open hMe748
         have hv748_0:=hcc748 0 _ rfl
         rw [Nat.add_zero,show ((Kd.slice 2 (Kd.int .i64))).sz=1 from rfl,Nat.mul_one] at hv748_0
         replace hv748_0:=Option.some.inj (hv748_0.symm.trans hx748_0)
         injection hv748_0 with hva_ hvn_ hvc_
         rw [hva_] at ge748_0
         rw [hvc_] at ul748_0
         have HL748_0:=zm (show Kd.V (Kd.int .i64) 2 _ w.heap.size _ _ (rd_L1 t739 x11_2) from Kd.V_mk ul748_0 ge748_0)
         clear hva_ hvn_ hvc_ ge748_0 ul748_0;clear hcc748 hce748;have HR748_0:=zm hi748_0;have HC748_0:=zm hl748_0;clear hi748_0 hl748_0
         replace p748:=eq_true p748
         replace q748:=eq_true q748
         go_upto_region 18 with (first|((with_reducible refine gate_callee (f:=28) rfl ?_);refine ygl 106 Try.func28 #[.slice A748_0 (rd_L1 t739 x11_2).length c748_0, .int .i64 x12_4] ?_;(with_reducible refine (psalteryref10_Band.calls k4 _ _ (rd_L1 t739 x11_2) x12_4 t749 _ ?side1 HC748_0.out A73.out).mono ?_);(case side1=>exact yce (yrc HR748_0));rintro e w78 ⟨v750,rfl,ho0,hb⟩;refine ⟨_,rfl, ?_⟩;replace HO_737001:=zm (Kd.N_elder' (yr HO_737001) (Kd.R_base ho0) hb);replace HO_737002:=zm (Kd.N_elder' (yr HO_737002) (Kd.R_base ho0) hb);replace HO_744000:=zm (Kd.N_elder' (yr HO_744000) (Kd.R_base ho0) hb);replace HL748_0:=zm (Kd.V_elder' (yr HL748_0) (Kd.R_base ho0) hb);have HO751:=zm (Kd.R_lower ho0 (zE yhb));replace BK725:=ybb BK725 hb;replace BK736:=ybb BK736 hb;replace BK743:=ybb BK743 hb;replace HR748_0:=yCb HR748_0 hb;replace HB:=ybs hb;(try clear hb);(try clear ho0)))
         (try simp only [Act.put,List.setIfInBounds_toArray,List.set_cons_zero,List.set_cons_succ])
         go_cut [120] (fun v120 wc => ∃ (kq : Nat) (x120_73 : Bool),v120=.bool x120_73∧Aside0 (psalterylaw23_ToneNorms.j4 kq a1 x11_2 x12_4 t749 x120_73 t728 t729 t732 t739=some r)∧Aside0 (kq≤k4)∧Aside0 (Kd.R (Kd.int .i64) 2 wc w.heap.size (fun _=>True) v750 t749)∧Aside0 (Kd.N (Kd.slice 3 (Kd.int .i64)) 55 wc w.heap.size (fun k_=>some k_≠(v750 : Value).ownBlock∧some k_≠((.slice Ao24 t732.length co24) : Value).ownBlock∧some k_≠((.slice (some ad748) t739.length co27) : Value).ownBlock∧k_≠gb725∧k_≠gb736∧k_≠gb743) (.slice Ao23 t729.length co23) t729)∧Aside0 (Kd.N (Kd.slice 55 (Kd.slice 3 (Kd.int .i64))) 25 wc w.heap.size (fun k_=>some k_≠(v750 : Value).ownBlock∧some k_≠((.slice Ao23 t729.length co23) : Value).ownBlock∧some k_≠((.slice (some ad748) t739.length co27) : Value).ownBlock∧k_≠gb725∧k_≠gb736∧k_≠gb743) (.slice Ao24 t732.length co24) t732)∧Aside0 (Kd.N (Kd.slice 2 (Kd.int .i64)) 53 wc w.heap.size (fun k_=>some k_≠(v750 : Value).ownBlock∧some k_≠((.slice Ao23 t729.length co23) : Value).ownBlock∧some k_≠((.slice Ao24 t732.length co24) : Value).ownBlock∧k_≠gb725∧k_≠gb736∧k_≠gb743) (.slice (some ad748) t739.length co27) t739)∧Aside0 (wc.heap[gb725]? = some (.cells #[(.slice A2_0 l2_0.length c2_0)] 24 (0,0)))∧Aside0 (wc.heap[gb736]? = some (.cells #[.bool t728,(.slice Ao23 t729.length co23),(.slice Ao24 t732.length co24)] 31 (0,0)))∧Aside0 (wc.heap[gb743]? = some (.cells #[(.slice (some ad748) t739.length co27)] 24 (0,0)))∧Aside0 (Kd.C (Kd.int .i64) wc A748_0 (rd_L1 t739 x11_2).length (rd_L1 t739 x11_2))∧Aside0 (Below w.heap.size w wc))
         case first =>
          have H:=HC74.out;clear HC74
          replace H:=yif H;obtain ⟨c79,H⟩:=H
          have c79b0 : decide (x11_2 < (t732.length : Int))=true:=decide_eq_true c79
          clear c79
          (first|rw [c79b0]|(simp only [i64_w,i32_w];rw [c79b0])|skip)
          replace H:=yif H;obtain ⟨c80,H⟩:=H
          have c80b0 : decide (0≤x12_4)=true:=decide_eq_true c80
          clear c80
          replace H:=yif H;obtain ⟨c81,H⟩:=H
          have c81b0 : decide (x12_4 < ((rd_L4 t732 x11_2).length : Int))=true:=decide_eq_true c81
          clear c81
          replace H:=ybi H;obtain ⟨t754,A82,H⟩:=H
          by_cases c83 : t754=0
          ·
           rw [if_pos c83] at H
           have c83b0 : (t754 == 0)=true:=beq_iff_eq.mpr c83
           have c83b1 : (t754 != 0)=false:=bne_eq_false_iff_eq.mpr c83
           clear c83
           have H' := zm H
           clear H
           have:=NB736_725.out
           have:=NB725_736.out
           have:=NB736_743.out
           have:=NB743_736.out
           obtain ⟨_,_,_,_,_,_⟩:=yc3 BK736
           have p752 : 0≤(x11_2 : Int):=yt
           have q752 : x11_2 < (t732.length : Int):=yt
           obtain ⟨ad752,A752_0,c752_0,e752,hx752_0,hl752_0,hi752_0⟩:=at_L4 (Kd.N_reads' HO_737002.out).2.2 x11_2 p752 q752
           cases e752
           obtain ⟨ce752,hce752,hMe752,hcc752⟩:=Kd.N_get HO_737002.out [] x11_2 p752 (by first|exact q752|exact yt|(have e_:=(Kd.N_reads' HO_737002.out).1;omega))
           obtain ⟨ua752_0,uc752_0,rfl,ul752_0,ge752_0⟩:=Kd.FK_slice_open hMe752
           have hv752_0:=hcc752 0 _ rfl
           rw [Nat.add_zero,show ((Kd.slice 55 (Kd.slice 3 (Kd.int .i64)))).sz=1 from rfl,Nat.mul_one] at hv752_0
           replace hv752_0:=Option.some.inj (hv752_0.symm.trans hx752_0)
           injection hv752_0 with hva_ hvn_ hvc_
           rw [hva_] at ge752_0
           rw [hvc_] at ul752_0
           have HL752_0:=zm (show Kd.V (Kd.slice 3 (Kd.int .i64)) 55 _ w.heap.size _ _ (rd_L4 t732 x11_2) from Kd.V_mk ul752_0 ge752_0)
           clear hva_ hvn_ hvc_ ge752_0 ul752_0;clear hcc752 hce752;have HR752_0:=zm hi752_0;have HC752_0:=zm hl752_0;clear hi752_0 hl752_0
           replace p752:=eq_true p752
           replace q752:=eq_true q752
           have p753 : 0≤(x12_4 : Int):=yt
           have q753 : x12_4 < ((rd_L4 t732 x11_2).length : Int):=yt
           obtain ⟨ad753,A753_0,c753_0,e753,hx753_0,hl753_0,hi753_0⟩:=at_L2 (yrc HR752_0) x12_4 p753 q753
           cases e753
           obtain ⟨ce753,hce753,hMe753,hcc753⟩:=Kd.V_get HL752_0.out [] x12_4 p753 (by first|exact q753|exact yt|(have e_:=(Kd.V_reads' HL752_0.out).1;omega))
           obtain ⟨ua753_0,uc753_0,rfl,ul753_0,ge753_0⟩:=Kd.FK_slice_open hMe753
           have hv753_0:=hcc753 0 _ rfl
           rw [Nat.add_zero,show ((Kd.slice 3 (Kd.int .i64))).sz=1 from rfl,Nat.mul_one] at hv753_0
           replace hv753_0:=Option.some.inj (hv753_0.symm.trans hx753_0)
           injection hv753_0 with hva_ hvn_ hvc_
           rw [hva_] at ge753_0
           rw [hvc_] at ul753_0
           have HL753_0:=zm (show Kd.V (Kd.int .i64) 3 _ w.heap.size _ _ (rd_L2 (rd_L4 t732 x11_2) x12_4) from Kd.V_mk ul753_0 ge753_0)
           clear hva_ hvn_ hvc_ ge753_0 ul753_0;clear hcc753 hce753;have HR753_0:=zm hi753_0;have HC753_0:=zm hl753_0;clear hi753_0 hl753_0
           replace p753:=eq_true p753
           replace q753:=eq_true q753
           go_wp2_with (first|((with_reducible refine gate_callee (f:=27) rfl ?_);refine ygl 115 Try.func27 #[.slice A753_0 (rd_L2 (rd_L4 t732 x11_2) x12_4).length c753_0] ?_;(with_reducible refine (psalteryref06_Pulses.calls k4 _ _ (rd_L2 (rd_L4 t732 x11_2) x12_4) t754 _ ?side1 HC753_0.out A82.out).mono ?_);(case side1=>exact yce (yrc HR753_0));rintro e w' ⟨rfl,⟨nd,rfl⟩⟩;refine ⟨_,rfl, ?_⟩))
           go_meet
           case rel=>exact ⟨_,(true),yq,H',⟨yom4 HJ13 HK2 HJ48 HK4⟩,⟨yr HO751⟩,⟨yN0 HO_737001⟩,⟨yN0 HO_737002⟩,⟨yN0 HO_744000⟩,⟨yk BK725⟩,⟨yk BK736⟩,⟨yk BK743⟩,⟨by repeat (first|(with_reducible exact HR748_0.out)|(with_reducible refine Kd.C_alloc ?_ _)|(with_reducible refine Kd.C_drewN ?_ _)|(with_reducible refine Kd.C_drew ?_)|exact HR748_0.out)⟩,⟨yhb⟩⟩
          ·
           rw [if_neg c83] at H
           have c83b0 : (t754 == 0)=false:=beq_eq_false_iff_ne.mpr c83
           have c83b1 : (t754 != 0)=true:=bne_iff_ne.mpr c83
           replace H:=ybi H;obtain ⟨t755,A87,H⟩:=H
           have H' := zm H
           clear H
           have:=NB736_725.out
           have:=NB725_736.out
           have:=NB736_743.out
           have:=NB743_736.out
           obtain ⟨_,_,_,_,_,_⟩:=yc3 BK736
           have p752 : 0≤(x11_2 : Int):=yt
           have q752 : x11_2 < (t732.length : Int):=yt
           obtain ⟨ad752,A752_0,c752_0,e752,hx752_0,hl752_0,hi752_0⟩:=at_L4 (Kd.N_reads' HO_737002.out).2.2 x11_2 p752 q752
           cases e752
           obtain ⟨ce752,hce752,hMe752,hcc752⟩:=Kd.N_get HO_737002.out [] x11_2 p752 (by first|exact q752|exact yt|(have e_:=(Kd.N_reads' HO_737002.out).1;omega))
           obtain ⟨ua752_0,uc752_0,rfl,ul752_0,ge752_0⟩:=Kd.FK_slice_open hMe752
           have hv752_0:=hcc752 0 _ rfl
           rw [Nat.add_zero,show ((Kd.slice 55 (Kd.slice 3 (Kd.int .i64)))).sz=1 from rfl,Nat.mul_one] at hv752_0
           replace hv752_0:=Option.some.inj (hv752_0.symm.trans hx752_0)
           injection hv752_0 with hva_ hvn_ hvc_
           rw [hva_] at ge752_0
           rw [hvc_] at ul752_0
           have HL752_0:=zm (show Kd.V (Kd.slice 3 (Kd.int .i64)) 55 _ w.heap.size _ _ (rd_L4 t732 x11_2) from Kd.V_mk ul752_0 ge752_0)
           clear hva_ hvn_ hvc_ ge752_0 ul752_0;clear hcc752 hce752;have HR752_0:=zm hi752_0;have HC752_0:=zm hl752_0;clear hi752_0 hl752_0
           replace p752:=eq_true p752
           replace q752:=eq_true q752
           have p753 : 0≤(x12_4 : Int):=yt
           have q753 : x12_4 < ((rd_L4 t732 x11_2).length : Int):=yt
           obtain ⟨ad753,A753_0,c753_0,e753,hx753_0,hl753_0,hi753_0⟩:=at_L2 (yrc HR752_0) x12_4 p753 q753
           cases e753
           obtain ⟨ce753,hce753,hMe753,hcc753⟩:=Kd.V_get HL752_0.out [] x12_4 p753 (by first|exact q753|exact yt|(have e_:=(Kd.V_reads' HL752_0.out).1;omega))
           obtain ⟨ua753_0,uc753_0,rfl,ul753_0,ge753_0⟩:=Kd.FK_slice_open hMe753
           have hv753_0:=hcc753 0 _ rfl
           rw [Nat.add_zero,show ((Kd.slice 3 (Kd.int .i64))).sz=1 from rfl,Nat.mul_one] at hv753_0
           replace hv753_0:=Option.some.inj (hv753_0.symm.trans hx753_0)
           injection hv753_0 with hva_ hvn_ hvc_
           rw [hva_] at ge753_0
           rw [hvc_] at ul753_0
           have HL753_0:=zm (show Kd.V (Kd.int .i64) 3 _ w.heap.size _ _ (rd_L2 (rd_L4 t732 x11_2) x12_4) from Kd.V_mk ul753_0 ge753_0)
           clear hva_ hvn_ hvc_ ge753_0 ul753_0;clear hcc753 hce753;have HR753_0:=zm hi753_0;have HC753_0:=zm hl753_0;clear hi753_0 hl753_0
           replace p753:=eq_true p753
           replace q753:=eq_true q753
           go_wp2_with (first|((with_reducible refine gate_callee (f:=27) rfl ?_);refine ygl 115 Try.func27 #[.slice A753_0 (rd_L2 (rd_L4 t732 x11_2) x12_4).length c753_0] ?_;(with_reducible refine (psalteryref06_Pulses.calls k4 _ _ (rd_L2 (rd_L4 t732 x11_2) x12_4) t754 _ ?side1 HC753_0.out A82.out).mono ?_);(case side1=>exact yce (yrc HR753_0));rintro e w' ⟨rfl,⟨nd,rfl⟩⟩;refine ⟨_,rfl, ?_⟩;obtain ⟨Ao91,co91,eo91⟩:=Kd.R_slice HO751.out;subst eo91)|(go_at_call 29;(with_reducible refine (psalterylaw23_cut.calls k4 _ _ t749 t755 _ ?side1 ?side2 A87.out).mono ?_);(case side1=>exact yce (Kd.R_reads' HO751.out).2.2);(case side2=>exact (Kd.R_reads' HO751.out).2.1);rintro e w' ⟨rfl,⟨nd,rfl⟩⟩))
           go_meet
           case rel=>exact ⟨_,(t755),yq,H',⟨yom4 HJ13 HK2 HJ48 HK4⟩,⟨yr HO751⟩,⟨yN0 HO_737001⟩,⟨yN0 HO_737002⟩,⟨yN0 HO_744000⟩,⟨yk BK725⟩,⟨yk BK736⟩,⟨yk BK743⟩,⟨by repeat (first|(with_reducible exact HR748_0.out)|(with_reducible refine Kd.C_alloc ?_ _)|(with_reducible refine Kd.C_drewN ?_ _)|(with_reducible refine Kd.C_drew ?_)|exact HR748_0.out)⟩,⟨yhb⟩⟩
         case rest =>
          clear HC74
          try clear c70b0
          try clear c71b0
          try clear c72b0
          try clear hcz77_0
          try clear hfz77_0
          try clear hx748_0
          try clear p748
          try clear q748
          obtain ⟨kq,x120_73,rfl,HA,HJ73,HO_13,HO_737001,HO_737002,HO_744000,BK725,BK736,BK743,HR748_0,HB⟩:=hcut
          obtain ⟨kj73,rfl⟩:=ysu kq (fun h=>by subst h;exact absurd HA.out (by simp [psalterylaw23_ToneNorms.j4]))
          have H:=HA.out;clear HA
          simp only [psalterylaw23_ToneNorms.j4] at H
          by_cases c92 : x120_73=true
          ·
           subst c92
           rw [if_pos rfl] at H
           have H' := zm H
           clear H
           go_wp2
           go_roundg kj73
           case measure=>exact yom5 HJ13 HK2 HJ48 HK4 HJ73
           case rel=>exact ⟨(wrap64 (x12_4+1)),yq,H',⟨yom5 HJ13 HK2 HJ48 HK4 HJ73⟩,⟨yN0 HO_737001⟩,⟨yN0 HO_737002⟩,⟨yN0 HO_744000⟩,⟨yk BK725⟩,⟨yk BK736⟩,⟨yk BK743⟩,⟨yhb⟩⟩
          ·
           replace c92:=Bool.eq_false_iff.mpr c92
           subst c92
           rw [ynf] at H
           replace H:=yif H;obtain ⟨c93,H⟩:=H
           have c93b0 : decide (0≤x11_2)=true:=decide_eq_true c93
           clear c93
           replace H:=yif H;obtain ⟨c94,H⟩:=H
           have c94b0 : decide (x11_2 < (t729.length : Int))=true:=decide_eq_true c94
           clear c94
           replace H:=yif H;obtain ⟨c95,H⟩:=H
           have c95b0 : decide (0≤x12_4)=true:=decide_eq_true c95
           clear c95
           replace H:=yif H;obtain ⟨c96,H⟩:=H
           have c96b0 : decide (x12_4 < ((rd_L2 t729 x11_2).length : Int))=true:=decide_eq_true c96
           clear c96
           replace H:=ybi H;obtain ⟨t758,A97,H⟩:=H
           replace H:=ybi H;obtain ⟨t759,A98,H⟩:=H
           replace H:=ybi H;obtain ⟨t760,A99,H⟩:=H
           by_cases c100 : (wrap64 ((wrap64 (t760)) - t758)) < 0
           ·
            rw [if_pos c100] at H
            have c100b0 : decide ((wrap64 ((wrap64 (t760)) - t758)) < 0)=true:=decide_eq_true c100
            clear c100
            replace H:=yie H;obtain ⟨c101,H⟩:=H
            have c101b0 : decide ((wrap64 ((wrap64 (Int.tdiv t758 255))+3)) < (wrap64 (-(wrap64 ((wrap64 (t760)) - t758)))))=false:=decide_eq_false c101
            clear c101
            have H' := zm H
            clear H
            have:=NB736_725.out
            have:=NB725_736.out
            have:=NB736_743.out
            have:=NB743_736.out
            obtain ⟨_,_,_,_,_,_⟩:=yc3 BK736
            have p756 : 0≤(x11_2 : Int):=yt
            have q756 : x11_2 < (t729.length : Int):=yt
            obtain ⟨ad756,A756_0,c756_0,e756,hx756_0,hl756_0,hi756_0⟩:=at_L2 (Kd.N_reads' HO_737001.out).2.2 x11_2 p756 q756
            cases e756
            obtain ⟨ce756,hce756,hMe756,hcc756⟩:=Kd.N_get HO_737001.out [] x11_2 p756 (by first|exact q756|exact yt|(have e_:=(Kd.N_reads' HO_737001.out).1;omega))
            obtain ⟨ua756_0,uc756_0,rfl,ul756_0,ge756_0⟩:=Kd.FK_slice_open hMe756
            have hv756_0:=hcc756 0 _ rfl
            rw [Nat.add_zero,show ((Kd.slice 3 (Kd.int .i64))).sz=1 from rfl,Nat.mul_one] at hv756_0
            replace hv756_0:=Option.some.inj (hv756_0.symm.trans hx756_0)
            injection hv756_0 with hva_ hvn_ hvc_
            rw [hva_] at ge756_0
            rw [hvc_] at ul756_0
            have HL756_0:=zm (show Kd.V (Kd.int .i64) 3 _ w.heap.size _ _ (rd_L2 t729 x11_2) from Kd.V_mk ul756_0 ge756_0)
            clear hva_ hvn_ hvc_ ge756_0 ul756_0;clear hcc756 hce756;have HR756_0:=zm hi756_0;have HC756_0:=zm hl756_0;clear hi756_0 hl756_0
            replace p756:=eq_true p756
            replace q756:=eq_true q756
            obtain ⟨ad757,e757,hx757_0,p757,q757⟩:=yai HR756_0 x12_4
            cases e757
            go_wp2_with (first|((with_reducible refine gate_callee (f:=30) rfl ?_);refine ygl 129 Try.func30 #[.int .i64 (rd (rd_L2 t729 x11_2) x12_4)] ?_;(with_reducible refine (psalteryref10_Value.calls kj73 (rd (rd_L2 t729 x11_2) x12_4) t758 _ A97.out).mono ?_);rintro e w' ⟨rfl,⟨nd,rfl⟩⟩;refine ⟨_,rfl, ?_⟩;obtain ⟨Ao105,co105,eo105⟩:=Kd.R_slice HO_13.out;subst eo105)|((with_reducible refine gate_callee (f:=32) rfl ?_);refine ygl 131 Try.func32 #[.slice Ao105 t749.length co105] ?_;(with_reducible refine (psalteryref07_Square.calls kj73 _ _ t749 t759 _ ?side1 ?side2 A98.out).mono ?_);(case side1=>exact yce (Kd.R_reads' HO_13.out).2.2);(case side2=>exact (Kd.R_reads' HO_13.out).2.1);rintro e w' ⟨rfl,⟨nd,rfl⟩⟩;refine ⟨_,rfl, ?_⟩)|((with_reducible refine gate_callee (f:=31) rfl ?_);refine ygl 132 Try.func31 #[.int .u64 t759] ?_;(with_reducible refine (psalteryref03_Sqrt.calls kj73 t759 t760 _ A99.out).mono ?_);rintro e w' ⟨rfl,⟨nd,rfl⟩⟩;refine ⟨_,rfl, ?_⟩))
            go_roundg kj73
            case measure=>exact yom5 HJ13 HK2 HJ48 HK4 HJ73
            case rel=>exact ⟨(wrap64 (x12_4+1)),yq,H',⟨yom5 HJ13 HK2 HJ48 HK4 HJ73⟩,⟨yN0 HO_737001⟩,⟨yN0 HO_737002⟩,⟨yN0 HO_744000⟩,⟨yk BK725⟩,⟨yk BK736⟩,⟨yk BK743⟩,⟨yhb⟩⟩
           ·
            rw [if_neg c100] at H
            have c100b0 : decide ((wrap64 ((wrap64 (t760)) - t758)) < 0)=false:=decide_eq_false c100
            clear c100
            replace H:=yie H;obtain ⟨c106,H⟩:=H
            have c106b0 : decide ((wrap64 ((wrap64 (Int.tdiv t758 255))+3)) < (wrap64 ((wrap64 (t760)) - t758)))=false:=decide_eq_false c106
            clear c106
            have H' := zm H
            clear H
            have:=NB736_725.out
            have:=NB725_736.out
            have:=NB736_743.out
            have:=NB743_736.out
            obtain ⟨_,_,_,_,_,_⟩:=yc3 BK736
            have p756 : 0≤(x11_2 : Int):=yt
            have q756 : x11_2 < (t729.length : Int):=yt
            obtain ⟨ad756,A756_0,c756_0,e756,hx756_0,hl756_0,hi756_0⟩:=at_L2 (Kd.N_reads' HO_737001.out).2.2 x11_2 p756 q756
            cases e756
            obtain ⟨ce756,hce756,hMe756,hcc756⟩:=Kd.N_get HO_737001.out [] x11_2 p756 (by first|exact q756|exact yt|(have e_:=(Kd.N_reads' HO_737001.out).1;omega))
            obtain ⟨ua756_0,uc756_0,rfl,ul756_0,ge756_0⟩:=Kd.FK_slice_open hMe756
            have hv756_0:=hcc756 0 _ rfl
            rw [Nat.add_zero,show ((Kd.slice 3 (Kd.int .i64))).sz=1 from rfl,Nat.mul_one] at hv756_0
            replace hv756_0:=Option.some.inj (hv756_0.symm.trans hx756_0)
            injection hv756_0 with hva_ hvn_ hvc_
            rw [hva_] at ge756_0
            rw [hvc_] at ul756_0
            have HL756_0:=zm (show Kd.V (Kd.int .i64) 3 _ w.heap.size _ _ (rd_L2 t729 x11_2) from Kd.V_mk ul756_0 ge756_0)
            clear hva_ hvn_ hvc_ ge756_0 ul756_0;clear hcc756 hce756;have HR756_0:=zm hi756_0;have HC756_0:=zm hl756_0;clear hi756_0 hl756_0
            replace p756:=eq_true p756
            replace q756:=eq_true q756
            obtain ⟨ad757,e757,hx757_0,p757,q757⟩:=yai HR756_0 x12_4
            cases e757
            go_wp2_with (first|((with_reducible refine gate_callee (f:=30) rfl ?_);refine ygl 129 Try.func30 #[.int .i64 (rd (rd_L2 t729 x11_2) x12_4)] ?_;(with_reducible refine (psalteryref10_Value.calls kj73 (rd (rd_L2 t729 x11_2) x12_4) t758 _ A97.out).mono ?_);rintro e w' ⟨rfl,⟨nd,rfl⟩⟩;refine ⟨_,rfl, ?_⟩;obtain ⟨Ao110,co110,eo110⟩:=Kd.R_slice HO_13.out;subst eo110)|((with_reducible refine gate_callee (f:=32) rfl ?_);refine ygl 131 Try.func32 #[.slice Ao110 t749.length co110] ?_;(with_reducible refine (psalteryref07_Square.calls kj73 _ _ t749 t759 _ ?side1 ?side2 A98.out).mono ?_);(case side1=>exact yce (Kd.R_reads' HO_13.out).2.2);(case side2=>exact (Kd.R_reads' HO_13.out).2.1);rintro e w' ⟨rfl,⟨nd,rfl⟩⟩;refine ⟨_,rfl, ?_⟩)|((with_reducible refine gate_callee (f:=31) rfl ?_);refine ygl 132 Try.func31 #[.int .u64 t759] ?_;(with_reducible refine (psalteryref03_Sqrt.calls kj73 t759 t760 _ A99.out).mono ?_);rintro e w' ⟨rfl,⟨nd,rfl⟩⟩;refine ⟨_,rfl, ?_⟩))
            go_roundg kj73
            case measure=>exact yom5 HJ13 HK2 HJ48 HK4 HJ73
            case rel=>exact ⟨(wrap64 (x12_4+1)),yq,H',⟨yom5 HJ13 HK2 HJ48 HK4 HJ73⟩,⟨yN0 HO_737001⟩,⟨yN0 HO_737002⟩,⟨yN0 HO_744000⟩,⟨yk BK725⟩,⟨yk BK736⟩,⟨yk BK743⟩,⟨yhb⟩⟩
        ·
         rw [if_neg c70] at H
         have c70b0 : decide (x12_4 < 5)=false:=decide_eq_false c70
         clear c70
         have H' := zm H
         clear H
         go_wp2
         go_roundg k4
         case measure=>exact yom4 HJ13 HK2 HJ48 HK4
         case rel=>exact ⟨(wrap64 (x11_2+1)),yq,H',⟨yom4 HJ13 HK2 HJ48 HK4⟩,⟨yr HO_737001⟩,⟨yr HO_737002⟩,⟨yr HO_744000⟩,⟨yk BK725⟩,⟨yk BK736⟩,⟨yk BK743⟩,⟨yhb⟩⟩
     ·
      rw [if_neg c48] at H
      have c48b0 : decide (x11_2 < a1)=false:=decide_eq_false c48
      clear c48
      replace H:=ybi H;obtain ⟨t744,A111,H⟩:=H
      obtain rfl:=Option.some.inj H
      go_wp2_with (first|((with_reducible refine gate_callee (f:=12) rfl ?_);refine ygl 145 Try.func12 #[] ?_;(with_reducible refine (psalterylaw23_knows.calls k2  t744 _ A111.out).mono ?_);rintro e w112 ⟨rfl,hb⟩;refine ⟨_,rfl, ?_⟩;replace HO_737001:=yNb HO_737001 hb;replace HO_737002:=yNb HO_737002 hb;replace HO_744000:=yNb HO_744000 hb;replace BK725:=ybb BK725 hb;replace BK736:=ybb BK736 hb;replace BK743:=ybb BK743 hb;replace HB:=ybs hb;(try clear hb)))
      go_ret
      exact ⟨ye,yhb⟩
  ·
   rw [if_neg c12] at H
   have c12b0 : (t735 == 0)=false:=beq_eq_false_iff_ne.mpr c12
   have c12b1 : (t735 != 0)=true:=bne_iff_ne.mpr c12
   replace H:=ybi H;obtain ⟨t737,A113,H⟩:=H
   replace H:=yie H;obtain ⟨c114,H⟩:=H
   replace c114:=Bool.eq_false_iff.mpr c114
   subst c114
   replace H:=ybi H;obtain ⟨t738,A115,H⟩:=H
   obtain rfl:=Option.some.inj H
   go_enter Try.func7,Try.ntmps7
   go_wp2_with (first|((with_reducible refine gate_dst (N:=5) rfl ?_);(try (refine gate_guard (by rfl) ?_;dsimp only));refine ybx 5 #[.slice A2_0 l2_0.length c2_0] 24 ?_;intro gb725 hg w116 hbox hb;have BK725:=zm (hbox);have GW725:=ygw hg;have GE725:=ygw hg;replace HB:=ybs hb;clear hb hbox hg;obtain ⟨_,_⟩:=yc1 BK725)|((with_reducible refine gate_callee (f:=10) rfl ?_);refine ygl 17 Try.func10 #[.agg #[.slice A2_0 l2_0.length c2_0]] ?_;(with_reducible refine (psalterylaw23_great.calls k _ _ l2_0 false _ ?side1 HC2_0.out A4.out).mono ?_);(case side1=>exact ycb HR2_0);rintro e w118 ⟨rfl,hb⟩;refine ⟨_,rfl, ?_⟩;replace BK725:=ybb BK725 hb;replace HB:=ybs hb;(try clear hb);obtain ⟨_,_⟩:=yc1 BK725)|((with_reducible refine gate_callee (f:=13) rfl ?_);refine ygl 23 Try.func13 #[.int .i64 a0, .int .i64 a1, .agg #[.slice A2_0 l2_0.length c2_0], .bool true] ?_;(with_reducible refine (ccodec_Encode.calls k a0 a1 _ _ l2_0 true t728 t729 t732 t735 _ ?side1 HC2_0.out A11.out).mono ?_);(case side1=>exact ycb HR2_0);rintro e w120 ⟨v730,v733,rfl,ho0,ho1,hb⟩;refine ⟨_,rfl, ?_⟩;have HO731:=zm (Kd.N_lower (Kd.N_mono (ok' := fun k_=>some k_≠(v733 : Value).ownBlock∧k_≠gb725) ho0 (fun k_ hk_=>⟨hk_.2,(Kd.freshB (yk BK725) k_ hk_.1)⟩)) (zE yhb));have HO734:=zm (Kd.N_lower (Kd.N_mono (ok' := fun k_=>some k_≠(v730 : Value).ownBlock∧k_≠gb725) ho1 (fun k_ hk_=>⟨hk_.2,(Kd.freshB (yk BK725) k_ hk_.1)⟩)) (zE yhb));replace BK725:=ybb BK725 hb;replace HB:=ybs hb;(try clear hb);(try clear ho0);(try clear ho1))|((with_reducible refine gate_dst (N:=7) rfl ?_);(try (refine gate_guard (by rfl) ?_;dsimp only));refine ybx 7 #[.bool false, .slice none 0 0, .slice none 0 0] 31 ?_;intro gb736 hg w121 hbox hb;replace HO731:=zm (Kd.N_below (Kd.N_elderB (yr HO731) gb736 (Nat.le_of_eq hg.symm)) hb);replace HO734:=zm (Kd.N_below (Kd.N_elderB (yr HO734) gb736 (Nat.le_of_eq hg.symm)) hb);have BK736:=zm (hbox);have GW736:=ygw hg;have GE736:=ygw hg;replace HB:=ybs hb;have NB725_736:=ynl BK725 hg;have NB736_725:=yng BK725 hg;replace BK725:=ybb BK725 hb;clear hb hbox hg;have:=NB736_725.out;have:=NB725_736.out;obtain ⟨_,_,_,_,_,_⟩:=yc3 BK736;obtain ⟨Ao124,co124,eo124⟩:=Kd.N_slice HO731.out;subst eo124;obtain ⟨Ao125,co125,eo125⟩:=Kd.N_slice HO734.out;subst eo125;obtain ⟨_,_⟩:=yc1 BK725)|((with_reducible refine gate_callee (f:=14) rfl ?_);refine ygl 31 Try.func14 #[.int .i64 a0, .int .i64 a1, .agg #[.slice A2_0 l2_0.length c2_0]] ?_;(with_reducible refine (psalteryref23_Right.calls k a0 a1 _ _ l2_0 false _ ?side1 HC2_0.out A113.out).mono ?_);(case side1=>exact Kd.C_below HR2_0.out yhb);rintro e w127 ⟨rfl,hb⟩;refine ⟨_,rfl, ?_⟩;replace HO731:=zm (Kd.N_below (yN0 HO731) hb);replace HO734:=zm (Kd.N_below (yN0 HO734) hb);replace BK725:=ybb BK725 hb;replace BK736:=zm (zF (g:=gb736) (o:=.cells #[.bool t728, .slice Ao124 t729.length co124, .slice Ao125 t732.length co125] 31 (0,0)) (ykp BK736) hb);replace HB:=ybs hb;(try clear hb))|(go_at_call 12;(with_reducible refine (psalterylaw23_knows.calls k  t738 _ A115.out).mono ?_);rintro e w128 ⟨rfl,hb⟩;replace HO731:=yNb HO731 hb;replace HO734:=yNb HO734 hb;replace BK725:=ybb BK725 hb;replace BK736:=ybb BK736 hb;replace HB:=ybs hb;(try clear hb)))
   go_ret
   exact ⟨ye,yhb⟩
mutual
def psalteryref06_Row.l0 : Nat→Int→List Int→Int→Option (List Int)
 | 0,_,_,_=>none
 | k+1,x0,x3,x4=>if x4≤12 then (if x4=0 then (if x3.length < 17592186044416 then (psalteryref06_Row.l0 k x0 (x3 ++ [1]) (wrap64 (x4+1))) else (none)) else (if x3.length < 17592186044416 then (psalteryref06_Row.l0 k x0 (x3 ++ [0]) (wrap64 (x4+1))) else (none))) else (psalteryref06_Row.l1 k x0 x3 0)
def psalteryref06_Row.l1 : Nat→Int→List Int→Int→Option (List Int)
 | 0,_,_,_=>none
 | k+1,x0,x3,x5=>if x5 < x0 then (psalteryref06_Row.l2 k x0 x3 x5 ([] : List Int) 0) else (some x3)
def psalteryref06_Row.l2 : Nat→Int→List Int→Int→List Int→Int→Option (List Int)
 | 0,_,_,_,_,_=>none
 | k+1,x0,x3,x5,x6,x7=>if x7≤12 then (if 0≤x7 then (if x7 < (x3.length : Int) then (psalteryref06_Row.l3 k x0 x3 x5 x6 x7 (rd x3 x7) 1) else (none)) else (none)) else (psalteryref06_Row.l1 k x0 x6 (wrap64 (x5+1)))
def psalteryref06_Row.l3 : Nat→Int→List Int→Int→List Int→Int→Int→Int→Option (List Int)
 | 0,_,_,_,_,_,_,_=>none
 | k+1,x0,x3,x5,x6,x7,x8,x9=>if x9≤x7 then (if 0≤(wrap64 (x7 - x9)) then (if (wrap64 (x7 - x9)) < (x3.length : Int) then (psalteryref06_Row.l3 k x0 x3 x5 x6 x7 (IntKind.u64.wrap (x8+(IntKind.u64.wrap (2 * (rd x3 (wrap64 (x7 - x9))))))) (wrap64 (x9+1))) else (none)) else (none)) else (if x6.length < 17592186044416 then (psalteryref06_Row.l2 k x0 x3 x5 (x6 ++ [x8]) (wrap64 (x7+1))) else (none))
end
def psalteryref06_Row.f (k : Nat) (a0 : Int) : Option (List Int):=psalteryref06_Row.l0 k a0 ([] : List Int) 0
theorem psalteryref06_Row.mono_l : ∀ k,(∀ y0 y1 y2,LeO (psalteryref06_Row.l0 k y0 y1 y2) (psalteryref06_Row.l0 (k+1) y0 y1 y2))∧(∀ y0 y1 y2,LeO (psalteryref06_Row.l1 k y0 y1 y2) (psalteryref06_Row.l1 (k+1) y0 y1 y2))∧(∀ y0 y1 y2 y3 y4,LeO (psalteryref06_Row.l2 k y0 y1 y2 y3 y4) (psalteryref06_Row.l2 (k+1) y0 y1 y2 y3 y4))∧(∀ y0 y1 y2 y3 y4 y5 y6,LeO (psalteryref06_Row.l3 k y0 y1 y2 y3 y4 y5 y6) (psalteryref06_Row.l3 (k+1) y0 y1 y2 y3 y4 y5 y6))
 | 0=>⟨fun _ _ _ r h=>by simp [psalteryref06_Row.l0] at h,fun _ _ _ r h=>by simp [psalteryref06_Row.l1] at h,fun _ _ _ _ _ r h=>by simp [psalteryref06_Row.l2] at h,fun _ _ _ _ _ _ _ r h=>by simp [psalteryref06_Row.l3] at h⟩
 | k+1=>by
  obtain ⟨ih0,ih1,ih2,ih3⟩:=psalteryref06_Row.mono_l k
  refine ⟨?_, ?_, ?_, ?_⟩
  ·
   intro y0 y1 y2
   unfold psalteryref06_Row.l0
   repeat' with_reducible first|apply ih0|apply ih1|apply ih2|apply ih3|apply yLr|apply yLn|apply yLi|apply yLb|intro _
  ·
   intro y0 y1 y2
   unfold psalteryref06_Row.l1
   repeat' with_reducible first|apply ih0|apply ih1|apply ih2|apply ih3|apply yLr|apply yLn|apply yLi|apply yLb|intro _
  ·
   intro y0 y1 y2 y3 y4
   unfold psalteryref06_Row.l2
   repeat' with_reducible first|apply ih0|apply ih1|apply ih2|apply ih3|apply yLr|apply yLn|apply yLi|apply yLb|intro _
  ·
   intro y0 y1 y2 y3 y4 y5 y6
   unfold psalteryref06_Row.l3
   repeat' with_reducible first|apply ih0|apply ih1|apply ih2|apply ih3|apply yLr|apply yLn|apply yLi|apply yLb|intro _
theorem psalteryref06_Row.mono : ∀ a0 k,LeO (psalteryref06_Row.f k a0) (psalteryref06_Row.f (k+1) a0):=by
 intro a0 k
 obtain ⟨ih0,ih1,ih2,ih3⟩:=psalteryref06_Row.mono_l k
 unfold psalteryref06_Row.f
 repeat' with_reducible first|apply ih0|apply ih1|apply ih2|apply ih3|apply yLr|apply yLn|apply yLi|apply yLb|intro _
set_option maxHeartbeats 8000000 in
set_option maxRecDepth 100000 in
theorem psalteryref06_Row.calls (k : Nat) (a0 : Int) (r : List Int) (w : World) (h : psalteryref06_Row.f k a0=some r) :
  Calls Try.prog 128 #[.int .i64 a0] w fun e w' => ∃ v0_ : Value,e=.returned (v0_)∧Kd.R (Kd.int .u64) 59 w' w.heap.size (fun _=>True) v0_ r∧Below w.heap.size w w' := by
 have HB:=zm (Below.refl w.heap.size w)
 have H : (psalteryref06_Row.l0 k a0 ([] : List Int) 0)=some r:=h
 clear h
 have H' := zm H
 clear H
 go_enter Try.func128,Try.ntmps128
 go_wp2
 go_loopg [3,4] k (fun kq v3 v4 w' => ∃ (x3_1 : List Int) (x4_1 : Int),v4=.int .i64 x4_1∧Aside0 (psalteryref06_Row.l0 kq a0 x3_1 x4_1=some r)∧Aside0 (kq≤k)∧Aside0 (Kd.R (Kd.int .u64) 59 w' w.heap.size (fun _=>True) v3 x3_1)∧Aside0 (Below w.heap.size w w'))
 case atStart=>exact ⟨(([] : List Int)),(0),yq,H',⟨Nat.le_refl _⟩,⟨yn⟩,⟨yhb⟩⟩
 case round =>
  clear H'
  obtain ⟨x3_1,x4_1,rfl,HA,HK1,HO_3,HB⟩:=hrel
  obtain ⟨k1,rfl⟩:=ysu gk (fun h=>by subst h;exact absurd HA.out (by simp [psalteryref06_Row.l0]))
  have H:=HA.out;clear HA
  simp only [psalteryref06_Row.l0] at H
  by_cases c2 : x4_1≤12
  ·
   rw [if_pos c2] at H
   have c2b0 : decide (x4_1≤12)=true:=decide_eq_true c2
   clear c2
   by_cases c3 : x4_1=0
   ·
    rw [if_pos c3] at H
    have c3b0 : (x4_1 == 0)=true:=beq_iff_eq.mpr c3
    have c3b1 : (x4_1 != 0)=false:=bne_eq_false_iff_eq.mpr c3
    clear c3
    replace H:=yif H;obtain ⟨c4,H⟩:=H
    have LMc4:=zm c4;clear c4
    obtain ⟨y420,hy420⟩ : ∃ y_ : List Int,y_=(x3_1 ++ [1]):=⟨_,rfl⟩
    replace H : (psalteryref06_Row.l0 k1 a0 y420 (wrap64 (x4_1+1)))=some r:=yrw hy420 H
    have Ny420:=zm hy420;clear hy420
    have H' := zm H
    clear H
    go_wp2_with (first|((with_reducible refine gate_builtin (b:=.append) (xs := #[.tmp 16, .tmp 17]) rfl ?_);at_builtin;refine Kd.R_append (Kd.int .u64) (w0:=w) w.heap.size rfl (.tmp 16) (.tmp 17) 162 59 (.int .u64 0) 8 rfl Try.underlying162 info59 rfl (by decide) (by omega) u3 x3_1 1 [.int .u64 1] (fun _=>True) (fun _=>False) rfl rfl ?aP (fun _ hk=>hk.elim) ?aF ?aO ?aB ?aS ?aL ?_;(case aP=>exact rfl);(case aB=>exact yhb);(case aF=>exact (fun _ _=>trivial));(case aO=>exact (yr HO_3));(case aS=>exact (zE yhb));(case aL=>have:=LMc4.out;omega);intro v421 w5 ho hb hg hat;rw [← Ny420.out] at ho;replace HB:=zm (hb);have HO422:=zm (ho);clear HO_3;clear ho hb hg hat))
    go_roundg k1
    case measure=>exact yom1 HK1
    case rel=>exact ⟨(y420),(wrap64 (x4_1+1)),yq,H',⟨yom1 HK1⟩,⟨yr HO422⟩,⟨yhb⟩⟩
   ·
    rw [if_neg c3] at H
    have c3b0 : (x4_1 == 0)=false:=beq_eq_false_iff_ne.mpr c3
    have c3b1 : (x4_1 != 0)=true:=bne_iff_ne.mpr c3
    replace H:=yif H;obtain ⟨c6,H⟩:=H
    have LMc6:=zm c6;clear c6
    obtain ⟨y423,hy423⟩ : ∃ y_ : List Int,y_=(x3_1 ++ [0]):=⟨_,rfl⟩
    replace H : (psalteryref06_Row.l0 k1 a0 y423 (wrap64 (x4_1+1)))=some r:=yrw hy423 H
    have Ny423:=zm hy423;clear hy423
    have H' := zm H
    clear H
    go_wp2_with (first|((with_reducible refine gate_builtin (b:=.append) (xs := #[.tmp 19, .tmp 20]) rfl ?_);at_builtin;refine Kd.R_append (Kd.int .u64) (w0:=w) w.heap.size rfl (.tmp 19) (.tmp 20) 162 59 (.int .u64 0) 8 rfl Try.underlying162 info59 rfl (by decide) (by omega) u3 x3_1 0 [.int .u64 0] (fun _=>True) (fun _=>False) rfl rfl ?aP (fun _ hk=>hk.elim) ?aF ?aO ?aB ?aS ?aL ?_;(case aP=>exact rfl);(case aB=>exact yhb);(case aF=>exact (fun _ _=>trivial));(case aO=>exact (yr HO_3));(case aS=>exact (zE yhb));(case aL=>have:=LMc6.out;omega);intro v424 w7 ho hb hg hat;rw [← Ny423.out] at ho;replace HB:=zm (hb);have HO425:=zm (ho);clear HO_3;clear ho hb hg hat))
    go_roundg k1
    case measure=>exact yom1 HK1
    case rel=>exact ⟨(y423),(wrap64 (x4_1+1)),yq,H',⟨yom1 HK1⟩,⟨yr HO425⟩,⟨yhb⟩⟩
  ·
   rw [if_neg c2] at H
   have c2b0 : decide (x4_1≤12)=false:=decide_eq_false c2
   clear c2
   have H' := zm H
   clear H
   go_wp2
   go_loopg [3,5] k1 (fun kq v3 v5 w' => ∃ (x3_2 : List Int) (x5_2 : Int),v5=.int .i64 x5_2∧Aside0 (psalteryref06_Row.l1 kq a0 x3_2 x5_2=some r)∧Aside0 (kq≤k1)∧Aside0 (Kd.R (Kd.int .u64) 59 w' w.heap.size (fun _=>True) v3 x3_2)∧Aside0 (Below w.heap.size w w'))
   case atStart=>exact ⟨(x3_1),(0),yq,H',⟨Nat.le_refl _⟩,⟨yr HO_3⟩,⟨yhb⟩⟩
   case round =>
    clear H'
    try clear c2b0
    try clear c3
    obtain ⟨x3_2,x5_2,rfl,HA,HK2,HO_3,HB⟩:=hrel
    obtain ⟨k2,rfl⟩:=ysu gk (fun h=>by subst h;exact absurd HA.out (by simp [psalteryref06_Row.l1]))
    have H:=HA.out;clear HA
    simp only [psalteryref06_Row.l1] at H
    by_cases c8 : x5_2 < a0
    ·
     rw [if_pos c8] at H
     have c8b0 : decide (x5_2 < a0)=true:=decide_eq_true c8
     clear c8
     have H' := zm H
     clear H
     go_wp2
     go_loopg [6,7] k2 (fun kq v6 v7 w' => ∃ (x6_3 : List Int) (x7_3 : Int),v7=.int .i64 x7_3∧Aside0 (psalteryref06_Row.l2 kq a0 x3_2 x5_2 x6_3 x7_3=some r)∧Aside0 (kq≤k2)∧Aside0 (Kd.R (Kd.int .u64) 59 w' w.heap.size (fun k_=>some k_≠(v6 : Value).ownBlock) u3 x3_2)∧Aside0 (Kd.R (Kd.int .u64) 59 w' w.heap.size (fun k_=>some k_≠(u3 : Value).ownBlock) v6 x6_3)∧Aside0 (Below w.heap.size w w'))
     case atStart=>exact ⟨(([] : List Int)),(0),yq,H',⟨Nat.le_refl _⟩,⟨yR0 HO_3⟩,⟨yn⟩,⟨yhb⟩⟩
     case round =>
      clear H'
      try clear c8b0
      obtain ⟨x6_3,x7_3,rfl,HA,HK3,HO_3,HO_6,HB⟩:=hrel
      obtain ⟨k3,rfl⟩:=ysu gk (fun h=>by subst h;exact absurd HA.out (by simp [psalteryref06_Row.l2]))
      have H:=HA.out;clear HA
      simp only [psalteryref06_Row.l2] at H
      by_cases c9 : x7_3≤12
      ·
       rw [if_pos c9] at H
       have c9b0 : decide (x7_3≤12)=true:=decide_eq_true c9
       clear c9
       replace H:=yif H;obtain ⟨c10,H⟩:=H
       have c10b0 : decide (0≤x7_3)=true:=decide_eq_true c10
       clear c10
       replace H:=yif H;obtain ⟨c11,H⟩:=H
       have c11b0 : decide (x7_3 < (x3_2.length : Int))=true:=decide_eq_true c11
       clear c11
       have H' := zm H
       clear H
       obtain ⟨Ao12,co12,eo12⟩:=Kd.R_slice HO_3.out
       subst eo12
       have p426 : 0≤(x7_3 : Int):=yt
       have q426 : x7_3 < (x3_2.length : Int):=yt
       obtain ⟨ad426,e426,hx426_0⟩:=Kd.at_int (Kd.R_reads' HO_3.out).2.2 x7_3 p426 q426
       cases e426
       replace p426:=eq_true p426
       replace q426:=eq_true q426
       go_wp2
       go_loopg [8,9] k3 (fun kq v8 v9 w' => ∃ (x8_4 : Int) (x9_4 : Int),v8=.int .u64 x8_4∧v9=.int .i64 x9_4∧Aside0 (psalteryref06_Row.l3 kq a0 x3_2 x5_2 x6_3 x7_3 x8_4 x9_4=some r)∧Aside0 (kq≤k3)∧Aside0 (Kd.R (Kd.int .u64) 59 w' w.heap.size (fun k_=>some k_≠(u6 : Value).ownBlock) (.slice (some ad426) x3_2.length co12) x3_2)∧Aside0 (Kd.R (Kd.int .u64) 59 w' w.heap.size (fun k_=>some k_≠((.slice (some ad426) x3_2.length co12) : Value).ownBlock) u6 x6_3)∧Aside0 (Below w.heap.size w w'))
       case atStart=>exact ⟨(rd x3_2 x7_3),(1),yq,yq,H',⟨Nat.le_refl _⟩,⟨yr HO_3⟩,⟨yr HO_6⟩,⟨yhb⟩⟩
       case round =>
        clear H'
        try clear c9b0
        try clear c10b0
        try clear c11b0
        try clear hx426_0
        try clear p426
        try clear q426
        obtain ⟨x8_4,x9_4,rfl,rfl,HA,HK4,HO_3,HO_6,HB⟩:=hrel
        obtain ⟨k4,rfl⟩:=ysu gk (fun h=>by subst h;exact absurd HA.out (by simp [psalteryref06_Row.l3]))
        have H:=HA.out;clear HA
        simp only [psalteryref06_Row.l3] at H
        by_cases c13 : x9_4≤x7_3
        ·
         rw [if_pos c13] at H
         have c13b0 : decide (x9_4≤x7_3)=true:=decide_eq_true c13
         clear c13
         obtain ⟨ji14,hji14⟩ : ∃ j_ : Int,(wrap64 (x7_3 - x9_4))=j_:=⟨_,rfl⟩
         replace H : (if 0≤(ji14) then (if (ji14) < (x3_2.length : Int) then (psalteryref06_Row.l3 k4 a0 x3_2 x5_2 x6_3 x7_3 (IntKind.u64.wrap (x8_4+(IntKind.u64.wrap (2 * (rd x3_2 (ji14)))))) (wrap64 (x9_4+1))) else (none)) else (none))=some r:=by first|(rw [hji14] at H;exact H)|(simp only [hji14] at H ⊢; exact H)
         have hji14w : (IntKind.i64.wrap (x7_3 - x9_4))=ji14:=(i64_w _).trans hji14
         replace H:=yif H;obtain ⟨c15,H⟩:=H
         have c15b0 : decide (0≤(ji14))=true:=decide_eq_true c15
         clear c15
         replace H:=yif H;obtain ⟨c16,H⟩:=H
         have c16b0 : decide ((ji14) < (x3_2.length : Int))=true:=decide_eq_true c16
         clear c16
         have H' := zm H
         clear H
         have p427 : 0≤((ji14) : Int):=yt
         have q427 : (ji14) < (x3_2.length : Int):=yt
         obtain ⟨ad427,e427,hx427_0⟩:=Kd.at_int (Kd.R_reads' HO_3.out).2.2 (ji14) p427 q427
         obtain rfl : ad426=ad427:=(by injection e427)
         replace p427:=eq_true p427
         replace q427:=eq_true q427
         go_wp2
         go_roundg k4
         case measure=>exact yom4 HK1 HK2 HK3 HK4
         case rel=>exact ⟨(IntKind.u64.wrap (x8_4+(IntKind.u64.wrap (2 * (rd x3_2 (ji14)))))),(wrap64 (x9_4+1)),(by first|rfl|(simp;done)|(simp only [← hji14] <;> (first|rfl|simp))|(simp [*];done)),yq,H',⟨yom4 HK1 HK2 HK3 HK4⟩,⟨yr HO_3⟩,⟨yr HO_6⟩,⟨yhb⟩⟩
        ·
         rw [if_neg c13] at H
         have c13b0 : decide (x9_4≤x7_3)=false:=decide_eq_false c13
         clear c13
         replace H:=yif H;obtain ⟨c17,H⟩:=H
         have LMc17:=zm c17;clear c17
         obtain ⟨y428,hy428⟩ : ∃ y_ : List Int,y_=(x6_3 ++ [x8_4]):=⟨_,rfl⟩
         replace H : (psalteryref06_Row.l2 k4 a0 x3_2 x5_2 y428 (wrap64 (x7_3+1)))=some r:=yrw hy428 H
         have Ny428:=zm hy428;clear hy428
         have H' := zm H
         clear H
         go_wp2_with (first|((with_reducible refine gate_builtin (b:=.append) (xs := #[.tmp 49, .tmp 51]) rfl ?_);at_builtin;refine Kd.R_append (Kd.int .u64) (w0:=w) w.heap.size rfl (.tmp 49) (.tmp 51) 162 59 (.int .u64 0) 8 rfl Try.underlying162 info59 rfl (by decide) (by omega) u6 x6_3 x8_4 [.int .u64 x8_4] (fun k_=>some k_≠(.slice (some ad426) x3_2.length co12 : Value).ownBlock) (fun _=>False) rfl rfl ?aP (fun _ hk=>hk.elim) ?aF ?aO ?aB ?aS ?aL ?_;(case aP=>exact rfl);(case aB=>exact yhb);(case aF=>exact (fun k_ hk=>Kd.fresh' (Kd.R_lt (yr HO_3)) k_ hk));(case aO=>exact (yr HO_6));(case aS=>exact (zE yhb));(case aL=>have:=LMc17.out;omega);intro v429 w18 ho hb hg hat;rw [← Ny428.out] at ho;replace HO_3:=zm (Kd.R_after (ok:=(fun _=>True)) (yR0 HO_3) hg hat);replace HB:=zm (hb);have HO430:=zm (ho);clear HO_6;clear ho hb hg hat))
         go_roundg k4
         case measure=>exact yom4 HK1 HK2 HK3 HK4
         case rel=>exact ⟨(y428),(wrap64 (x7_3+1)),yq,H',⟨yom4 HK1 HK2 HK3 HK4⟩,⟨yR0 HO_3⟩,⟨yr HO430⟩,⟨yhb⟩⟩
      ·
       rw [if_neg c9] at H
       have c9b0 : decide (x7_3≤12)=false:=decide_eq_false c9
       clear c9
       have H' := zm H
       clear H
       go_wp2
       go_roundg k3
       case measure=>exact yom3 HK1 HK2 HK3
       case rel=>exact ⟨(x6_3),(wrap64 (x5_2+1)),yq,H',⟨yom3 HK1 HK2 HK3⟩,⟨yR0 HO_6⟩,⟨yhb⟩⟩
    ·
     rw [if_neg c8] at H
     have c8b0 : decide (x5_2 < a0)=false:=decide_eq_false c8
     clear c8
     obtain rfl:=Option.some.inj H
     go_wp2
     go_ret
     exact ⟨_,ye,yr HO_3,yhb⟩
def psalteryref03_Div.j0 : Nat→Int→Int→Int→Bool→Option (Int)
 | 0,_,_,_,_=>none
 | k+1,x1,x5,x6,x23=>if x23=true then (some (wrap64 (x5+1))) else (if x6 < 0 then (if (wrap64 (-x6)) ≥ (wrap64 (x1+x6)) then (some (wrap64 (x5 - 1))) else (some x5)) else (some x5))
def psalteryref03_Div.f (k : Nat) (a0 : Int) (a1 : Int) : Option (Int):=if a1=0 then (none) else (if (wrap64 (a0 - (wrap64 ((wrap64 (Int.tdiv a0 a1)) * a1)))) ≥ 0 then (psalteryref03_Div.j0 k a1 (wrap64 (Int.tdiv a0 a1)) (wrap64 (a0 - (wrap64 ((wrap64 (Int.tdiv a0 a1)) * a1)))) (decide ((wrap64 (a0 - (wrap64 ((wrap64 (Int.tdiv a0 a1)) * a1)))) ≥ (wrap64 (a1 - (wrap64 (a0 - (wrap64 ((wrap64 (Int.tdiv a0 a1)) * a1))))))))) else (psalteryref03_Div.j0 k a1 (wrap64 (Int.tdiv a0 a1)) (wrap64 (a0 - (wrap64 ((wrap64 (Int.tdiv a0 a1)) * a1)))) false))
theorem psalteryref03_Div.mono_l : ∀ k,(∀ y0 y1 y2 y3,LeO (psalteryref03_Div.j0 k y0 y1 y2 y3) (psalteryref03_Div.j0 (k+1) y0 y1 y2 y3))
 | 0=>fun _ _ _ _ r h=>by simp [psalteryref03_Div.j0] at h
 | k+1=>by
  have ih0:=psalteryref03_Div.mono_l k
  ·
   intro y0 y1 y2 y3
   unfold psalteryref03_Div.j0
   repeat' with_reducible first|apply ih0|apply yLr|apply yLn|apply yLi|apply yLb|intro _
theorem psalteryref03_Div.mono : ∀ a0 a1 k,LeO (psalteryref03_Div.f k a0 a1) (psalteryref03_Div.f (k+1) a0 a1):=by
 intro a0 a1 k
 have ih0:=psalteryref03_Div.mono_l k
 unfold psalteryref03_Div.f
 repeat' with_reducible first|apply ih0|apply yLr|apply yLn|apply yLi|apply yLb|intro _
set_option maxHeartbeats 8000000 in
set_option maxRecDepth 100000 in
theorem psalteryref03_Div.calls (k : Nat) (a0 : Int) (a1 : Int) (r : Int) (w : World) (h : psalteryref03_Div.f k a0 a1=some r) :
  Calls Try.prog 108 #[.int .i64 a0, .int .i64 a1] w fun e w' => e=.returned (.int .i64 r)∧Drawn0 w w' := by
 have H : (if a1=0 then (none) else (if (wrap64 (a0 - (wrap64 ((wrap64 (Int.tdiv a0 a1)) * a1)))) ≥ 0 then (psalteryref03_Div.j0 k a1 (wrap64 (Int.tdiv a0 a1)) (wrap64 (a0 - (wrap64 ((wrap64 (Int.tdiv a0 a1)) * a1)))) (decide ((wrap64 (a0 - (wrap64 ((wrap64 (Int.tdiv a0 a1)) * a1)))) ≥ (wrap64 (a1 - (wrap64 (a0 - (wrap64 ((wrap64 (Int.tdiv a0 a1)) * a1))))))))) else (psalteryref03_Div.j0 k a1 (wrap64 (Int.tdiv a0 a1)) (wrap64 (a0 - (wrap64 ((wrap64 (Int.tdiv a0 a1)) * a1)))) false)))=some r:=h
 clear h
 replace H:=yie H;obtain ⟨c3,H⟩:=H
 have c3b0 : (a1 == 0)=false:=beq_eq_false_iff_ne.mpr c3
 have c3b1 : (a1 != 0)=true:=bne_iff_ne.mpr c3
 have HC4:=zm H;clear H
 go_enter Try.func108,Try.ntmps108
 go_upto_region 3 with (fail)
 go_cut [23] (fun v23 wc => ∃ (kq : Nat) (x23_3 : Bool),v23=.bool x23_3∧Aside0 (psalteryref03_Div.j0 kq a1 (wrap64 (Int.tdiv a0 a1)) (wrap64 (a0 - (wrap64 ((wrap64 (Int.tdiv a0 a1)) * a1)))) x23_3=some r)∧Aside0 (kq≤k)∧Drawn0 w wc)
 case first =>
  have H:=HC4.out;clear HC4
  by_cases c5 : (wrap64 (a0 - (wrap64 ((wrap64 (Int.tdiv a0 a1)) * a1)))) ≥ 0
  ·
   rw [if_pos c5] at H
   have c5b0 : decide (0≤(wrap64 (a0 - (wrap64 ((wrap64 (Int.tdiv a0 a1)) * a1)))))=true:=decide_eq_true c5
   clear c5
   (first|rw [c5b0]|(simp only [i64_w,i32_w];rw [c5b0])|skip)
   have H' := zm H
   clear H
   go_wp2
   go_meet
   case rel=>exact ⟨_,(decide ((wrap64 (a0 - (wrap64 ((wrap64 (Int.tdiv a0 a1)) * a1)))) ≥ (wrap64 (a1 - (wrap64 (a0 - (wrap64 ((wrap64 (Int.tdiv a0 a1)) * a1)))))))),yq,H',⟨yo⟩,yd⟩
  ·
   rw [if_neg c5] at H
   have c5b0 : decide (0≤(wrap64 (a0 - (wrap64 ((wrap64 (Int.tdiv a0 a1)) * a1)))))=false:=decide_eq_false c5
   clear c5
   (first|rw [c5b0]|(simp only [i64_w,i32_w];rw [c5b0])|skip)
   have H' := zm H
   clear H
   go_wp2
   go_meet
   case rel=>exact ⟨_,(false),yq,H',⟨yo⟩,yd⟩
 case rest =>
  clear HC4
  try clear c3
  try clear c3b0
  try clear c3b1
  obtain ⟨kq,x23_3,rfl,HA,HJ3,⟨mc3,rfl⟩⟩:=hcut
  obtain ⟨kj3,rfl⟩:=ysu kq (fun h=>by subst h;exact absurd HA.out (by simp [psalteryref03_Div.j0]))
  have H:=HA.out;clear HA
  simp only [psalteryref03_Div.j0] at H
  by_cases c6 : x23_3=true
  ·
   subst c6
   rw [if_pos rfl] at H
   obtain rfl:=Option.some.inj H
   go_wp2
   go_ret
   exact ⟨yq,yd⟩
  ·
   replace c6:=Bool.eq_false_iff.mpr c6
   subst c6
   rw [ynf] at H
   by_cases c7 : (wrap64 (a0 - (wrap64 ((wrap64 (Int.tdiv a0 a1)) * a1)))) < 0
   ·
    rw [if_pos c7] at H
    have c7b0 : decide ((wrap64 (a0 - (wrap64 ((wrap64 (Int.tdiv a0 a1)) * a1)))) < 0)=true:=decide_eq_true c7
    clear c7
    by_cases c8 : (wrap64 (-(wrap64 (a0 - (wrap64 ((wrap64 (Int.tdiv a0 a1)) * a1)))))) ≥ (wrap64 (a1+(wrap64 (a0 - (wrap64 ((wrap64 (Int.tdiv a0 a1)) * a1))))))
    ·
     rw [if_pos c8] at H
     have c8b0 : decide ((wrap64 (a1+(wrap64 (a0 - (wrap64 ((wrap64 (Int.tdiv a0 a1)) * a1))))))≤(wrap64 (-(wrap64 (a0 - (wrap64 ((wrap64 (Int.tdiv a0 a1)) * a1)))))))=true:=decide_eq_true c8
     clear c8
     obtain rfl:=Option.some.inj H
     go_wp2
     go_ret
     exact ⟨yq,yd⟩
    ·
     rw [if_neg c8] at H
     have c8b0 : decide ((wrap64 (a1+(wrap64 (a0 - (wrap64 ((wrap64 (Int.tdiv a0 a1)) * a1))))))≤(wrap64 (-(wrap64 (a0 - (wrap64 ((wrap64 (Int.tdiv a0 a1)) * a1)))))))=false:=decide_eq_false c8
     clear c8
     obtain rfl:=Option.some.inj H
     go_wp2
     go_ret
     exact ⟨yq,yd⟩
   ·
    rw [if_neg c7] at H
    have c7b0 : decide ((wrap64 (a0 - (wrap64 ((wrap64 (Int.tdiv a0 a1)) * a1)))) < 0)=false:=decide_eq_false c7
    clear c7
    obtain rfl:=Option.some.inj H
    go_wp2
    go_ret
    exact ⟨yq,yd⟩
mutual
def psalteryref07_Shape.l0 : Nat→List Int→Int→Int→Int→Option (List Int)
 | 0,_,_,_,_=>none
 | k+1,x0,x1,x5,x6=>if x6 < (x0.length : Int) then (if 0≤x6 then ((psalteryref06_Size.f k (rd x0 x6)).bind fun t598=>(psalteryref07_Shape.l0 k x0 x1 (IntKind.u64.wrap (x5+(IntKind.u64.wrap ((IntKind.u64.wrap (t598)) * (IntKind.u64.wrap (t598)))))) (wrap64 (x6+1)))) else (none)) else (psalteryref07_Shape.l1 k x0 x1 x5 ([] : List Int) 0)
def psalteryref07_Shape.l1 : Nat→List Int→Int→Int→List Int→Int→Option (List Int)
 | 0,_,_,_,_,_=>none
 | k+1,x0,x1,x5,x8,x9=>if x9 < (x0.length : Int) then (if x5 > 0 then (if 0≤x9 then ((psalteryref06_Size.f k (rd x0 x9)).bind fun t600=>((psalteryref03_Sqrt.f k (IntKind.u64.wrap (x5 * 65536))).bind fun t601=>((psalteryref03_Div.f k (wrap64 ((wrap64 (t600 * x1)) * 256)) (wrap64 (t601))).bind fun t602=>(if (rd x0 x9) < 0 then (if x8.length < 17592186044416 then (psalteryref07_Shape.l1 k x0 x1 x5 (x8 ++ [wrap64 (-t602)]) (wrap64 (x9+1))) else (none)) else (if x8.length < 17592186044416 then (psalteryref07_Shape.l1 k x0 x1 x5 (x8 ++ [t602]) (wrap64 (x9+1))) else (none)))))) else (none)) else (if 0≤x9 then (if (rd x0 x9) < 0 then (if x8.length < 17592186044416 then (psalteryref07_Shape.l1 k x0 x1 x5 (x8 ++ [0]) (wrap64 (x9+1))) else (none)) else (if x8.length < 17592186044416 then (psalteryref07_Shape.l1 k x0 x1 x5 (x8 ++ [0]) (wrap64 (x9+1))) else (none))) else (none))) else (some x8)
end
def psalteryref07_Shape.f (k : Nat) (l0 : List Int) (a1 : Int) : Option (List Int):=psalteryref07_Shape.l0 k l0 a1 0 0
theorem psalteryref07_Shape.mono_l : ∀ k,(∀ y0 y1 y2 y3,LeO (psalteryref07_Shape.l0 k y0 y1 y2 y3) (psalteryref07_Shape.l0 (k+1) y0 y1 y2 y3))∧(∀ y0 y1 y2 y3 y4,LeO (psalteryref07_Shape.l1 k y0 y1 y2 y3 y4) (psalteryref07_Shape.l1 (k+1) y0 y1 y2 y3 y4))
 | 0=>⟨fun _ _ _ _ r h=>by simp [psalteryref07_Shape.l0] at h,fun _ _ _ _ _ r h=>by simp [psalteryref07_Shape.l1] at h⟩
 | k+1=>by
  obtain ⟨ih0,ih1⟩:=psalteryref07_Shape.mono_l k
  refine ⟨?_, ?_⟩
  ·
   intro y0 y1 y2 y3
   unfold psalteryref07_Shape.l0
   repeat' with_reducible first|apply ih0|apply ih1|apply psalteryref03_Div.mono|apply psalteryref03_Sqrt.mono|apply psalteryref06_Size.mono|apply yLr|apply yLn|apply yLi|apply yLb|intro _
  ·
   intro y0 y1 y2 y3 y4
   unfold psalteryref07_Shape.l1
   repeat' with_reducible first|apply ih0|apply ih1|apply psalteryref03_Div.mono|apply psalteryref03_Sqrt.mono|apply psalteryref06_Size.mono|apply yLr|apply yLn|apply yLi|apply yLb|intro _
theorem psalteryref07_Shape.mono : ∀ a0 a1 k,LeO (psalteryref07_Shape.f k a0 a1) (psalteryref07_Shape.f (k+1) a0 a1):=by
 intro a0 a1 k
 obtain ⟨ih0,ih1⟩:=psalteryref07_Shape.mono_l k
 unfold psalteryref07_Shape.f
 repeat' with_reducible first|apply ih0|apply ih1|apply psalteryref03_Div.mono|apply psalteryref03_Sqrt.mono|apply psalteryref06_Size.mono|apply yLr|apply yLn|apply yLi|apply yLb|intro _
set_option maxHeartbeats 8000000 in
set_option maxRecDepth 100000 in
theorem psalteryref07_Shape.calls (k : Nat) (A0 : Option Addr) (c0 : Nat) (l0 : List Int) (a1 : Int) (r : List Int) (w : World) (hr0 : Kd.C (Kd.int .i64) w A0 l0.length l0) (hc0 : l0.length≤c0) (h : psalteryref07_Shape.f k l0 a1=some r) :
  Calls Try.prog 107 #[.slice A0 l0.length c0, .int .i64 a1] w fun e w' => ∃ v0_ : Value,e=.returned (v0_)∧Kd.R (Kd.int .i64) 2 w' w.heap.size (fun _=>True) v0_ r∧Below w.heap.size w w' := by
 have HR0:=zm hr0;have HC0:=zm hc0;clear hr0 hc0;have HB:=zm (Below.refl w.heap.size w)
 have H : (psalteryref07_Shape.l0 k l0 a1 0 0)=some r:=h
 clear h
 have H' := zm H
 clear H
 go_enter Try.func107,Try.ntmps107
 go_wp2
 go_loopg [5,6] k (fun kq v5 v6 w' => ∃ (x5_1 : Int) (x6_1 : Int),v5=.int .u64 x5_1∧v6=.int .i64 x6_1∧Aside0 (psalteryref07_Shape.l0 kq l0 a1 x5_1 x6_1=some r)∧Aside0 (kq≤k)∧Aside0 (Below w.heap.size w w'))
 case atStart=>exact ⟨(0),(0),yq,yq,H',⟨Nat.le_refl _⟩,⟨yhb⟩⟩
 case round =>
  clear H'
  obtain ⟨x5_1,x6_1,rfl,rfl,HA,HK1,HB⟩:=hrel
  obtain ⟨k1,rfl⟩:=ysu gk (fun h=>by subst h;exact absurd HA.out (by simp [psalteryref07_Shape.l0]))
  have H:=HA.out;clear HA
  simp only [psalteryref07_Shape.l0] at H
  by_cases c3 : x6_1 < (l0.length : Int)
  ·
   rw [if_pos c3] at H
   have c3b0 : decide (x6_1 < (l0.length : Int))=true:=decide_eq_true c3
   clear c3
   replace H:=yif H;obtain ⟨c4,H⟩:=H
   have c4b0 : decide (0≤x6_1)=true:=decide_eq_true c4
   clear c4
   replace H:=ybi H;obtain ⟨t598,A5,H⟩:=H
   have H' := zm H
   clear H
   have p597 : 0≤(x6_1 : Int):=yt
   have q597 : x6_1 < (l0.length : Int):=yt
   obtain ⟨ad597,e597,hx597_0⟩:=Kd.at_int HR0.out x6_1 p597 q597
   cases e597
   replace hx597_0:=yhx HB hx597_0
   replace p597:=eq_true p597
   replace q597:=eq_true q597
   go_wp2_with (first|((with_reducible refine gate_callee (f:=68) rfl ?_);refine ygl 21 Try.func68 #[.int .i64 (rd l0 x6_1)] ?_;(with_reducible refine (psalteryref06_Size.calls k1 (rd l0 x6_1) t598 _ A5.out).mono ?_);rintro e w' ⟨rfl,⟨nd,rfl⟩⟩;refine ⟨_,rfl, ?_⟩))
   go_roundg k1
   case measure=>exact yom1 HK1
   case rel=>exact ⟨(IntKind.u64.wrap (x5_1+(IntKind.u64.wrap ((IntKind.u64.wrap (t598)) * (IntKind.u64.wrap (t598)))))),(wrap64 (x6_1+1)),yq,yq,H',⟨yom1 HK1⟩,⟨yhb⟩⟩
  ·
   rw [if_neg c3] at H
   have c3b0 : decide (x6_1 < (l0.length : Int))=false:=decide_eq_false c3
   clear c3
   have H' := zm H
   clear H
   go_wp2
   go_loopg [8,9] k1 (fun kq v8 v9 w' => ∃ (x8_2 : List Int) (x9_2 : Int),v9=.int .i64 x9_2∧Aside0 (psalteryref07_Shape.l1 kq l0 a1 x5_1 x8_2 x9_2=some r)∧Aside0 (kq≤k1)∧Aside0 (Kd.R (Kd.int .i64) 2 w' w.heap.size (fun _=>True) v8 x8_2)∧Aside0 (Below w.heap.size w w'))
   case atStart=>exact ⟨(([] : List Int)),(0),yq,H',⟨Nat.le_refl _⟩,⟨yn⟩,⟨yhb⟩⟩
   case round =>
    clear H'
    try clear c3b0
    try clear c4b0
    try clear hx597_0
    try clear p597
    try clear q597
    obtain ⟨x8_2,x9_2,rfl,HA,HK2,HO_8,HB⟩:=hrel
    obtain ⟨k2,rfl⟩:=ysu gk (fun h=>by subst h;exact absurd HA.out (by simp [psalteryref07_Shape.l1]))
    have H:=HA.out;clear HA
    simp only [psalteryref07_Shape.l1] at H
    by_cases c6 : x9_2 < (l0.length : Int)
    ·
     rw [if_pos c6] at H
     have c6b0 : decide (x9_2 < (l0.length : Int))=true:=decide_eq_true c6
     clear c6
     by_cases c7 : x5_1 > 0
     ·
      rw [if_pos c7] at H
      have c7b0 : decide (0 < x5_1)=true:=decide_eq_true c7
      clear c7
      replace H:=yif H;obtain ⟨c8,H⟩:=H
      have c8b0 : decide (0≤x9_2)=true:=decide_eq_true c8
      clear c8
      replace H:=ybi H;obtain ⟨t600,A9,H⟩:=H
      replace H:=ybi H;obtain ⟨t601,A10,H⟩:=H
      replace H:=ybi H;obtain ⟨t602,A11,H⟩:=H
      by_cases c12 : (rd l0 x9_2) < 0
      ·
       rw [if_pos c12] at H
       have c12b0 : decide ((rd l0 x9_2) < 0)=true:=decide_eq_true c12
       clear c12
       replace H:=yif H;obtain ⟨c13,H⟩:=H
       have LMc13:=zm c13;clear c13
       obtain ⟨y604,hy604⟩ : ∃ y_ : List Int,y_=(x8_2 ++ [wrap64 (-t602)]):=⟨_,rfl⟩
       replace H : (psalteryref07_Shape.l1 k2 l0 a1 x5_1 y604 (wrap64 (x9_2+1)))=some r:=yrw hy604 H
       have Ny604:=zm hy604;clear hy604
       have H' := zm H
       clear H
       have p599 : 0≤(x9_2 : Int):=yt
       have q599 : x9_2 < (l0.length : Int):=yt
       obtain ⟨ad599,e599,hx599_0⟩:=Kd.at_int HR0.out x9_2 p599 q599
       cases e599
       replace hx599_0:=yhx HB hx599_0
       replace p599:=eq_true p599
       replace q599:=eq_true q599
       go_wp2_with (first|((with_reducible refine gate_callee (f:=68) rfl ?_);refine ygl 40 Try.func68 #[.int .i64 (rd l0 x9_2)] ?_;(with_reducible refine (psalteryref06_Size.calls k2 (rd l0 x9_2) t600 _ A9.out).mono ?_);rintro e w' ⟨rfl,⟨nd,rfl⟩⟩;refine ⟨_,rfl, ?_⟩)|((with_reducible refine gate_callee (f:=31) rfl ?_);refine ygl 46 Try.func31 #[.int .u64 (IntKind.u64.wrap (x5_1 * 65536))] ?_;(with_reducible refine (psalteryref03_Sqrt.calls k2 (IntKind.u64.wrap (x5_1 * 65536)) t601 _ A10.out).mono ?_);rintro e w' ⟨rfl,⟨nd,rfl⟩⟩;refine ⟨_,rfl, ?_⟩)|((with_reducible refine gate_callee (f:=108) rfl ?_);refine ygl 48 Try.func108 #[.int .i64 (wrap64 ((wrap64 (t600 * a1)) * 256)), .int .i64 (wrap64 (t601))] ?_;(with_reducible refine (psalteryref03_Div.calls k2 (wrap64 ((wrap64 (t600 * a1)) * 256)) (wrap64 (t601)) t602 _ A11.out).mono ?_);rintro e w' ⟨rfl,⟨nd,rfl⟩⟩;refine ⟨_,rfl, ?_⟩;have p603 : 0≤(x9_2 : Int):=yt;have q603 : x9_2 < (l0.length : Int):=yt;obtain ⟨ad603,e603,hx603_0⟩:=Kd.at_int HR0.out x9_2 p603 q603;obtain rfl : ad599=ad603:=(by injection e603);replace hx603_0:=yhx HB hx603_0;replace p603:=eq_true p603;replace q603:=eq_true q603)|((with_reducible refine gate_builtin (b:=.append) (xs := #[.tmp 56, .tmp 58]) rfl ?_);at_builtin;refine Kd.R_append (Kd.int .i64) (w0:=w) w.heap.size rfl (.tmp 56) (.tmp 58) 53 2 (.int .i64 0) 8 rfl Try.underlying53 info2 rfl (by decide) (by omega) u8 x8_2 (wrap64 (-t602)) [.int .i64 (wrap64 (-t602))] (fun _=>True) (fun _=>False) rfl rfl ?aP (fun _ hk=>hk.elim) ?aF ?aO ?aB ?aS ?aL ?_;(case aP=>exact rfl);(case aB=>exact yhb);(case aF=>exact (fun _ _=>trivial));(case aO=>exact (yr HO_8));(case aS=>exact (zE yhb));(case aL=>have:=LMc13.out;omega);intro v605 w14 ho hb hg hat;rw [← Ny604.out] at ho;replace HB:=zm (hb);have HO606:=zm (ho);clear HO_8;clear ho hb hg hat))
       go_roundg k2
       case measure=>exact yom2 HK1 HK2
       case rel=>exact ⟨(y604),(wrap64 (x9_2+1)),yq,H',⟨yom2 HK1 HK2⟩,⟨yr HO606⟩,⟨yhb⟩⟩
      ·
       rw [if_neg c12] at H
       have c12b0 : decide ((rd l0 x9_2) < 0)=false:=decide_eq_false c12
       clear c12
       replace H:=yif H;obtain ⟨c15,H⟩:=H
       have LMc15:=zm c15;clear c15
       obtain ⟨y607,hy607⟩ : ∃ y_ : List Int,y_=(x8_2 ++ [t602]):=⟨_,rfl⟩
       replace H : (psalteryref07_Shape.l1 k2 l0 a1 x5_1 y607 (wrap64 (x9_2+1)))=some r:=yrw hy607 H
       have Ny607:=zm hy607;clear hy607
       have H' := zm H
       clear H
       have p599 : 0≤(x9_2 : Int):=yt
       have q599 : x9_2 < (l0.length : Int):=yt
       obtain ⟨ad599,e599,hx599_0⟩:=Kd.at_int HR0.out x9_2 p599 q599
       cases e599
       replace hx599_0:=yhx HB hx599_0
       replace p599:=eq_true p599
       replace q599:=eq_true q599
       go_wp2_with (first|((with_reducible refine gate_callee (f:=68) rfl ?_);refine ygl 40 Try.func68 #[.int .i64 (rd l0 x9_2)] ?_;(with_reducible refine (psalteryref06_Size.calls k2 (rd l0 x9_2) t600 _ A9.out).mono ?_);rintro e w' ⟨rfl,⟨nd,rfl⟩⟩;refine ⟨_,rfl, ?_⟩)|((with_reducible refine gate_callee (f:=31) rfl ?_);refine ygl 46 Try.func31 #[.int .u64 (IntKind.u64.wrap (x5_1 * 65536))] ?_;(with_reducible refine (psalteryref03_Sqrt.calls k2 (IntKind.u64.wrap (x5_1 * 65536)) t601 _ A10.out).mono ?_);rintro e w' ⟨rfl,⟨nd,rfl⟩⟩;refine ⟨_,rfl, ?_⟩)|((with_reducible refine gate_callee (f:=108) rfl ?_);refine ygl 48 Try.func108 #[.int .i64 (wrap64 ((wrap64 (t600 * a1)) * 256)), .int .i64 (wrap64 (t601))] ?_;(with_reducible refine (psalteryref03_Div.calls k2 (wrap64 ((wrap64 (t600 * a1)) * 256)) (wrap64 (t601)) t602 _ A11.out).mono ?_);rintro e w' ⟨rfl,⟨nd,rfl⟩⟩;refine ⟨_,rfl, ?_⟩;have p603 : 0≤(x9_2 : Int):=yt;have q603 : x9_2 < (l0.length : Int):=yt;obtain ⟨ad603,e603,hx603_0⟩:=Kd.at_int HR0.out x9_2 p603 q603;obtain rfl : ad599=ad603:=(by injection e603);replace hx603_0:=yhx HB hx603_0;replace p603:=eq_true p603;replace q603:=eq_true q603)|((with_reducible refine gate_builtin (b:=.append) (xs := #[.tmp 56, .tmp 58]) rfl ?_);at_builtin;refine Kd.R_append (Kd.int .i64) (w0:=w) w.heap.size rfl (.tmp 56) (.tmp 58) 53 2 (.int .i64 0) 8 rfl Try.underlying53 info2 rfl (by decide) (by omega) u8 x8_2 t602 [.int .i64 t602] (fun _=>True) (fun _=>False) rfl rfl ?aP (fun _ hk=>hk.elim) ?aF ?aO ?aB ?aS ?aL ?_;(case aP=>exact rfl);(case aB=>exact yhb);(case aF=>exact (fun _ _=>trivial));(case aO=>exact (yr HO_8));(case aS=>exact (zE yhb));(case aL=>have:=LMc15.out;omega);intro v608 w16 ho hb hg hat;rw [← Ny607.out] at ho;replace HB:=zm (hb);have HO609:=zm (ho);clear HO_8;clear ho hb hg hat))
       go_roundg k2
       case measure=>exact yom2 HK1 HK2
       case rel=>exact ⟨(y607),(wrap64 (x9_2+1)),yq,H',⟨yom2 HK1 HK2⟩,⟨yr HO609⟩,⟨yhb⟩⟩
     ·
      rw [if_neg c7] at H
      have c7b0 : decide (0 < x5_1)=false:=decide_eq_false c7
      clear c7
      replace H:=yif H;obtain ⟨c17,H⟩:=H
      have c17b0 : decide (0≤x9_2)=true:=decide_eq_true c17
      clear c17
      by_cases c18 : (rd l0 x9_2) < 0
      ·
       rw [if_pos c18] at H
       have c18b0 : decide ((rd l0 x9_2) < 0)=true:=decide_eq_true c18
       clear c18
       replace H:=yif H;obtain ⟨c19,H⟩:=H
       have LMc19:=zm c19;clear c19
       obtain ⟨y611,hy611⟩ : ∃ y_ : List Int,y_=(x8_2 ++ [0]):=⟨_,rfl⟩
       replace H : (psalteryref07_Shape.l1 k2 l0 a1 x5_1 y611 (wrap64 (x9_2+1)))=some r:=yrw hy611 H
       have Ny611:=zm hy611;clear hy611
       have H' := zm H
       clear H
       have p610 : 0≤(x9_2 : Int):=yt
       have q610 : x9_2 < (l0.length : Int):=yt
       obtain ⟨ad610,e610,hx610_0⟩:=Kd.at_int HR0.out x9_2 p610 q610
       cases e610
       replace hx610_0:=yhx HB hx610_0
       replace p610:=eq_true p610
       replace q610:=eq_true q610
       go_wp2_with (first|((with_reducible refine gate_builtin (b:=.append) (xs := #[.tmp 56, .tmp 58]) rfl ?_);at_builtin;refine Kd.R_append (Kd.int .i64) (w0:=w) w.heap.size rfl (.tmp 56) (.tmp 58) 53 2 (.int .i64 0) 8 rfl Try.underlying53 info2 rfl (by decide) (by omega) u8 x8_2 0 [.int .i64 0] (fun _=>True) (fun _=>False) rfl rfl ?aP (fun _ hk=>hk.elim) ?aF ?aO ?aB ?aS ?aL ?_;(case aP=>exact rfl);(case aB=>exact yhb);(case aF=>exact (fun _ _=>trivial));(case aO=>exact (yr HO_8));(case aS=>exact (zE yhb));(case aL=>have:=LMc19.out;omega);intro v612 w20 ho hb hg hat;rw [← Ny611.out] at ho;replace HB:=zm (hb);have HO613:=zm (ho);clear HO_8;clear ho hb hg hat))
       go_roundg k2
       case measure=>exact yom2 HK1 HK2
       case rel=>exact ⟨(y611),(wrap64 (x9_2+1)),yq,H',⟨yom2 HK1 HK2⟩,⟨yr HO613⟩,⟨yhb⟩⟩
      ·
       rw [if_neg c18] at H
       have c18b0 : decide ((rd l0 x9_2) < 0)=false:=decide_eq_false c18
       clear c18
       replace H:=yif H;obtain ⟨c21,H⟩:=H
       have LMc21:=zm c21;clear c21
       obtain ⟨y614,hy614⟩ : ∃ y_ : List Int,y_=(x8_2 ++ [0]):=⟨_,rfl⟩
       replace H : (psalteryref07_Shape.l1 k2 l0 a1 x5_1 y614 (wrap64 (x9_2+1)))=some r:=yrw hy614 H
       have Ny614:=zm hy614;clear hy614
       have H' := zm H
       clear H
       have p610 : 0≤(x9_2 : Int):=yt
       have q610 : x9_2 < (l0.length : Int):=yt
       obtain ⟨ad610,e610,hx610_0⟩:=Kd.at_int HR0.out x9_2 p610 q610
       cases e610
       replace hx610_0:=yhx HB hx610_0
       replace p610:=eq_true p610
       replace q610:=eq_true q610
       go_wp2_with (first|((with_reducible refine gate_builtin (b:=.append) (xs := #[.tmp 56, .tmp 58]) rfl ?_);at_builtin;refine Kd.R_append (Kd.int .i64) (w0:=w) w.heap.size rfl (.tmp 56) (.tmp 58) 53 2 (.int .i64 0) 8 rfl Try.underlying53 info2 rfl (by decide) (by omega) u8 x8_2 0 [.int .i64 0] (fun _=>True) (fun _=>False) rfl rfl ?aP (fun _ hk=>hk.elim) ?aF ?aO ?aB ?aS ?aL ?_;(case aP=>exact rfl);(case aB=>exact yhb);(case aF=>exact (fun _ _=>trivial));(case aO=>exact (yr HO_8));(case aS=>exact (zE yhb));(case aL=>have:=LMc21.out;omega);intro v615 w22 ho hb hg hat;rw [← Ny614.out] at ho;replace HB:=zm (hb);have HO616:=zm (ho);clear HO_8;clear ho hb hg hat))
       go_roundg k2
       case measure=>exact yom2 HK1 HK2
       case rel=>exact ⟨(y614),(wrap64 (x9_2+1)),yq,H',⟨yom2 HK1 HK2⟩,⟨yr HO616⟩,⟨yhb⟩⟩
    ·
     rw [if_neg c6] at H
     have c6b0 : decide (x9_2 < (l0.length : Int))=false:=decide_eq_false c6
     clear c6
     obtain rfl:=Option.some.inj H
     go_wp2
     go_ret
     exact ⟨_,ye,yr HO_8,yhb⟩
def psalteryref12_Room.f (a0 : Int) (a1 : Int) : Option (Int):=(psalteryref12_Right.f a0 a1).bind fun t460=>(if t460=true then (if a1=1 then (some (wrap64 ((wrap64 (8 * a0)) - 86))) else (some (wrap64 (Int.tdiv (wrap64 ((wrap64 (8 * a0)) - 131)) 2)))) else (some 0))
set_option maxHeartbeats 8000000 in
set_option maxRecDepth 100000 in
theorem psalteryref12_Room.calls (a0 : Int) (a1 : Int) (r : Int) (w : World) (h : psalteryref12_Room.f a0 a1=some r) :
  Calls Try.prog 98 #[.int .i64 a0, .int .i64 a1] w fun e w' => e=.returned (.int .i64 r)∧Drawn0 w w' := by
 have H : ((psalteryref12_Right.f a0 a1).bind fun t460=>(if t460=true then (if a1=1 then (some (wrap64 ((wrap64 (8 * a0)) - 86))) else (some (wrap64 (Int.tdiv (wrap64 ((wrap64 (8 * a0)) - 131)) 2)))) else (some 0)))=some r:=h
 clear h
 replace H:=ybi H;obtain ⟨t460,A3,H⟩:=H
 by_cases c4 : t460=true
 ·
  subst c4
  rw [if_pos rfl] at H
  by_cases c5 : a1=1
  ·
   rw [if_pos c5] at H
   have c5b0 : (a1 == 1)=true:=beq_iff_eq.mpr c5
   have c5b1 : (a1 != 1)=false:=bne_eq_false_iff_eq.mpr c5
   clear c5
   obtain rfl:=Option.some.inj H
   go_enter Try.func98,Try.ntmps98
   go_wp2_with (first|((with_reducible refine gate_callee (f:=40) rfl ?_);refine ygl 7 Try.func40 #[.int .i64 a0, .int .i64 a1] ?_;(with_reducible refine (psalteryref12_Right.calls a0 a1 true _ A3.out).mono ?_);rintro e w' ⟨rfl,⟨nd,rfl⟩⟩;refine ⟨_,rfl, ?_⟩))
   go_ret
   exact ⟨yq,yd⟩
  ·
   rw [if_neg c5] at H
   have c5b0 : (a1 == 1)=false:=beq_eq_false_iff_ne.mpr c5
   have c5b1 : (a1 != 1)=true:=bne_iff_ne.mpr c5
   obtain rfl:=Option.some.inj H
   go_enter Try.func98,Try.ntmps98
   go_wp2_with (first|((with_reducible refine gate_callee (f:=40) rfl ?_);refine ygl 7 Try.func40 #[.int .i64 a0, .int .i64 a1] ?_;(with_reducible refine (psalteryref12_Right.calls a0 a1 true _ A3.out).mono ?_);rintro e w' ⟨rfl,⟨nd,rfl⟩⟩;refine ⟨_,rfl, ?_⟩))
   go_ret
   exact ⟨yq,yd⟩
 ·
  replace c4:=Bool.eq_false_iff.mpr c4
  subst c4
  rw [ynf] at H
  obtain rfl:=Option.some.inj H
  go_enter Try.func98,Try.ntmps98
  go_wp2_with (first|((with_reducible refine gate_callee (f:=40) rfl ?_);refine ygl 7 Try.func40 #[.int .i64 a0, .int .i64 a1] ?_;(with_reducible refine (psalteryref12_Right.calls a0 a1 false _ A3.out).mono ?_);rintro e w' ⟨rfl,⟨nd,rfl⟩⟩;refine ⟨_,rfl, ?_⟩))
  go_ret
  exact ⟨yq,yd⟩
def psalteryref03_Log2.f : Nat→Int→Option (Int)
 | 0,_=>none
 | k+1,a0=>if a0=0 then (some (-1)) else ((psalteryref03_Log2.f k (IntKind.u64.wrap (Int.tdiv a0 2))).bind fun t435=>(some (wrap64 (1+t435))))
theorem psalteryref03_Log2.mono_l : ∀ k,(∀ y0,LeO (psalteryref03_Log2.f k y0) (psalteryref03_Log2.f (k+1) y0))
 | 0=>fun _ r h=>by simp [psalteryref03_Log2.f] at h
 | k+1=>by
  have ih0:=psalteryref03_Log2.mono_l k
  ·
   intro y0
   unfold psalteryref03_Log2.f
   repeat' with_reducible first|apply ih0|apply yLr|apply yLn|apply yLi|apply yLb|intro _
theorem psalteryref03_Log2.mono : ∀ a0 k,LeO (psalteryref03_Log2.f k a0) (psalteryref03_Log2.f (k+1) a0):=by
 intro a0 k
 have ih0:=psalteryref03_Log2.mono_l k
 exact ih0 a0
set_option maxHeartbeats 8000000 in
set_option maxRecDepth 100000 in
theorem psalteryref03_Log2.calls (k : Nat) : ∀ (a0 : Int) (r : Int) (w : World) (h : psalteryref03_Log2.f k a0=some r),
  Calls Try.prog 127 #[.int .u64 a0] w fun e w' => e=.returned (.int .i64 r)∧Drawn0 w w' := by
 induction k using Nat.strongRecOn with
 | _ k ih =>
 intro a0 r w h
 cases k with
 | zero=>exact absurd h (by simp [psalteryref03_Log2.f])
 | succ k =>
 simp only [psalteryref03_Log2.f] at h
 have H : (if a0=0 then (some (-1)) else ((psalteryref03_Log2.f k (IntKind.u64.wrap (Int.tdiv a0 2))).bind fun t435=>(some (wrap64 (1+t435)))))=some r:=h
 clear h
 by_cases c2 : a0=0
 ·
  rw [if_pos c2] at H
  have c2b0 : (a0 == 0)=true:=beq_iff_eq.mpr c2
  have c2b1 : (a0 != 0)=false:=bne_eq_false_iff_eq.mpr c2
  clear c2
  obtain rfl:=Option.some.inj H
  go_enter Try.func127,Try.ntmps127
  go_wp2
  go_ret
  exact ⟨yq,yd⟩
 ·
  rw [if_neg c2] at H
  have c2b0 : (a0 == 0)=false:=beq_eq_false_iff_ne.mpr c2
  have c2b1 : (a0 != 0)=true:=bne_iff_ne.mpr c2
  replace H:=ybi H;obtain ⟨t435,A3,H⟩:=H
  obtain rfl:=Option.some.inj H
  go_enter Try.func127,Try.ntmps127
  go_wp2_with (first|((with_reducible refine gate_callee (f:=127) rfl ?_);refine ygl 7 Try.func127 #[.int .u64 (IntKind.u64.wrap (Int.tdiv a0 2))] ?_;(with_reducible refine (ih k (by omega) (IntKind.u64.wrap (Int.tdiv a0 2)) t435 _ A3.out).mono ?_);rintro e w' ⟨rfl,⟨nd,rfl⟩⟩;refine ⟨_,rfl, ?_⟩))
  go_ret
  exact ⟨yq,yd⟩
def psalteryref06_Count.f (k : Nat) (a0 : Int) (a1 : Int) : Option (Int):=(psalteryref06_Row.f k a0).bind fun t431=>(if 0≤a1 then (if a1 < (t431.length : Int) then (some (rd t431 a1)) else (none)) else (none))
theorem psalteryref06_Count.mono : ∀ a0 a1 k,LeO (psalteryref06_Count.f k a0 a1) (psalteryref06_Count.f (k+1) a0 a1):=by
 intro a0 a1 k
 unfold psalteryref06_Count.f
 repeat' with_reducible first|apply psalteryref06_Row.mono|apply yLr|apply yLn|apply yLi|apply yLb|intro _
set_option maxHeartbeats 8000000 in
set_option maxRecDepth 100000 in
theorem psalteryref06_Count.calls (k : Nat) (a0 : Int) (a1 : Int) (r : Int) (w : World) (h : psalteryref06_Count.f k a0 a1=some r) :
  Calls Try.prog 126 #[.int .i64 a0, .int .i64 a1] w fun e w' => e=.returned (.int .u64 r)∧Below w.heap.size w w' := by
 have HB:=zm (Below.refl w.heap.size w)
 have H : ((psalteryref06_Row.f k a0).bind fun t431=>(if 0≤a1 then (if a1 < (t431.length : Int) then (some (rd t431 a1)) else (none)) else (none)))=some r:=h
 clear h
 replace H:=ybi H;obtain ⟨t431,A3,H⟩:=H
 replace H:=yif H;obtain ⟨c4,H⟩:=H
 have c4b0 : decide (0≤a1)=true:=decide_eq_true c4
 clear c4
 replace H:=yif H;obtain ⟨c5,H⟩:=H
 have c5b0 : decide (a1 < (t431.length : Int))=true:=decide_eq_true c5
 clear c5
 obtain rfl:=Option.some.inj H
 go_enter Try.func126,Try.ntmps126
 go_wp2_with (first|((with_reducible refine gate_callee (f:=128) rfl ?_);refine ygl 6 Try.func128 #[.int .i64 a0] ?_;(with_reducible refine (psalteryref06_Row.calls k a0 t431 _ A3.out).mono ?_);rintro e w6 ⟨v432,rfl,ho0,hb⟩;refine ⟨_,rfl, ?_⟩;have HO433:=zm (Kd.R_lower ho0 (zE yhb));replace HB:=ybs hb;(try clear hb);(try clear ho0);obtain ⟨Ao7,co7,eo7⟩:=Kd.R_slice HO433.out;subst eo7;have p434 : 0≤(a1 : Int):=yt;have q434 : a1 < (t431.length : Int):=yt;obtain ⟨ad434,e434,hx434_0⟩:=Kd.at_int (Kd.R_reads' HO433.out).2.2 a1 p434 q434;cases e434;replace p434:=eq_true p434;replace q434:=eq_true q434))
 go_ret
 exact ⟨ye,yhb⟩
def psalteryref06_Cost.f (k : Nat) (a0 : Int) (a1 : Int) : Option (Int):=(psalteryref06_Count.f k a0 a1).bind fun t436=>(if (IntKind.u64.wrap (t436 - 1)) < 65536 then ((psalteryref03_Log2.f k (IntKind.u64.wrap (t436 - 1))).bind fun t437=>(some (wrap64 (1+t437)))) else ((psalteryref03_Log2.f k (IntKind.u64.wrap (Int.tdiv (IntKind.u64.wrap (t436 - 1)) 65536))).bind fun t438=>(some (wrap64 (17+t438)))))
theorem psalteryref06_Cost.mono : ∀ a0 a1 k,LeO (psalteryref06_Cost.f k a0 a1) (psalteryref06_Cost.f (k+1) a0 a1):=by
 intro a0 a1 k
 unfold psalteryref06_Cost.f
 repeat' with_reducible first|apply psalteryref03_Log2.mono|apply psalteryref06_Count.mono|apply yLr|apply yLn|apply yLi|apply yLb|intro _
set_option maxHeartbeats 8000000 in
set_option maxRecDepth 100000 in
theorem psalteryref06_Cost.calls (k : Nat) (a0 : Int) (a1 : Int) (r : Int) (w : World) (h : psalteryref06_Cost.f k a0 a1=some r) :
  Calls Try.prog 125 #[.int .i64 a0, .int .i64 a1] w fun e w' => e=.returned (.int .i64 r)∧Below w.heap.size w w' := by
 have HB:=zm (Below.refl w.heap.size w)
 have H : ((psalteryref06_Count.f k a0 a1).bind fun t436=>(if (IntKind.u64.wrap (t436 - 1)) < 65536 then ((psalteryref03_Log2.f k (IntKind.u64.wrap (t436 - 1))).bind fun t437=>(some (wrap64 (1+t437)))) else ((psalteryref03_Log2.f k (IntKind.u64.wrap (Int.tdiv (IntKind.u64.wrap (t436 - 1)) 65536))).bind fun t438=>(some (wrap64 (17+t438))))))=some r:=h
 clear h
 replace H:=ybi H;obtain ⟨t436,A3,H⟩:=H
 by_cases c4 : (IntKind.u64.wrap (t436 - 1)) < 65536
 ·
  rw [if_pos c4] at H
  have c4b0 : decide ((IntKind.u64.wrap (t436 - 1)) < 65536)=true:=decide_eq_true c4
  clear c4
  replace H:=ybi H;obtain ⟨t437,A5,H⟩:=H
  obtain rfl:=Option.some.inj H
  go_enter Try.func125,Try.ntmps125
  go_wp2_with (first|((with_reducible refine gate_callee (f:=126) rfl ?_);refine ygl 8 Try.func126 #[.int .i64 a0, .int .i64 a1] ?_;(with_reducible refine (psalteryref06_Count.calls k a0 a1 t436 _ A3.out).mono ?_);rintro e w6 ⟨rfl,hb⟩;refine ⟨_,rfl, ?_⟩;replace HB:=ybs hb;(try clear hb))|((with_reducible refine gate_callee (f:=127) rfl ?_);refine ygl 13 Try.func127 #[.int .u64 (IntKind.u64.wrap (t436 - 1))] ?_;(with_reducible refine (psalteryref03_Log2.calls k (IntKind.u64.wrap (t436 - 1)) t437 _ A5.out).mono ?_);rintro e w' ⟨rfl,⟨nd,rfl⟩⟩;refine ⟨_,rfl, ?_⟩))
  go_ret
  exact ⟨ye,yhb⟩
 ·
  rw [if_neg c4] at H
  have c4b0 : decide ((IntKind.u64.wrap (t436 - 1)) < 65536)=false:=decide_eq_false c4
  clear c4
  replace H:=ybi H;obtain ⟨t438,A7,H⟩:=H
  obtain rfl:=Option.some.inj H
  go_enter Try.func125,Try.ntmps125
  go_wp2_with (first|((with_reducible refine gate_callee (f:=126) rfl ?_);refine ygl 8 Try.func126 #[.int .i64 a0, .int .i64 a1] ?_;(with_reducible refine (psalteryref06_Count.calls k a0 a1 t436 _ A3.out).mono ?_);rintro e w8 ⟨rfl,hb⟩;refine ⟨_,rfl, ?_⟩;replace HB:=ybs hb;(try clear hb))|((with_reducible refine gate_callee (f:=127) rfl ?_);refine ygl 17 Try.func127 #[.int .u64 (IntKind.u64.wrap (Int.tdiv (IntKind.u64.wrap (t436 - 1)) 65536))] ?_;(with_reducible refine (psalteryref03_Log2.calls k (IntKind.u64.wrap (Int.tdiv (IntKind.u64.wrap (t436 - 1)) 65536)) t438 _ A7.out).mono ?_);rintro e w' ⟨rfl,⟨nd,rfl⟩⟩;refine ⟨_,rfl, ?_⟩))
  go_ret
  exact ⟨ye,yhb⟩
def psalteryref12_More.f (l0 : List Int) (a1 : Int) : Option (List Int):=(some (([] : List Int) : List Int)).bind fun y412=>(if y412.length+l0.length < 17592186044416 then ((some (y412 ++ l0 : List Int)).bind fun y415=>(if 0≤a1 then (if a1 < (y415.length : Int) then (some (y415.set (a1 : Int).toNat (wrap64 ((rd y415 a1)+1)))) else (none)) else (none))) else (none))
set_option maxHeartbeats 8000000 in
set_option maxRecDepth 100000 in
theorem psalteryref12_More.calls (A0 : Option Addr) (c0 : Nat) (l0 : List Int) (a1 : Int) (r : List Int) (w : World) (hr0 : Kd.C (Kd.int .i64) w A0 l0.length l0) (hc0 : l0.length≤c0) (h : psalteryref12_More.f l0 a1=some r) :
  Calls Try.prog 119 #[.slice A0 l0.length c0, .int .i64 a1] w fun e w' => ∃ v0_ : Value,e=.returned (v0_)∧Kd.R (Kd.int .i64) 3 w' w.heap.size (fun _=>True) v0_ r∧Below w.heap.size w w' := by
 have HR0:=zm hr0;have HC0:=zm hc0;clear hr0 hc0;have HB:=zm (Below.refl w.heap.size w)
 have H : ((some (([] : List Int) : List Int)).bind fun y412=>(if y412.length+l0.length < 17592186044416 then ((some (y412 ++ l0 : List Int)).bind fun y415=>(if 0≤a1 then (if a1 < (y415.length : Int) then (some (y415.set (a1 : Int).toNat (wrap64 ((rd y415 a1)+1)))) else (none)) else (none))) else (none)))=some r:=h
 clear h
 obtain ⟨y412,hy412⟩ : ∃ y_ : List Int,y_=(([] : List Int)):=⟨_,rfl⟩
 replace H : (if y412.length+l0.length < 17592186044416 then ((some (y412 ++ l0 : List Int)).bind fun y415=>(if 0≤a1 then (if a1 < (y415.length : Int) then (some (y415.set (a1 : Int).toNat (wrap64 ((rd y415 a1)+1)))) else (none)) else (none))) else (none))=some r:=yrw hy412 H
 have Ny412:=zm hy412;clear hy412
 replace H:=yif H;obtain ⟨c3,H⟩:=H
 have LMc3:=zm c3;clear c3
 obtain ⟨y415,hy415⟩ : ∃ y_ : List Int,y_=(y412 ++ l0):=⟨_,rfl⟩
 replace H : (if 0≤a1 then (if a1 < (y415.length : Int) then (some (y415.set (a1 : Int).toNat (wrap64 ((rd y415 a1)+1)))) else (none)) else (none))=some r:=yrw hy415 H
 have Ny415:=zm hy415;clear hy415
 replace H:=yif H;obtain ⟨c4,H⟩:=H
 have c4b0 : decide (0≤a1)=true:=decide_eq_true c4
 clear c4
 replace H:=yif H;obtain ⟨c5,H⟩:=H
 have c5b0 : decide (a1 < (y415.length : Int))=true:=decide_eq_true c5
 clear c5
 obtain ⟨y419,hy419⟩ : ∃ y_ : List Int,y_=(y415.set (a1 : Int).toNat (wrap64 ((rd y415 a1)+1))):=⟨_,rfl⟩
 replace H : (some y419)=some r:=yrw hy419 H
 have Ny419:=zm hy419;clear hy419
 obtain rfl:=Option.some.inj H
 go_enter Try.func119,Try.ntmps119
 go_wp2_with (first|((with_reducible refine gate_dst (N:=6) rfl ?_);refine Kd.R_lit (Kd.int .i64) _ 3 ?hg (N:=6) ?hd (xs:=([] : List Int)) (inner := []) (ok:=fun _=>True) (okp:=fun _=>True) ?hr ?hp (fun _ hk=>hk) trivial (Below.refl _ _) (Nat.le_refl _) (by simp) ?_;(case hd=>rfl);(case hg=>rfl);(case hr=>first|(go_simp;done)|(go_simp;rfl));(case hp=>exact (Reps.none _ _));intro v413 w7 ho8 hb hg_ hnew_;clear hg_ hnew_;(first|rw [← Ny412.out] at ho8|(simp only [Int.reduceToNat] at ho8;rw [← Ny412.out] at ho8));have HO414:=zm (Kd.R_lower ho8 (zE yhb));replace HB:=ybs hb;clear hb ho8)|((with_reducible refine gate_builtin (b:=.append) (xs := #[.tmp 6, .tmp 7]) rfl ?_);at_builtin;refine Kd.R_append_rows (Kd.int .i64) (w0:=w) w.heap.size rfl (.tmp 6) (.tmp 7) 55 3 (.int .i64 0) 8 rfl Try.underlying55 info3 rfl (by decide) (by omega) v413 y412 l0 _ _ _ (fun _=>True) (fun _=>False) rfl rfl ?aO ?aR (fun _ _ h=>h) (fun _ h=>h.elim) ?aF ?aB ?aS ?aL ?_;(case aR=>exact ycb HR0);(case aB=>exact yhb);(case aF=>exact (fun _ _=>trivial));(case aO=>exact (yr HO414));(case aS=>exact (zE yhb));(case aL=>have:=LMc3.out;omega);intro v416 w9 ho hb hg hat;rw [← Ny415.out] at ho;replace HB:=zm (hb);have HO417:=zm (ho);clear HO414;clear ho hb hg hat;obtain ⟨Ao10,co10,eo10⟩:=Kd.R_slice HO417.out;subst eo10;have p418 : 0≤(a1 : Int):=yt;have q418 : a1 < (y415.length : Int):=yt;obtain ⟨ad418,e418,hx418_0⟩:=Kd.at_int (Kd.R_reads' HO417.out).2.2 a1 p418 q418;cases e418;replace p418:=eq_true p418;replace q418:=eq_true q418;have p6 : 0≤(a1 : Int):=yt;have q6 : (a1 : Int) < ((y415.length : Int) : Int):=yt;obtain ⟨go6,co6,eo6,gb6,gl6,cl6,HG6⟩:=Kd.R_form HO417.out (by omega);(first|cases eo6|(injection eo6 with ea_ en_ ec_;(first|subst ea_|(injection ea_ with ea_;subst ea_));subst ec_;clear en_));have GB6:=zm gb6;have GG6:=zm HG6;clear gb6 gl6 HG6;(first|simp only [add_plain] at hx418_0|skip);obtain ⟨hx6_0,hf6_0⟩:=Kd.R_celln 0 HO417.out (a1 : Int) p6 q6;replace p6:=eq_true p6;replace q6:=eq_true q6;obtain ⟨hy11_,hz11_⟩:=Kd.R_celln 0 HO417.out (a1 : Int) (yt) (yt);have HP11:=Kd.R_putg HO417.out (a1 : Int) (wrap64 ((rd y415 a1)+1)))|((with_reducible refine gate_store (t:=3) (p:=16) rfl ?_);refine store_event (t:=3) (p:=16) (v := ?vo_w12) (w1:=(w9.setCell ⟨go6,(a1 : Int).toNat,none⟩ (.int .i64 (wrap64 ((rd y415 a1)+1))))) ?hg ?ho ?hn ?hr ?_;(case ho=>rfl);(case hg=>rfl);(case hn=>rfl);(case hr=>first|(go_simp;done)|(go_simp;rfl));intro w12 hw;have hg : w9.grownBy w12 (some go6):=(by rw [hw];exact HP11.2);have hp_ : Kd.R (Kd.int .i64) 3 w12 w.heap.size (fun _=>True) (.slice (some ⟨go6,0,none⟩) y415.length co10) y419:=(by rw [hw,Ny419.out];exact HP11.1);clear HP11;replace HO417:=zm (hp_);replace HB:=zm ((by rw [hw];exact zk (HB.out) GB6.out : Below w.heap.size w w12));clear hg hw hp_))
 go_ret
 exact ⟨_,ye,yr HO417,yhb⟩
def psalteryref12_Spent.l0 : Nat→List Int→Int→Int→Option (Int)
 | 0,_,_,_=>none
 | k+1,x0,x3,x4=>if x4 < 5 then ((psalteryref10_Width.f k x4).bind fun t439=>(if 0≤x4 then (if x4 < (x0.length : Int) then ((psalteryref06_Cost.f k t439 (rd x0 x4)).bind fun t441=>(psalteryref12_Spent.l0 k x0 (wrap64 (x3+t441)) (wrap64 (x4+1)))) else (none)) else (none))) else (some x3)
def psalteryref12_Spent.f (k : Nat) (l0 : List Int) : Option (Int):=psalteryref12_Spent.l0 k l0 0 0
theorem psalteryref12_Spent.mono_l : ∀ k,(∀ y0 y1 y2,LeO (psalteryref12_Spent.l0 k y0 y1 y2) (psalteryref12_Spent.l0 (k+1) y0 y1 y2))
 | 0=>fun _ _ _ r h=>by simp [psalteryref12_Spent.l0] at h
 | k+1=>by
  have ih0:=psalteryref12_Spent.mono_l k
  ·
   intro y0 y1 y2
   unfold psalteryref12_Spent.l0
   repeat' with_reducible first|apply ih0|apply psalteryref06_Cost.mono|apply psalteryref10_Width.mono|apply yLr|apply yLn|apply yLi|apply yLb|intro _
theorem psalteryref12_Spent.mono : ∀ a0 k,LeO (psalteryref12_Spent.f k a0) (psalteryref12_Spent.f (k+1) a0):=by
 intro a0 k
 have ih0:=psalteryref12_Spent.mono_l k
 unfold psalteryref12_Spent.f
 repeat' with_reducible first|apply ih0|apply psalteryref06_Cost.mono|apply psalteryref10_Width.mono|apply yLr|apply yLn|apply yLi|apply yLb|intro _
def psalteryref12_Spent.T5 : Bool × List (List Nat × List Nat):=(true, [([], []),([], []),([1], [1]),([], []),([], []),([3,4], [3,4]),([5], [5]),([2,6,2], [2,6]),([0,7], [0,7]),([8,7,0,1,2,3,4,5,6,7,8], [0,8])])
def psalteryref12_Spent.B5 : List Nat := [0,0,2,0,0,24,56,126,255,511]
theorem psalteryref12_Spent.tab5 : rtab .any (opsOf Try.f123 5)=psalteryref12_Spent.T5:=by kernel_rfl
theorem psalteryref12_Spent.bits5 : waitsOk psalteryref12_Spent.T5.2 psalteryref12_Spent.B5=true:=by kernel_rfl
set_option maxHeartbeats 8000000 in
set_option maxRecDepth 100000 in
theorem psalteryref12_Spent.calls (k : Nat) (A0 : Option Addr) (c0 : Nat) (l0 : List Int) (r : Int) (w : World) (hr0 : Kd.C (Kd.int .i64) w A0 l0.length l0) (hc0 : l0.length≤c0) (h : psalteryref12_Spent.f k l0=some r) :
  Calls Try.prog 123 #[.slice A0 l0.length c0] w fun e w' => e=.returned (.int .i64 r)∧Below w.heap.size w w' := by
 have HR0:=zm hr0;have HC0:=zm hc0;clear hr0 hc0;have HB:=zm (Below.refl w.heap.size w)
 have H : (psalteryref12_Spent.l0 k l0 0 0)=some r:=h
 clear h
 have H' := zm H
 clear H
 go_enter Try.func123,Try.ntmps123
 go_wp2
 go_loopg [3,4] k (fun kq v3 v4 w' => ∃ (x3_1 : Int) (x4_1 : Int),v3=.int .i64 x3_1∧v4=.int .i64 x4_1∧Aside0 (psalteryref12_Spent.l0 kq l0 x3_1 x4_1=some r)∧Aside0 (kq≤k)∧Aside0 (Below w.heap.size w w'))
 case atStart=>exact ⟨(0),(0),yq,yq,H',⟨Nat.le_refl _⟩,⟨yhb⟩⟩
 case round =>
  clear H'
  obtain ⟨x3_1,x4_1,rfl,rfl,HA,HK1,HB⟩:=hrel
  obtain ⟨k1,rfl⟩:=ysu gk (fun h=>by subst h;exact absurd HA.out (by simp [psalteryref12_Spent.l0]))
  have H:=HA.out;clear HA
  simp only [psalteryref12_Spent.l0] at H
  by_cases c2 : x4_1 < 5
  ·
   rw [if_pos c2] at H
   have c2b0 : decide (x4_1 < 5)=true:=decide_eq_true c2
   clear c2
   replace H:=ybi H;obtain ⟨t439,A3,H⟩:=H
   replace H:=yif H;obtain ⟨c4,H⟩:=H
   have c4b0 : decide (0≤x4_1)=true:=decide_eq_true c4
   clear c4
   replace H:=yif H;obtain ⟨c5,H⟩:=H
   have c5b0 : decide (x4_1 < (l0.length : Int))=true:=decide_eq_true c5
   clear c5
   replace H:=ybi H;obtain ⟨t441,A6,H⟩:=H
   have H' := zm H
   clear H
   try go_wp2
   replace HB:=zm (zf HB.out)
   have p440 : 0≤(x4_1 : Int):=yt
   have q440 : x4_1 < (l0.length : Int):=yt
   obtain ⟨ad440,e440,hx440_0⟩:=Kd.at_int HR0.out x4_1 p440 q440
   have hw440_0:=hx440_0
   cases e440
   replace hx440_0:=yhx HB hx440_0
   replace p440:=eq_true p440
   replace q440:=eq_true q440
   refine start_ (n:=10) (S:=fun w' => w'.cell? (ad440.add (x4_1).toNat)=some (.int .i64 (rd l0 x4_1))) (ds := []) #[false,false,false,false,false,false,false,false,false,false] (by kernel_rfl) rfl rfl ((yhx HB hw440_0 :)) (fun hHeld => ?_);refine with_tabW psalteryref12_Spent.tab5 psalteryref12_Spent.bits5 (fun HT_ HW_ => ?_)
   generalize wr.drew=w7 at HB hx440_0 hHeld ⊢
   refine yp 0 9 HT_ ?_
   refine yp 1 10 HT_ ?_
   refine yp 3 12 HT_ ?_
   refine yp 4 13 HT_ ?_
   refine yp 5 14 HT_ ?_
   refine yl 6 15 HT_ HW_ hHeld ?_
   refine yw 2 11 HT_ (fun K hK => ?_)
   refine ygs Try.func65 #[.int .i64 x4_1] ?_
   with_reducible refine (psalteryref10_Width.calls k1 x4_1 t439 _ A3.out).mono ?_
   rintro e w' ⟨rfl,⟨nd,rfl⟩⟩
   refine ⟨_,rfl, ?_⟩
   refine hK.out _ _ ((yhx HB hw440_0 :)) (fun hHeld => ?_)
   clear hK K
   refine ym (some 11) ?_
   refine yw 7 16 HT_ (fun K hK => ?_)
   refine ygs Try.func125 #[.int .i64 t439, .int .i64 (rd l0 x4_1)] ?_
   with_reducible refine (psalteryref06_Cost.calls k1 t439 (rd l0 x4_1) t441 _ A6.out).mono ?_
   rintro e w8 ⟨rfl,hb⟩
   refine ⟨_,rfl, ?_⟩
   replace HB:=ybs hb
   (try clear hb)
   refine hK.out _ _ ((yhx HB hw440_0 :)) (fun hHeld => ?_)
   clear hK K
   refine ym (some 16) ?_
   refine yp 8 17 HT_ ?_
   refine yp 9 3 HT_ ?_
   refine done_ (done_of HT_.out (by kernel_rfl)) ?_
   try go_wp2
   go_roundg k1
   case measure=>exact yom1 HK1
   case rel=>exact ⟨(wrap64 (x3_1+t441)),(wrap64 (x4_1+1)),yq,yq,H',⟨yom1 HK1⟩,⟨yhb⟩⟩
  ·
   rw [if_neg c2] at H
   have c2b0 : decide (x4_1 < 5)=false:=decide_eq_false c2
   clear c2
   obtain rfl:=Option.some.inj H
   go_wp2
   go_ret
   exact ⟨ye,yhb⟩
def psalteryref12_May.j0 : Nat→List Int→Int→Int→Bool→Option (Bool)
 | 0,_,_,_,_=>none
 | k+1,x1,x2,x3,x32=>if x32=true then (some false) else ((psalteryref12_More.f x1 x2).bind fun t446=>((psalteryref12_Spent.f k t446).bind fun t449=>(some (decide (t449≤x3)))))
def psalteryref12_May.f (k : Nat) (l0 : List Int) (l1 : List Int) (a2 : Int) (a3 : Int) : Option (Bool):=if 0≤a2 then (if a2 < (l0.length : Int) then (if (rd l0 a2) < 1 then (psalteryref12_May.j0 k l1 a2 a3 true) else (if a2 < (l1.length : Int) then (if (rd l1 a2) ≥ 12 then (psalteryref12_May.j0 k l1 a2 a3 true) else ((psalteryref10_Width.f k a2).bind fun t444=>(if t444=1 then (psalteryref12_May.j0 k l1 a2 a3 (decide ((rd l1 a2) > 0))) else (psalteryref12_May.j0 k l1 a2 a3 false)))) else (none))) else (none)) else (none)
theorem psalteryref12_May.mono_l : ∀ k,(∀ y0 y1 y2 y3,LeO (psalteryref12_May.j0 k y0 y1 y2 y3) (psalteryref12_May.j0 (k+1) y0 y1 y2 y3))
 | 0=>fun _ _ _ _ r h=>by simp [psalteryref12_May.j0] at h
 | k+1=>by
  have ih0:=psalteryref12_May.mono_l k
  ·
   intro y0 y1 y2 y3
   unfold psalteryref12_May.j0
   repeat' with_reducible first|apply ih0|apply psalteryref10_Width.mono|apply psalteryref12_Spent.mono|apply yLr|apply yLn|apply yLi|apply yLb|intro _
theorem psalteryref12_May.mono : ∀ a0 a1 a2 a3 k,LeO (psalteryref12_May.f k a0 a1 a2 a3) (psalteryref12_May.f (k+1) a0 a1 a2 a3):=by
 intro a0 a1 a2 a3 k
 have ih0:=psalteryref12_May.mono_l k
 unfold psalteryref12_May.f
 repeat' with_reducible first|apply ih0|apply psalteryref10_Width.mono|apply psalteryref12_Spent.mono|apply yLr|apply yLn|apply yLi|apply yLb|intro _
set_option maxHeartbeats 8000000 in
set_option maxRecDepth 100000 in
theorem psalteryref12_May.calls (k : Nat) (A0 : Option Addr) (c0 : Nat) (l0 : List Int) (A1 : Option Addr) (c1 : Nat) (l1 : List Int) (a2 : Int) (a3 : Int) (r : Bool) (w : World) (hr0 : Kd.C (Kd.int .i64) w A0 l0.length l0) (hc0 : l0.length≤c0) (hr1 : Kd.C (Kd.int .i64) w A1 l1.length l1) (hc1 : l1.length≤c1) (h : psalteryref12_May.f k l0 l1 a2 a3=some r) :
  Calls Try.prog 118 #[.slice A0 l0.length c0, .slice A1 l1.length c1, .int .i64 a2, .int .i64 a3] w fun e w' => e=.returned (.bool r)∧Below w.heap.size w w' := by
 have HR0:=zm hr0;have HC0:=zm hc0;clear hr0 hc0;have HR1:=zm hr1;have HC1:=zm hc1;clear hr1 hc1;have HB:=zm (Below.refl w.heap.size w)
 have H : (if 0≤a2 then (if a2 < (l0.length : Int) then (if (rd l0 a2) < 1 then (psalteryref12_May.j0 k l1 a2 a3 true) else (if a2 < (l1.length : Int) then (if (rd l1 a2) ≥ 12 then (psalteryref12_May.j0 k l1 a2 a3 true) else ((psalteryref10_Width.f k a2).bind fun t444=>(if t444=1 then (psalteryref12_May.j0 k l1 a2 a3 (decide ((rd l1 a2) > 0))) else (psalteryref12_May.j0 k l1 a2 a3 false)))) else (none))) else (none)) else (none))=some r:=h
 clear h;have HC5:=zm H;clear H
 go_enter Try.func118,Try.ntmps118
 go_upto_region 1 with (fail)
 go_cut [32] (fun v32 wc => ∃ (kq : Nat) (x32_4 : Bool),v32=.bool x32_4∧Aside0 (psalteryref12_May.j0 kq l1 a2 a3 x32_4=some r)∧Aside0 (kq≤k)∧Aside0 (Below w.heap.size w wc))
 case first =>
  have H:=HC5.out;clear HC5
  replace H:=yif H;obtain ⟨c6,H⟩:=H
  have c6b0 : decide (0≤a2)=true:=decide_eq_true c6
  clear c6
  (first|rw [c6b0]|(simp only [i64_w,i32_w];rw [c6b0])|skip)
  replace H:=yif H;obtain ⟨c7,H⟩:=H
  have c7b0 : decide (a2 < (l0.length : Int))=true:=decide_eq_true c7
  clear c7
  by_cases c8 : (rd l0 a2) < 1
  ·
   rw [if_pos c8] at H
   have c8b0 : decide ((rd l0 a2) < 1)=true:=decide_eq_true c8
   clear c8
   have H' := zm H
   clear H
   have p442 : 0≤(a2 : Int):=yt
   have q442 : a2 < (l0.length : Int):=yt
   obtain ⟨ad442,e442,hx442_0⟩:=Kd.at_int HR0.out a2 p442 q442
   cases e442
   replace hx442_0:=yhx HB hx442_0
   replace p442:=eq_true p442
   replace q442:=eq_true q442
   go_wp2
   go_meet
   case rel=>exact ⟨_,(true),yq,H',⟨yo⟩,⟨yhb⟩⟩
  ·
   rw [if_neg c8] at H
   have c8b0 : decide ((rd l0 a2) < 1)=false:=decide_eq_false c8
   clear c8
   replace H:=yif H;obtain ⟨c9,H⟩:=H
   have c9b0 : decide (a2 < (l1.length : Int))=true:=decide_eq_true c9
   clear c9
   by_cases c10 : (rd l1 a2) ≥ 12
   ·
    rw [if_pos c10] at H
    have c10b0 : decide (12≤(rd l1 a2))=true:=decide_eq_true c10
    clear c10
    have H' := zm H
    clear H
    have p442 : 0≤(a2 : Int):=yt
    have q442 : a2 < (l0.length : Int):=yt
    obtain ⟨ad442,e442,hx442_0⟩:=Kd.at_int HR0.out a2 p442 q442
    cases e442
    replace hx442_0:=yhx HB hx442_0
    replace p442:=eq_true p442
    replace q442:=eq_true q442
    have p443 : 0≤(a2 : Int):=yt
    have q443 : a2 < (l1.length : Int):=yt
    obtain ⟨ad443,e443,hx443_0⟩:=Kd.at_int HR1.out a2 p443 q443
    cases e443
    replace hx443_0:=yhx HB hx443_0
    replace p443:=eq_true p443
    replace q443:=eq_true q443
    go_wp2
    go_meet
    case rel=>exact ⟨_,(true),yq,H',⟨yo⟩,⟨yhb⟩⟩
   ·
    rw [if_neg c10] at H
    have c10b0 : decide (12≤(rd l1 a2))=false:=decide_eq_false c10
    clear c10
    replace H:=ybi H;obtain ⟨t444,A11,H⟩:=H
    by_cases c12 : t444=1
    ·
     rw [if_pos c12] at H
     have c12b0 : (t444 == 1)=true:=beq_iff_eq.mpr c12
     have c12b1 : (t444 != 1)=false:=bne_eq_false_iff_eq.mpr c12
     clear c12
     have H' := zm H
     clear H
     have p442 : 0≤(a2 : Int):=yt
     have q442 : a2 < (l0.length : Int):=yt
     obtain ⟨ad442,e442,hx442_0⟩:=Kd.at_int HR0.out a2 p442 q442
     cases e442
     replace hx442_0:=yhx HB hx442_0
     replace p442:=eq_true p442
     replace q442:=eq_true q442
     have p443 : 0≤(a2 : Int):=yt
     have q443 : a2 < (l1.length : Int):=yt
     obtain ⟨ad443,e443,hx443_0⟩:=Kd.at_int HR1.out a2 p443 q443
     cases e443
     replace hx443_0:=yhx HB hx443_0
     replace p443:=eq_true p443
     replace q443:=eq_true q443
     go_wp2_with (first|(go_at_call 65;(with_reducible refine (psalteryref10_Width.calls k a2 t444 _ A11.out).mono ?_);rintro e w' ⟨rfl,⟨nd,rfl⟩⟩;have p445 : 0≤(a2 : Int):=yt;have q445 : a2 < (l1.length : Int):=yt;obtain ⟨ad445,e445,hx445_0⟩:=Kd.at_int HR1.out a2 p445 q445;obtain rfl : ad443=ad445:=(by injection e445);replace hx445_0:=yhx HB hx445_0;replace p445:=eq_true p445;replace q445:=eq_true q445))
     go_meet
     case rel=>exact ⟨_,(decide ((rd l1 a2) > 0)),yq,H',⟨yo⟩,⟨yhb⟩⟩
    ·
     rw [if_neg c12] at H
     have c12b0 : (t444 == 1)=false:=beq_eq_false_iff_ne.mpr c12
     have c12b1 : (t444 != 1)=true:=bne_iff_ne.mpr c12
     have H' := zm H
     clear H
     have p442 : 0≤(a2 : Int):=yt
     have q442 : a2 < (l0.length : Int):=yt
     obtain ⟨ad442,e442,hx442_0⟩:=Kd.at_int HR0.out a2 p442 q442
     cases e442
     replace hx442_0:=yhx HB hx442_0
     replace p442:=eq_true p442
     replace q442:=eq_true q442
     have p443 : 0≤(a2 : Int):=yt
     have q443 : a2 < (l1.length : Int):=yt
     obtain ⟨ad443,e443,hx443_0⟩:=Kd.at_int HR1.out a2 p443 q443
     cases e443
     replace hx443_0:=yhx HB hx443_0
     replace p443:=eq_true p443
     replace q443:=eq_true q443
     go_wp2_with (first|(go_at_call 65;(with_reducible refine (psalteryref10_Width.calls k a2 t444 _ A11.out).mono ?_);rintro e w' ⟨rfl,⟨nd,rfl⟩⟩))
     go_meet
     case rel=>exact ⟨_,(false),yq,H',⟨yo⟩,⟨yhb⟩⟩
 case rest =>
  clear HC5
  try clear c1
  obtain ⟨kq,x32_4,rfl,HA,HJ4,HB⟩:=hcut
  obtain ⟨kj4,rfl⟩:=ysu kq (fun h=>by subst h;exact absurd HA.out (by simp [psalteryref12_May.j0]))
  have H:=HA.out;clear HA
  simp only [psalteryref12_May.j0] at H
  by_cases c13 : x32_4=true
  ·
   subst c13
   rw [if_pos rfl] at H
   obtain rfl:=Option.some.inj H
   go_wp2
   go_ret
   exact ⟨ye,yhb⟩
  ·
   replace c13:=Bool.eq_false_iff.mpr c13
   subst c13
   rw [ynf] at H
   replace H:=ybi H;obtain ⟨t446,A14,H⟩:=H
   replace H:=ybi H;obtain ⟨t449,A15,H⟩:=H
   obtain rfl:=Option.some.inj H
   go_wp2_with (first|((with_reducible refine gate_callee (f:=119) rfl ?_);refine ygl 35 Try.func119 #[.slice A1 l1.length c1, .int .i64 a2] ?_;(with_reducible refine (psalteryref12_More.calls _ _ l1 a2 t446 _ ?side1 HC1.out A14.out).mono ?_);(case side1=>exact ycb HR1);rintro e w16 ⟨v447,rfl,ho0,hb⟩;refine ⟨_,rfl, ?_⟩;have HO448:=zm (Kd.R_lower ho0 (zE yhb));replace HB:=ybs hb;(try clear hb);(try clear ho0);obtain ⟨Ao17,co17,eo17⟩:=Kd.R_slice HO448.out;subst eo17)|((with_reducible refine gate_callee (f:=123) rfl ?_);refine ygl 36 Try.func123 #[.slice Ao17 t446.length co17] ?_;(with_reducible refine (psalteryref12_Spent.calls kj4 _ _ t446 t449 _ ?side1 ?side2 A15.out).mono ?_);(case side1=>exact yce (Kd.R_reads' HO448.out).2.2);(case side2=>exact (Kd.R_reads' HO448.out).2.1);rintro e w18 ⟨rfl,hb⟩;refine ⟨_,rfl, ?_⟩;replace HO448:=yRb HO448 hb;replace HB:=ybs hb;(try clear hb)))
   go_ret
   exact ⟨ye,yhb⟩
mutual
def psalteryref12_Channel.l0 : Nat→List Int→Int→List Int→Option (List Int)
 | 0,_,_,_=>none
 | k+1,x0,x1,x5=>psalteryref12_Channel.l1 k x0 x1 x5 (-1) 0 0
def psalteryref12_Channel.l1 : Nat→List Int→Int→List Int→Int→Int→Int→Option (List Int)
 | 0,_,_,_,_,_,_=>none
 | k+1,x0,x1,x5,x6,x7,x8=>if x8 < 5 then (if 0≤x8 then (if x8 < (x0.length : Int) then (if x8 < (x5.length : Int) then ((psalteryref10_Width.f k x8).bind fun t458=>(if t458=0 then (none) else ((psalteryref12_May.f k x0 x5 x8 x1).bind fun t459=>(if t459=true then (if x6 < 0 then (psalteryref12_Channel.l1 k x0 x1 x5 x8 (wrap64 ((wrap64 (8 * (rd x0 x8))) - (wrap64 (Int.tdiv (wrap64 (16 * (rd x5 x8))) t458)))) (wrap64 (x8+1))) else (if (wrap64 ((wrap64 (8 * (rd x0 x8))) - (wrap64 (Int.tdiv (wrap64 (16 * (rd x5 x8))) t458)))) > x7 then (psalteryref12_Channel.l1 k x0 x1 x5 x8 (wrap64 ((wrap64 (8 * (rd x0 x8))) - (wrap64 (Int.tdiv (wrap64 (16 * (rd x5 x8))) t458)))) (wrap64 (x8+1))) else (psalteryref12_Channel.l1 k x0 x1 x5 x6 x7 (wrap64 (x8+1))))) else (psalteryref12_Channel.l1 k x0 x1 x5 x6 x7 (wrap64 (x8+1))))))) else (none)) else (none)) else (none)) else (if x6 < 0 then (some x5) else ((psalteryref12_More.f x5 x6).bind fun t453=>(psalteryref12_Channel.l0 k x0 x1 t453)))
end
def psalteryref12_Channel.f (k : Nat) (l0 : List Int) (a1 : Int) : Option (List Int):=psalteryref12_Channel.l0 k l0 a1 (([0,0,0,0,0] : List Int))
theorem psalteryref12_Channel.mono_l : ∀ k,(∀ y0 y1 y2,LeO (psalteryref12_Channel.l0 k y0 y1 y2) (psalteryref12_Channel.l0 (k+1) y0 y1 y2))∧(∀ y0 y1 y2 y3 y4 y5,LeO (psalteryref12_Channel.l1 k y0 y1 y2 y3 y4 y5) (psalteryref12_Channel.l1 (k+1) y0 y1 y2 y3 y4 y5))
 | 0=>⟨fun _ _ _ r h=>by simp [psalteryref12_Channel.l0] at h,fun _ _ _ _ _ _ r h=>by simp [psalteryref12_Channel.l1] at h⟩
 | k+1=>by
  obtain ⟨ih0,ih1⟩:=psalteryref12_Channel.mono_l k
  refine ⟨?_, ?_⟩
  ·
   intro y0 y1 y2
   unfold psalteryref12_Channel.l0
   repeat' with_reducible first|apply ih0|apply ih1|apply psalteryref10_Width.mono|apply psalteryref12_May.mono|apply yLr|apply yLn|apply yLi|apply yLb|intro _
  ·
   intro y0 y1 y2 y3 y4 y5
   unfold psalteryref12_Channel.l1
   repeat' with_reducible first|apply ih0|apply ih1|apply psalteryref10_Width.mono|apply psalteryref12_May.mono|apply yLr|apply yLn|apply yLi|apply yLb|intro _
theorem psalteryref12_Channel.mono : ∀ a0 a1 k,LeO (psalteryref12_Channel.f k a0 a1) (psalteryref12_Channel.f (k+1) a0 a1):=by
 intro a0 a1 k
 obtain ⟨ih0,ih1⟩:=psalteryref12_Channel.mono_l k
 unfold psalteryref12_Channel.f
 repeat' with_reducible first|apply ih0|apply ih1|apply psalteryref10_Width.mono|apply psalteryref12_May.mono|apply yLr|apply yLn|apply yLi|apply yLb|intro _
set_option maxHeartbeats 8000000 in
set_option maxRecDepth 100000 in
theorem psalteryref12_Channel.calls (k : Nat) (A0 : Option Addr) (c0 : Nat) (l0 : List Int) (a1 : Int) (r : List Int) (w : World) (hr0 : Kd.C (Kd.int .i64) w A0 l0.length l0) (hc0 : l0.length≤c0) (h : psalteryref12_Channel.f k l0 a1=some r) :
  Calls Try.prog 97 #[.slice A0 l0.length c0, .int .i64 a1] w fun e w' => ∃ v0_ : Value,e=.returned (v0_)∧Kd.R (Kd.int .i64) 3 w' w.heap.size (fun _=>True) v0_ r∧Below w.heap.size w w' := by
 have HR0:=zm hr0;have HC0:=zm hc0;clear hr0 hc0;have HB:=zm (Below.refl w.heap.size w)
 have H : (psalteryref12_Channel.l0 k l0 a1 (([0,0,0,0,0] : List Int)))=some r:=h
 clear h
 obtain ⟨y450,hy450⟩ : ∃ y_ : List Int,y_=(([0,0,0,0,0] : List Int)):=⟨_,rfl⟩
 replace H : (psalteryref12_Channel.l0 k l0 a1 y450)=some r:=yrw hy450 H
 have Ny450:=zm hy450;clear hy450
 have H' := zm H
 clear H
 go_enter Try.func97,Try.ntmps97
 go_wp2_with (first|((with_reducible refine gate_dst (N:=10) rfl ?_);refine Kd.R_lit (Kd.int .i64) _ 3 ?hg (N:=10) ?hd (xs:=([0,0,0,0,0] : List Int)) (inner := [.int .i64 0, .int .i64 0, .int .i64 0, .int .i64 0, .int .i64 0]) (ok:=fun _=>True) (okp:=fun _=>True) ?hr ?hp (fun _ hk=>hk) trivial (Below.refl _ _) (Nat.le_refl _) (by simp) ?_;(case hd=>rfl);(case hg=>rfl);(case hr=>first|(go_simp;done)|(go_simp;rfl));(case hp=>exact (Reps.one (show Kd.M (Kd.int .i64) _ _ _ 0 [.int .i64 0] from rfl) (Reps.one (show Kd.M (Kd.int .i64) _ _ _ 0 [.int .i64 0] from rfl) (Reps.one (show Kd.M (Kd.int .i64) _ _ _ 0 [.int .i64 0] from rfl) (Reps.one (show Kd.M (Kd.int .i64) _ _ _ 0 [.int .i64 0] from rfl) (Reps.one (show Kd.M (Kd.int .i64) _ _ _ 0 [.int .i64 0] from rfl) (Reps.none _ _)))))));intro v451 w3 ho4 hb hg_ hnew_;clear hg_ hnew_;(first|rw [← Ny450.out] at ho4|(simp only [Int.reduceToNat] at ho4;rw [← Ny450.out] at ho4));have HO452:=zm (Kd.R_lower ho4 (zE yhb));replace HB:=ybs hb;clear hb ho4))
 repeat (go_quiet (first|((with_reducible refine gate_dst (N:=10) rfl ?_);refine Kd.R_lit (Kd.int .i64) _ 3 ?hg (N:=10) ?hd (xs:=([0,0,0,0,0] : List Int)) (inner := [.int .i64 0, .int .i64 0, .int .i64 0, .int .i64 0, .int .i64 0]) (ok:=fun _=>True) (okp:=fun _=>True) ?hr ?hp (fun _ hk=>hk) trivial (Below.refl _ _) (Nat.le_refl _) (by simp) ?_;(case hd=>rfl);(case hg=>rfl);(case hr=>first|(go_simp;done)|(go_simp;rfl));(case hp=>exact (Reps.one (show Kd.M (Kd.int .i64) _ _ _ 0 [.int .i64 0] from rfl) (Reps.one (show Kd.M (Kd.int .i64) _ _ _ 0 [.int .i64 0] from rfl) (Reps.one (show Kd.M (Kd.int .i64) _ _ _ 0 [.int .i64 0] from rfl) (Reps.one (show Kd.M (Kd.int .i64) _ _ _ 0 [.int .i64 0] from rfl) (Reps.one (show Kd.M (Kd.int .i64) _ _ _ 0 [.int .i64 0] from rfl) (Reps.none _ _)))))));intro v451 w3 ho4 hb hg_ hnew_;clear hg_ hnew_;(first|rw [← Ny450.out] at ho4|(simp only [Int.reduceToNat] at ho4;rw [← Ny450.out] at ho4));have HO452:=zm (Kd.R_lower ho4 (zE yhb));replace HB:=ybs hb;clear hb ho4));try go_wp2_with (first|((with_reducible refine gate_dst (N:=10) rfl ?_);refine Kd.R_lit (Kd.int .i64) _ 3 ?hg (N:=10) ?hd (xs:=([0,0,0,0,0] : List Int)) (inner := [.int .i64 0, .int .i64 0, .int .i64 0, .int .i64 0, .int .i64 0]) (ok:=fun _=>True) (okp:=fun _=>True) ?hr ?hp (fun _ hk=>hk) trivial (Below.refl _ _) (Nat.le_refl _) (by simp) ?_;(case hd=>rfl);(case hg=>rfl);(case hr=>first|(go_simp;done)|(go_simp;rfl));(case hp=>exact (Reps.one (show Kd.M (Kd.int .i64) _ _ _ 0 [.int .i64 0] from rfl) (Reps.one (show Kd.M (Kd.int .i64) _ _ _ 0 [.int .i64 0] from rfl) (Reps.one (show Kd.M (Kd.int .i64) _ _ _ 0 [.int .i64 0] from rfl) (Reps.one (show Kd.M (Kd.int .i64) _ _ _ 0 [.int .i64 0] from rfl) (Reps.one (show Kd.M (Kd.int .i64) _ _ _ 0 [.int .i64 0] from rfl) (Reps.none _ _)))))));intro v451 w3 ho4 hb hg_ hnew_;clear hg_ hnew_;(first|rw [← Ny450.out] at ho4|(simp only [Int.reduceToNat] at ho4;rw [← Ny450.out] at ho4));have HO452:=zm (Kd.R_lower ho4 (zE yhb));replace HB:=ybs hb;clear hb ho4)))
 go_loopg [5] k (fun kq v5 w' => ∃ (x5_1 : List Int),Aside0 (psalteryref12_Channel.l0 kq l0 a1 x5_1=some r)∧Aside0 (kq≤k)∧Aside0 (Kd.R (Kd.int .i64) 3 w' w.heap.size (fun _=>True) v5 x5_1)∧Aside0 (Below w.heap.size w w'))
 case atStart=>exact ⟨(y450),H',⟨Nat.le_refl _⟩,⟨yr HO452⟩,⟨yhb⟩⟩
 case round =>
  clear H'
  obtain ⟨x5_1,HA,HK1,HO_5,HB⟩:=hrel
  obtain ⟨k1,rfl⟩:=ysu gk (fun h=>by subst h;exact absurd HA.out (by simp [psalteryref12_Channel.l0]))
  have H:=HA.out;clear HA
  simp only [psalteryref12_Channel.l0] at H
  have H' := zm H
  clear H
  go_wp2
  repeat (go_quiet (fail);try go_wp2)
  go_loopg [6,7,8] k1 (fun kq v6 v7 v8 w' => ∃ (x6_2 : Int) (x7_2 : Int) (x8_2 : Int),v6=.int .i64 x6_2∧v7=.int .i64 x7_2∧v8=.int .i64 x8_2∧Aside0 (psalteryref12_Channel.l1 kq l0 a1 x5_1 x6_2 x7_2 x8_2=some r)∧Aside0 (kq≤k1)∧Aside0 (Kd.R (Kd.int .i64) 3 w' w.heap.size (fun _=>True) u5 x5_1)∧Aside0 (Below w.heap.size w w'))
  case atStart=>exact ⟨((-1)),(0),(0),yq,yq,yq,H',⟨Nat.le_refl _⟩,⟨yr HO_5⟩,⟨yhb⟩⟩
  case round =>
   clear H'
   obtain ⟨x6_2,x7_2,x8_2,rfl,rfl,rfl,HA,HK2,HO_5,HB⟩:=hrel
   obtain ⟨k2,rfl⟩:=ysu gk (fun h=>by subst h;exact absurd HA.out (by simp [psalteryref12_Channel.l1]))
   have H:=HA.out;clear HA
   simp only [psalteryref12_Channel.l1] at H
   by_cases c5 : x8_2 < 5
   ·
    rw [if_pos c5] at H
    have c5b0 : decide (x8_2 < 5)=true:=decide_eq_true c5
    clear c5
    replace H:=yif H;obtain ⟨c6,H⟩:=H
    have c6b0 : decide (0≤x8_2)=true:=decide_eq_true c6
    clear c6
    replace H:=yif H;obtain ⟨c7,H⟩:=H
    have c7b0 : decide (x8_2 < (l0.length : Int))=true:=decide_eq_true c7
    clear c7
    replace H:=yif H;obtain ⟨c8,H⟩:=H
    have c8b0 : decide (x8_2 < (x5_1.length : Int))=true:=decide_eq_true c8
    clear c8
    replace H:=ybi H;obtain ⟨t458,A9,H⟩:=H
    replace H:=yie H;obtain ⟨c10,H⟩:=H
    have c10b0 : (t458 == 0)=false:=beq_eq_false_iff_ne.mpr c10
    have c10b1 : (t458 != 0)=true:=bne_iff_ne.mpr c10
    replace H:=ybi H;obtain ⟨t459,A11,H⟩:=H
    by_cases c12 : t459=true
    ·
     subst c12
     rw [if_pos rfl] at H
     by_cases c13 : x6_2 < 0
     ·
      rw [if_pos c13] at H
      have c13b0 : decide (x6_2 < 0)=true:=decide_eq_true c13
      clear c13
      have H' := zm H
      clear H
      have p456 : 0≤(x8_2 : Int):=yt
      have q456 : x8_2 < (l0.length : Int):=yt
      obtain ⟨ad456,e456,hx456_0⟩:=Kd.at_int HR0.out x8_2 p456 q456
      cases e456
      replace hx456_0:=yhx HB hx456_0
      replace p456:=eq_true p456
      replace q456:=eq_true q456
      obtain ⟨Ao14,co14,eo14⟩:=Kd.R_slice HO_5.out
      subst eo14
      have p457 : 0≤(x8_2 : Int):=yt
      have q457 : x8_2 < (x5_1.length : Int):=yt
      obtain ⟨ad457,e457,hx457_0⟩:=Kd.at_int (Kd.R_reads' HO_5.out).2.2 x8_2 p457 q457
      cases e457
      replace p457:=eq_true p457
      replace q457:=eq_true q457
      go_wp2_with (first|(go_at_call 65;(with_reducible refine (psalteryref10_Width.calls k2 x8_2 t458 _ A9.out).mono ?_);rintro e w' ⟨rfl,⟨nd,rfl⟩⟩;(try exact yww))|(go_at_call 118;(with_reducible refine (psalteryref12_May.calls k2 _ _ l0 _ _ x5_1 x8_2 a1 true _ ?side1 HC0.out ?side3 ?side4 A11.out).mono ?_);(case side1=>exact ycb HR0);(case side3=>exact yce (Kd.R_reads' HO_5.out).2.2);(case side4=>exact (Kd.R_reads' HO_5.out).2.1);rintro e w15 ⟨rfl,hb⟩;replace HO_5:=yRb HO_5 hb;replace HB:=ybs hb;(try clear hb)))
      repeat (go_quiet (first|(go_at_call 65;(with_reducible refine (psalteryref10_Width.calls k2 x8_2 t458 _ A9.out).mono ?_);rintro e w' ⟨rfl,⟨nd,rfl⟩⟩;(try exact yww))|(go_at_call 118;(with_reducible refine (psalteryref12_May.calls k2 _ _ l0 _ _ x5_1 x8_2 a1 true _ ?side1 HC0.out ?side3 ?side4 A11.out).mono ?_);(case side1=>exact ycb HR0);(case side3=>exact yce (Kd.R_reads' HO_5.out).2.2);(case side4=>exact (Kd.R_reads' HO_5.out).2.1);rintro e w15 ⟨rfl,hb⟩;replace HO_5:=yRb HO_5 hb;replace HB:=ybs hb;(try clear hb)));try go_wp2_with (first|(go_at_call 65;(with_reducible refine (psalteryref10_Width.calls k2 x8_2 t458 _ A9.out).mono ?_);rintro e w' ⟨rfl,⟨nd,rfl⟩⟩;(try exact yww))|(go_at_call 118;(with_reducible refine (psalteryref12_May.calls k2 _ _ l0 _ _ x5_1 x8_2 a1 true _ ?side1 HC0.out ?side3 ?side4 A11.out).mono ?_);(case side1=>exact ycb HR0);(case side3=>exact yce (Kd.R_reads' HO_5.out).2.2);(case side4=>exact (Kd.R_reads' HO_5.out).2.1);rintro e w15 ⟨rfl,hb⟩;replace HO_5:=yRb HO_5 hb;replace HB:=ybs hb;(try clear hb))))
      go_roundg k2
      case measure=>exact yom2 HK1 HK2
      case rel=>exact ⟨(x8_2),(wrap64 ((wrap64 (8 * (rd l0 x8_2))) - (wrap64 (Int.tdiv (wrap64 (16 * (rd x5_1 x8_2))) t458)))),(wrap64 (x8_2+1)),yq,yq,yq,H',⟨yom2 HK1 HK2⟩,⟨yr HO_5⟩,⟨yhb⟩⟩
     ·
      rw [if_neg c13] at H
      have c13b0 : decide (x6_2 < 0)=false:=decide_eq_false c13
      clear c13
      by_cases c16 : (wrap64 ((wrap64 (8 * (rd l0 x8_2))) - (wrap64 (Int.tdiv (wrap64 (16 * (rd x5_1 x8_2))) t458)))) > x7_2
      ·
       rw [if_pos c16] at H
       have c16b0 : decide (x7_2 < (wrap64 ((wrap64 (8 * (rd l0 x8_2))) - (wrap64 (Int.tdiv (wrap64 (16 * (rd x5_1 x8_2))) t458)))))=true:=decide_eq_true c16
       clear c16
       have H' := zm H
       clear H
       have p456 : 0≤(x8_2 : Int):=yt
       have q456 : x8_2 < (l0.length : Int):=yt
       obtain ⟨ad456,e456,hx456_0⟩:=Kd.at_int HR0.out x8_2 p456 q456
       cases e456
       replace hx456_0:=yhx HB hx456_0
       replace p456:=eq_true p456
       replace q456:=eq_true q456
       obtain ⟨Ao17,co17,eo17⟩:=Kd.R_slice HO_5.out
       subst eo17
       have p457 : 0≤(x8_2 : Int):=yt
       have q457 : x8_2 < (x5_1.length : Int):=yt
       obtain ⟨ad457,e457,hx457_0⟩:=Kd.at_int (Kd.R_reads' HO_5.out).2.2 x8_2 p457 q457
       cases e457
       replace p457:=eq_true p457
       replace q457:=eq_true q457
       go_wp2_with (first|(go_at_call 65;(with_reducible refine (psalteryref10_Width.calls k2 x8_2 t458 _ A9.out).mono ?_);rintro e w' ⟨rfl,⟨nd,rfl⟩⟩;(try exact yww))|(go_at_call 118;(with_reducible refine (psalteryref12_May.calls k2 _ _ l0 _ _ x5_1 x8_2 a1 true _ ?side1 HC0.out ?side3 ?side4 A11.out).mono ?_);(case side1=>exact ycb HR0);(case side3=>exact yce (Kd.R_reads' HO_5.out).2.2);(case side4=>exact (Kd.R_reads' HO_5.out).2.1);rintro e w18 ⟨rfl,hb⟩;replace HO_5:=yRb HO_5 hb;replace HB:=ybs hb;(try clear hb)))
       repeat (go_quiet (first|(go_at_call 65;(with_reducible refine (psalteryref10_Width.calls k2 x8_2 t458 _ A9.out).mono ?_);rintro e w' ⟨rfl,⟨nd,rfl⟩⟩;(try exact yww))|(go_at_call 118;(with_reducible refine (psalteryref12_May.calls k2 _ _ l0 _ _ x5_1 x8_2 a1 true _ ?side1 HC0.out ?side3 ?side4 A11.out).mono ?_);(case side1=>exact ycb HR0);(case side3=>exact yce (Kd.R_reads' HO_5.out).2.2);(case side4=>exact (Kd.R_reads' HO_5.out).2.1);rintro e w18 ⟨rfl,hb⟩;replace HO_5:=yRb HO_5 hb;replace HB:=ybs hb;(try clear hb)));try go_wp2_with (first|(go_at_call 65;(with_reducible refine (psalteryref10_Width.calls k2 x8_2 t458 _ A9.out).mono ?_);rintro e w' ⟨rfl,⟨nd,rfl⟩⟩;(try exact yww))|(go_at_call 118;(with_reducible refine (psalteryref12_May.calls k2 _ _ l0 _ _ x5_1 x8_2 a1 true _ ?side1 HC0.out ?side3 ?side4 A11.out).mono ?_);(case side1=>exact ycb HR0);(case side3=>exact yce (Kd.R_reads' HO_5.out).2.2);(case side4=>exact (Kd.R_reads' HO_5.out).2.1);rintro e w18 ⟨rfl,hb⟩;replace HO_5:=yRb HO_5 hb;replace HB:=ybs hb;(try clear hb))))
       go_roundg k2
       case measure=>exact yom2 HK1 HK2
       case rel=>exact ⟨(x8_2),(wrap64 ((wrap64 (8 * (rd l0 x8_2))) - (wrap64 (Int.tdiv (wrap64 (16 * (rd x5_1 x8_2))) t458)))),(wrap64 (x8_2+1)),yq,yq,yq,H',⟨yom2 HK1 HK2⟩,⟨yr HO_5⟩,⟨yhb⟩⟩
      ·
       rw [if_neg c16] at H
       have c16b0 : decide (x7_2 < (wrap64 ((wrap64 (8 * (rd l0 x8_2))) - (wrap64 (Int.tdiv (wrap64 (16 * (rd x5_1 x8_2))) t458)))))=false:=decide_eq_false c16
       clear c16
       have H' := zm H
       clear H
       have p456 : 0≤(x8_2 : Int):=yt
       have q456 : x8_2 < (l0.length : Int):=yt
       obtain ⟨ad456,e456,hx456_0⟩:=Kd.at_int HR0.out x8_2 p456 q456
       cases e456
       replace hx456_0:=yhx HB hx456_0
       replace p456:=eq_true p456
       replace q456:=eq_true q456
       obtain ⟨Ao19,co19,eo19⟩:=Kd.R_slice HO_5.out
       subst eo19
       have p457 : 0≤(x8_2 : Int):=yt
       have q457 : x8_2 < (x5_1.length : Int):=yt
       obtain ⟨ad457,e457,hx457_0⟩:=Kd.at_int (Kd.R_reads' HO_5.out).2.2 x8_2 p457 q457
       cases e457
       replace p457:=eq_true p457
       replace q457:=eq_true q457
       go_wp2_with (first|(go_at_call 65;(with_reducible refine (psalteryref10_Width.calls k2 x8_2 t458 _ A9.out).mono ?_);rintro e w' ⟨rfl,⟨nd,rfl⟩⟩;(try exact yww))|(go_at_call 118;(with_reducible refine (psalteryref12_May.calls k2 _ _ l0 _ _ x5_1 x8_2 a1 true _ ?side1 HC0.out ?side3 ?side4 A11.out).mono ?_);(case side1=>exact ycb HR0);(case side3=>exact yce (Kd.R_reads' HO_5.out).2.2);(case side4=>exact (Kd.R_reads' HO_5.out).2.1);rintro e w20 ⟨rfl,hb⟩;replace HO_5:=yRb HO_5 hb;replace HB:=ybs hb;(try clear hb)))
       repeat (go_quiet (first|(go_at_call 65;(with_reducible refine (psalteryref10_Width.calls k2 x8_2 t458 _ A9.out).mono ?_);rintro e w' ⟨rfl,⟨nd,rfl⟩⟩;(try exact yww))|(go_at_call 118;(with_reducible refine (psalteryref12_May.calls k2 _ _ l0 _ _ x5_1 x8_2 a1 true _ ?side1 HC0.out ?side3 ?side4 A11.out).mono ?_);(case side1=>exact ycb HR0);(case side3=>exact yce (Kd.R_reads' HO_5.out).2.2);(case side4=>exact (Kd.R_reads' HO_5.out).2.1);rintro e w20 ⟨rfl,hb⟩;replace HO_5:=yRb HO_5 hb;replace HB:=ybs hb;(try clear hb)));try go_wp2_with (first|(go_at_call 65;(with_reducible refine (psalteryref10_Width.calls k2 x8_2 t458 _ A9.out).mono ?_);rintro e w' ⟨rfl,⟨nd,rfl⟩⟩;(try exact yww))|(go_at_call 118;(with_reducible refine (psalteryref12_May.calls k2 _ _ l0 _ _ x5_1 x8_2 a1 true _ ?side1 HC0.out ?side3 ?side4 A11.out).mono ?_);(case side1=>exact ycb HR0);(case side3=>exact yce (Kd.R_reads' HO_5.out).2.2);(case side4=>exact (Kd.R_reads' HO_5.out).2.1);rintro e w20 ⟨rfl,hb⟩;replace HO_5:=yRb HO_5 hb;replace HB:=ybs hb;(try clear hb))))
       go_roundg k2
       case measure=>exact yom2 HK1 HK2
       case rel=>exact ⟨(x6_2),(x7_2),(wrap64 (x8_2+1)),yq,yq,yq,H',⟨yom2 HK1 HK2⟩,⟨yr HO_5⟩,⟨yhb⟩⟩
    ·
     replace c12:=Bool.eq_false_iff.mpr c12
     subst c12
     rw [ynf] at H
     have H' := zm H
     clear H
     have p456 : 0≤(x8_2 : Int):=yt
     have q456 : x8_2 < (l0.length : Int):=yt
     obtain ⟨ad456,e456,hx456_0⟩:=Kd.at_int HR0.out x8_2 p456 q456
     cases e456
     replace hx456_0:=yhx HB hx456_0
     replace p456:=eq_true p456
     replace q456:=eq_true q456
     obtain ⟨Ao21,co21,eo21⟩:=Kd.R_slice HO_5.out
     subst eo21
     have p457 : 0≤(x8_2 : Int):=yt
     have q457 : x8_2 < (x5_1.length : Int):=yt
     obtain ⟨ad457,e457,hx457_0⟩:=Kd.at_int (Kd.R_reads' HO_5.out).2.2 x8_2 p457 q457
     cases e457
     replace p457:=eq_true p457
     replace q457:=eq_true q457
     go_wp2_with (first|(go_at_call 65;(with_reducible refine (psalteryref10_Width.calls k2 x8_2 t458 _ A9.out).mono ?_);rintro e w' ⟨rfl,⟨nd,rfl⟩⟩;(try exact yww))|(go_at_call 118;(with_reducible refine (psalteryref12_May.calls k2 _ _ l0 _ _ x5_1 x8_2 a1 false _ ?side1 HC0.out ?side3 ?side4 A11.out).mono ?_);(case side1=>exact ycb HR0);(case side3=>exact yce (Kd.R_reads' HO_5.out).2.2);(case side4=>exact (Kd.R_reads' HO_5.out).2.1);rintro e w22 ⟨rfl,hb⟩;replace HO_5:=yRb HO_5 hb;replace HB:=ybs hb;(try clear hb)))
     repeat (go_quiet (first|(go_at_call 65;(with_reducible refine (psalteryref10_Width.calls k2 x8_2 t458 _ A9.out).mono ?_);rintro e w' ⟨rfl,⟨nd,rfl⟩⟩;(try exact yww))|(go_at_call 118;(with_reducible refine (psalteryref12_May.calls k2 _ _ l0 _ _ x5_1 x8_2 a1 false _ ?side1 HC0.out ?side3 ?side4 A11.out).mono ?_);(case side1=>exact ycb HR0);(case side3=>exact yce (Kd.R_reads' HO_5.out).2.2);(case side4=>exact (Kd.R_reads' HO_5.out).2.1);rintro e w22 ⟨rfl,hb⟩;replace HO_5:=yRb HO_5 hb;replace HB:=ybs hb;(try clear hb)));try go_wp2_with (first|(go_at_call 65;(with_reducible refine (psalteryref10_Width.calls k2 x8_2 t458 _ A9.out).mono ?_);rintro e w' ⟨rfl,⟨nd,rfl⟩⟩;(try exact yww))|(go_at_call 118;(with_reducible refine (psalteryref12_May.calls k2 _ _ l0 _ _ x5_1 x8_2 a1 false _ ?side1 HC0.out ?side3 ?side4 A11.out).mono ?_);(case side1=>exact ycb HR0);(case side3=>exact yce (Kd.R_reads' HO_5.out).2.2);(case side4=>exact (Kd.R_reads' HO_5.out).2.1);rintro e w22 ⟨rfl,hb⟩;replace HO_5:=yRb HO_5 hb;replace HB:=ybs hb;(try clear hb))))
     go_roundg k2
     case measure=>exact yom2 HK1 HK2
     case rel=>exact ⟨(x6_2),(x7_2),(wrap64 (x8_2+1)),yq,yq,yq,H',⟨yom2 HK1 HK2⟩,⟨yr HO_5⟩,⟨yhb⟩⟩
   ·
    rw [if_neg c5] at H
    have c5b0 : decide (x8_2 < 5)=false:=decide_eq_false c5
    clear c5
    by_cases c23 : x6_2 < 0
    ·
     rw [if_pos c23] at H
     have c23b0 : decide (x6_2 < 0)=true:=decide_eq_true c23
     clear c23
     obtain rfl:=Option.some.inj H
     go_wp2
     repeat (go_quiet (fail);try go_wp2)
     go_ret
     exact ⟨_,ye,yr HO_5,yhb⟩
    ·
     rw [if_neg c23] at H
     have c23b0 : decide (x6_2 < 0)=false:=decide_eq_false c23
     clear c23
     replace H:=ybi H;obtain ⟨t453,A24,H⟩:=H
     have H' := zm H
     clear H
     obtain ⟨Ao25,co25,eo25⟩:=Kd.R_slice HO_5.out
     subst eo25
     go_wp2_with (first|(go_at_call 119;(with_reducible refine (psalteryref12_More.calls _ _ x5_1 x6_2 t453 _ ?side1 ?side2 A24.out).mono ?_);(case side1=>exact yce (Kd.R_reads' HO_5.out).2.2);(case side2=>exact (Kd.R_reads' HO_5.out).2.1);rintro e w26 ⟨v454,rfl,ho0,hb⟩;have HO455:=zm (Kd.R_lower (Kd.R_new' ho0 (Kd.R_lt (yr HO_5))) (zE yhb));replace HO_5:=zm (Kd.R_elder' (yr HO_5) (Kd.R_base ho0) hb);replace HB:=ybs hb;(try clear hb);(try clear ho0)))
     repeat (go_quiet (first|(go_at_call 119;(with_reducible refine (psalteryref12_More.calls _ _ x5_1 x6_2 t453 _ ?side1 ?side2 A24.out).mono ?_);(case side1=>exact yce (Kd.R_reads' HO_5.out).2.2);(case side2=>exact (Kd.R_reads' HO_5.out).2.1);rintro e w26 ⟨v454,rfl,ho0,hb⟩;have HO455:=zm (Kd.R_lower (Kd.R_new' ho0 (Kd.R_lt (yr HO_5))) (zE yhb));replace HO_5:=zm (Kd.R_elder' (yr HO_5) (Kd.R_base ho0) hb);replace HB:=ybs hb;(try clear hb);(try clear ho0)));try go_wp2_with (first|(go_at_call 119;(with_reducible refine (psalteryref12_More.calls _ _ x5_1 x6_2 t453 _ ?side1 ?side2 A24.out).mono ?_);(case side1=>exact yce (Kd.R_reads' HO_5.out).2.2);(case side2=>exact (Kd.R_reads' HO_5.out).2.1);rintro e w26 ⟨v454,rfl,ho0,hb⟩;have HO455:=zm (Kd.R_lower (Kd.R_new' ho0 (Kd.R_lt (yr HO_5))) (zE yhb));replace HO_5:=zm (Kd.R_elder' (yr HO_5) (Kd.R_base ho0) hb);replace HB:=ybs hb;(try clear hb);(try clear ho0))))
     go_roundg k2
     case measure=>exact yom2 HK1 HK2
     case rel=>exact ⟨(t453),H',⟨yom2 HK1 HK2⟩,⟨yR0 HO455⟩,⟨yhb⟩⟩
def psalteryref11_Right.l0 : Nat→List Int→Bool→Int→Option (Bool)
 | 0,_,_,_=>none
 | k+1,x0,x3,x4=>if x4 < (x0.length : Int) then (if x3=true then (if 0≤x4 then (if (rd x0 x4) ≥ 0 then (psalteryref11_Right.l0 k x0 (decide ((rd x0 x4)≤44)) (wrap64 (x4+1))) else (psalteryref11_Right.l0 k x0 false (wrap64 (x4+1)))) else (none)) else (psalteryref11_Right.l0 k x0 false (wrap64 (x4+1)))) else (some x3)
def psalteryref11_Right.f (k : Nat) (l0 : List Int) : Option (Bool):=psalteryref11_Right.l0 k l0 ((l0.length : Int) == 5) 0
theorem psalteryref11_Right.mono_l : ∀ k,(∀ y0 y1 y2,LeO (psalteryref11_Right.l0 k y0 y1 y2) (psalteryref11_Right.l0 (k+1) y0 y1 y2))
 | 0=>fun _ _ _ r h=>by simp [psalteryref11_Right.l0] at h
 | k+1=>by
  have ih0:=psalteryref11_Right.mono_l k
  ·
   intro y0 y1 y2
   unfold psalteryref11_Right.l0
   repeat' with_reducible first|apply ih0|apply yLr|apply yLn|apply yLi|apply yLb|intro _
theorem psalteryref11_Right.mono : ∀ a0 k,LeO (psalteryref11_Right.f k a0) (psalteryref11_Right.f (k+1) a0):=by
 intro a0 k
 have ih0:=psalteryref11_Right.mono_l k
 unfold psalteryref11_Right.f
 repeat' with_reducible first|apply ih0|apply yLr|apply yLn|apply yLi|apply yLb|intro _
set_option maxHeartbeats 8000000 in
set_option maxRecDepth 100000 in
theorem psalteryref11_Right.calls (k : Nat) (A0 : Option Addr) (c0 : Nat) (l0 : List Int) (r : Bool) (w : World) (hr0 : Kd.C (Kd.int .i64) w A0 l0.length l0) (hc0 : l0.length≤c0) (h : psalteryref11_Right.f k l0=some r) :
  Calls Try.prog 34 #[.slice A0 l0.length c0] w fun e w' => e=.returned (.bool r)∧Drawn0 w w' := by
 have HR0:=zm hr0;have HC0:=zm hc0;clear hr0 hc0
 have H : (psalteryref11_Right.l0 k l0 ((l0.length : Int) == 5) 0)=some r:=h
 clear h
 have H' := zm H
 clear H
 go_enter Try.func34,Try.ntmps34
 go_wp2
 go_loopg [3,4] k (fun kq v3 v4 w' => ∃ (x3_1 : Bool) (x4_1 : Int),v3=.bool x3_1∧v4=.int .i64 x4_1∧Aside0 (psalteryref11_Right.l0 kq l0 x3_1 x4_1=some r)∧Aside0 (kq≤k)∧Drawn0 w w')
 case atStart=>exact ⟨(((l0.length : Int) == 5)),(0),yq,yq,H',⟨Nat.le_refl _⟩,yd⟩
 case round =>
  clear H'
  obtain ⟨x3_1,x4_1,rfl,rfl,HA,HK1,⟨m1,rfl⟩⟩:=hrel
  obtain ⟨k1,rfl⟩:=ysu gk (fun h=>by subst h;exact absurd HA.out (by simp [psalteryref11_Right.l0]))
  have H:=HA.out;clear HA
  simp only [psalteryref11_Right.l0] at H
  by_cases c2 : x4_1 < (l0.length : Int)
  ·
   rw [if_pos c2] at H
   have c2b0 : decide (x4_1 < (l0.length : Int))=true:=decide_eq_true c2
   clear c2
   by_cases c3 : x3_1=true
   ·
    subst c3
    rw [if_pos rfl] at H
    replace H:=yif H;obtain ⟨c4,H⟩:=H
    have c4b0 : decide (0≤x4_1)=true:=decide_eq_true c4
    clear c4
    by_cases c5 : (rd l0 x4_1) ≥ 0
    ·
     rw [if_pos c5] at H
     have c5b0 : decide (0≤(rd l0 x4_1))=true:=decide_eq_true c5
     clear c5
     have H' := zm H
     clear H
     obtain ⟨ad568,e568,hx568_0,p568,q568⟩:=yai HR0 x4_1
     cases e568
     have p569 : 0≤(x4_1 : Int):=yt
     have q569 : x4_1 < (l0.length : Int):=yt
     obtain ⟨ad569,e569,hx569_0⟩:=Kd.at_int HR0.out x4_1 p569 q569
     obtain rfl : ad568=ad569:=(by injection e569)
     replace p569:=eq_true p569
     replace q569:=eq_true q569
     go_wp2
     go_roundg k1
     case measure=>exact yom1 HK1
     case rel=>exact ⟨(decide ((rd l0 x4_1)≤44)),(wrap64 (x4_1+1)),yq,yq,H',⟨yom1 HK1⟩,yd⟩
    ·
     rw [if_neg c5] at H
     have c5b0 : decide (0≤(rd l0 x4_1))=false:=decide_eq_false c5
     clear c5
     have H' := zm H
     clear H
     obtain ⟨ad568,e568,hx568_0,p568,q568⟩:=yai HR0 x4_1
     cases e568
     go_wp2
     go_roundg k1
     case measure=>exact yom1 HK1
     case rel=>exact ⟨(false),(wrap64 (x4_1+1)),yq,yq,H',⟨yom1 HK1⟩,yd⟩
   ·
    replace c3:=Bool.eq_false_iff.mpr c3
    subst c3
    rw [ynf] at H
    have H' := zm H
    clear H
    go_wp2
    go_roundg k1
    case measure=>exact yom1 HK1
    case rel=>exact ⟨(false),(wrap64 (x4_1+1)),yq,yq,H',⟨yom1 HK1⟩,yd⟩
  ·
   rw [if_neg c2] at H
   have c2b0 : decide (x4_1 < (l0.length : Int))=false:=decide_eq_false c2
   clear c2
   obtain rfl:=Option.some.inj H
   go_wp2
   go_ret
   exact ⟨yq,yd⟩
def psalteryref12_Fair.l0 : Nat→List (List Int)→Int→Option (Bool)
 | 0,_,_=>none
 | k+1,x1,x5=>if x5 < (x1.length : Int) then (if 0≤x5 then ((psalteryref11_Right.f k (rd_L2 x1 x5)).bind fun t571=>(if t571=true then (psalteryref12_Fair.l0 k x1 (wrap64 (x5+1))) else (some false))) else (none)) else (some true)
def psalteryref12_Fair.f (k : Nat) (a0 : Int) (l1 : List (List Int)) : Option (Bool):=if (l1.length : Int)=a0 then (psalteryref12_Fair.l0 k l1 0) else (some false)
theorem psalteryref12_Fair.mono_l : ∀ k,(∀ y0 y1,LeO (psalteryref12_Fair.l0 k y0 y1) (psalteryref12_Fair.l0 (k+1) y0 y1))
 | 0=>fun _ _ r h=>by simp [psalteryref12_Fair.l0] at h
 | k+1=>by
  have ih0:=psalteryref12_Fair.mono_l k
  ·
   intro y0 y1
   unfold psalteryref12_Fair.l0
   repeat' with_reducible first|apply ih0|apply psalteryref11_Right.mono|apply yLr|apply yLn|apply yLi|apply yLb|intro _
theorem psalteryref12_Fair.mono : ∀ a0 a1 k,LeO (psalteryref12_Fair.f k a0 a1) (psalteryref12_Fair.f (k+1) a0 a1):=by
 intro a0 a1 k
 have ih0:=psalteryref12_Fair.mono_l k
 unfold psalteryref12_Fair.f
 repeat' with_reducible first|apply ih0|apply psalteryref11_Right.mono|apply yLr|apply yLn|apply yLi|apply yLb|intro _
set_option maxHeartbeats 8000000 in
set_option maxRecDepth 100000 in
theorem psalteryref12_Fair.calls (k : Nat) (a0 : Int) (A1 : Option Addr) (c1 : Nat) (l1 : List (List Int)) (r : Bool) (w : World) (hr1 : Kd.C (Kd.slice 3 (Kd.int .i64)) w A1 l1.length l1) (hc1 : l1.length≤c1) (h : psalteryref12_Fair.f k a0 l1=some r) :
  Calls Try.prog 11 #[.int .i64 a0, .slice A1 l1.length c1] w fun e w' => e=.returned (.bool r)∧Drawn0 w w' := by
 have HR1:=zm hr1;have HC1:=zm hc1;clear hr1 hc1
 have H : (if (l1.length : Int)=a0 then (psalteryref12_Fair.l0 k l1 0) else (some false))=some r:=h
 clear h
 by_cases c3 : (l1.length : Int)=a0
 ·
  rw [if_pos c3] at H
  have c3b0 : ((l1.length : Int) == a0)=true:=beq_iff_eq.mpr c3
  have c3b1 : ((l1.length : Int) != a0)=false:=bne_eq_false_iff_eq.mpr c3
  clear c3
  have H' := zm H
  clear H
  go_enter Try.func11,Try.ntmps11
  go_wp2
  go_loopg [5] k (fun kq v5 w' => ∃ (x5_1 : Int),v5=.int .i64 x5_1∧Aside0 (psalteryref12_Fair.l0 kq l1 x5_1=some r)∧Aside0 (kq≤k)∧Drawn0 w w')
  case atStart=>exact ⟨(0),yq,H',⟨Nat.le_refl _⟩,yd⟩
  case round =>
   clear H'
   try clear c1
   try clear c3b0
   try clear c3b1
   obtain ⟨x5_1,rfl,HA,HK1,⟨m1,rfl⟩⟩:=hrel
   obtain ⟨k1,rfl⟩:=ysu gk (fun h=>by subst h;exact absurd HA.out (by simp [psalteryref12_Fair.l0]))
   have H:=HA.out;clear HA
   simp only [psalteryref12_Fair.l0] at H
   by_cases c4 : x5_1 < (l1.length : Int)
   ·
    rw [if_pos c4] at H
    have c4b0 : decide (x5_1 < (l1.length : Int))=true:=decide_eq_true c4
    clear c4
    replace H:=yif H;obtain ⟨c5,H⟩:=H
    have c5b0 : decide (0≤x5_1)=true:=decide_eq_true c5
    clear c5
    replace H:=ybi H;obtain ⟨t571,A6,H⟩:=H
    by_cases c7 : t571=true
    ·
     subst c7
     rw [if_pos rfl] at H
     have H' := zm H
     clear H
     have p570 : 0≤(x5_1 : Int):=yt
     have q570 : x5_1 < (l1.length : Int):=yt
     obtain ⟨ad570,A570_0,c570_0,e570,hx570_0,hl570_0,hi570_0⟩:=at_L2 HR1.out x5_1 p570 q570
     cases e570
     have HR570_0:=zm hi570_0;have HC570_0:=zm hl570_0;clear hi570_0 hl570_0
     replace p570:=eq_true p570
     replace q570:=eq_true q570
     go_wp2_with (first|((with_reducible refine gate_callee (f:=34) rfl ?_);refine ygl 20 Try.func34 #[.slice A570_0 (rd_L2 l1 x5_1).length c570_0] ?_;(with_reducible refine (psalteryref11_Right.calls k1 _ _ (rd_L2 l1 x5_1) true _ ?side1 HC570_0.out A6.out).mono ?_);(case side1=>exact yce HR570_0.out);rintro e w' ⟨rfl,⟨nd,rfl⟩⟩;refine ⟨_,rfl, ?_⟩))
     go_roundg k1
     case measure=>exact yom1 HK1
     case rel=>exact ⟨(wrap64 (x5_1+1)),yq,H',⟨yom1 HK1⟩,yd⟩
    ·
     replace c7:=Bool.eq_false_iff.mpr c7
     subst c7
     rw [ynf] at H
     obtain rfl:=Option.some.inj H
     have p570 : 0≤(x5_1 : Int):=yt
     have q570 : x5_1 < (l1.length : Int):=yt
     obtain ⟨ad570,A570_0,c570_0,e570,hx570_0,hl570_0,hi570_0⟩:=at_L2 HR1.out x5_1 p570 q570
     cases e570
     have HR570_0:=zm hi570_0;have HC570_0:=zm hl570_0;clear hi570_0 hl570_0
     replace p570:=eq_true p570
     replace q570:=eq_true q570
     go_wp2_with (first|((with_reducible refine gate_callee (f:=34) rfl ?_);refine ygl 20 Try.func34 #[.slice A570_0 (rd_L2 l1 x5_1).length c570_0] ?_;(with_reducible refine (psalteryref11_Right.calls k1 _ _ (rd_L2 l1 x5_1) false _ ?side1 HC570_0.out A6.out).mono ?_);(case side1=>exact yce HR570_0.out);rintro e w' ⟨rfl,⟨nd,rfl⟩⟩;refine ⟨_,rfl, ?_⟩))
     go_ret
     exact ⟨yq,yd⟩
   ·
    rw [if_neg c4] at H
    have c4b0 : decide (x5_1 < (l1.length : Int))=false:=decide_eq_false c4
    clear c4
    obtain rfl:=Option.some.inj H
    go_wp2
    go_ret
    exact ⟨yq,yd⟩
 ·
  rw [if_neg c3] at H
  have c3b0 : ((l1.length : Int) == a0)=false:=beq_eq_false_iff_ne.mpr c3
  have c3b1 : ((l1.length : Int) != a0)=true:=bne_iff_ne.mpr c3
  obtain rfl:=Option.some.inj H
  go_enter Try.func11,Try.ntmps11
  go_wp2
  go_ret
  exact ⟨yq,yd⟩
def psalteryref12_Pulses.l0 : Nat→Int→Int→List (List Int)→List (List Int)→Int→Option ((List (List Int)))
 | 0,_,_,_,_,_=>none
 | k+1,x0,x1,x2,x7,x8=>if x8 < (x2.length : Int) then (if 0≤x8 then ((psalteryref12_Room.f x0 x1).bind fun t462=>((psalteryref12_Channel.f k (rd_L2 x2 x8) t462).bind fun t463=>(if x7.length < 5864062014805 then (psalteryref12_Pulses.l0 k x0 x1 x2 (x7 ++ [t463]) (wrap64 (x8+1))) else (none)))) else (none)) else (some x7)
def psalteryref12_Pulses.f (k : Nat) (a0 : Int) (a1 : Int) (l2 : List (List Int)) : Option ((List (List Int))):=psalteryref12_Pulses.l0 k a0 a1 l2 ([] : List (List Int)) 0
theorem psalteryref12_Pulses.mono_l : ∀ k,(∀ y0 y1 y2 y3 y4,LeO (psalteryref12_Pulses.l0 k y0 y1 y2 y3 y4) (psalteryref12_Pulses.l0 (k+1) y0 y1 y2 y3 y4))
 | 0=>fun _ _ _ _ _ r h=>by simp [psalteryref12_Pulses.l0] at h
 | k+1=>by
  have ih0:=psalteryref12_Pulses.mono_l k
  ·
   intro y0 y1 y2 y3 y4
   unfold psalteryref12_Pulses.l0
   repeat' with_reducible first|apply ih0|apply psalteryref12_Channel.mono|apply yLr|apply yLn|apply yLi|apply yLb|intro _
theorem psalteryref12_Pulses.mono : ∀ a0 a1 a2 k,LeO (psalteryref12_Pulses.f k a0 a1 a2) (psalteryref12_Pulses.f (k+1) a0 a1 a2):=by
 intro a0 a1 a2 k
 have ih0:=psalteryref12_Pulses.mono_l k
 unfold psalteryref12_Pulses.f
 repeat' with_reducible first|apply ih0|apply psalteryref12_Channel.mono|apply yLr|apply yLn|apply yLi|apply yLb|intro _
def psalteryref12_Pulses.T5 : Bool × List (List Nat × List Nat):=(true, [([], []),([], []),([], []),([1,2], [1,2]),([3], [3]),([], []),([], []),([5,6], [5,6]),([4,7,7], [4,7]),([8], [8]),([0,9,8], [0,9]),([10,10,0,1,2,3,4,5,6,7,8,9,10], [0,10])])
def psalteryref12_Pulses.B5 : List Nat := [0,0,0,6,14,0,0,96,254,510,1023,2047]
theorem psalteryref12_Pulses.tab5 : rtab .any (opsOf Try.f62 5)=psalteryref12_Pulses.T5:=by kernel_rfl
theorem psalteryref12_Pulses.bits5 : waitsOk psalteryref12_Pulses.T5.2 psalteryref12_Pulses.B5=true:=by kernel_rfl
set_option maxHeartbeats 8000000 in
set_option maxRecDepth 100000 in
theorem psalteryref12_Pulses.calls (k : Nat) (a0 : Int) (a1 : Int) (A2 : Option Addr) (c2 : Nat) (l2 : List (List Int)) (r : List (List Int)) (w : World) (hr2 : Kd.C (Kd.slice 3 (Kd.int .i64)) w A2 l2.length l2) (hc2 : l2.length≤c2) (h : psalteryref12_Pulses.f k a0 a1 l2=some r) :
  Calls Try.prog 62 #[.int .i64 a0, .int .i64 a1, .slice A2 l2.length c2] w fun e w' => ∃ v0_ : Value,e=.returned (v0_)∧Kd.S (Kd.slice 3 (Kd.int .i64)) 55 w' w.heap.size (fun _=>True) v0_ r∧Below w.heap.size w w' := by
 have HR2:=zm hr2;have HC2:=zm hc2;clear hr2 hc2;have HB:=zm (Below.refl w.heap.size w)
 have H : (psalteryref12_Pulses.l0 k a0 a1 l2 ([] : List (List Int)) 0)=some r:=h
 clear h
 have H' := zm H
 clear H
 go_enter Try.func62,Try.ntmps62
 go_wp2
 go_loopg [7,8] k (fun kq v7 v8 w' => ∃ (x7_1 : List (List Int)) (x8_1 : Int),v8=.int .i64 x8_1∧Aside0 (psalteryref12_Pulses.l0 kq a0 a1 l2 x7_1 x8_1=some r)∧Aside0 (kq≤k)∧Aside0 (Kd.S (Kd.slice 3 (Kd.int .i64)) 55 w' w.heap.size (fun _=>True) v7 x7_1)∧Aside0 (Below w.heap.size w w'))
 case atStart=>exact ⟨(([] : List (List Int))),(0),yq,H',⟨Nat.le_refl _⟩,⟨yn⟩,⟨yhb⟩⟩
 case round =>
  clear H'
  try clear c2
  obtain ⟨x7_1,x8_1,rfl,HA,HK1,HO_7,HB⟩:=hrel
  obtain ⟨k1,rfl⟩:=ysu gk (fun h=>by subst h;exact absurd HA.out (by simp [psalteryref12_Pulses.l0]))
  have H:=HA.out;clear HA
  simp only [psalteryref12_Pulses.l0] at H
  by_cases c4 : x8_1 < (l2.length : Int)
  ·
   rw [if_pos c4] at H
   have c4b0 : decide (x8_1 < (l2.length : Int))=true:=decide_eq_true c4
   clear c4
   replace H:=yif H;obtain ⟨c5,H⟩:=H
   have c5b0 : decide (0≤x8_1)=true:=decide_eq_true c5
   clear c5
   replace H:=ybi H;obtain ⟨t462,A6,H⟩:=H
   replace H:=ybi H;obtain ⟨t463,A7,H⟩:=H
   replace H:=yif H;obtain ⟨c8,H⟩:=H
   have LMc8:=zm c8;clear c8
   obtain ⟨y466,hy466⟩ : ∃ y_ : List (List Int),y_=(x7_1 ++ [t463]):=⟨_,rfl⟩
   replace H : (psalteryref12_Pulses.l0 k1 a0 a1 l2 y466 (wrap64 (x8_1+1)))=some r:=yrw hy466 H
   have Ny466:=zm hy466;clear hy466
   have H' := zm H
   clear H
   try go_wp2
   replace HO_7:=zm (Kd.S_drew HO_7.out)
   replace HB:=zm (zf HB.out)
   have p461 : 0≤(x8_1 : Int):=yt
   have q461 : x8_1 < (l2.length : Int):=yt
   obtain ⟨ad461,A461_0,c461_0,e461,hx461_0,hl461_0,hi461_0⟩:=at_L2 HR2.out x8_1 p461 q461
   have hw461_0:=hx461_0
   cases e461
   replace hx461_0:=yhx HB hx461_0
   have HR461_0:=zm hi461_0;have HC461_0:=zm hl461_0;clear hi461_0 hl461_0
   replace p461:=eq_true p461
   replace q461:=eq_true q461
   refine start_ (n:=12) (S:=fun w' => w'.cell? (ad461.add (x8_1).toNat)=some (.slice A461_0 (rd_L2 l2 x8_1).length c461_0)) (ds := []) #[false,false,false,false,false,false,false,false,false,false,false,false] (by kernel_rfl) rfl rfl ((yhx HB hw461_0 :)) (fun hHeld => ?_);refine with_tabW psalteryref12_Pulses.tab5 psalteryref12_Pulses.bits5 (fun HT_ HW_ => ?_)
   generalize wr.drew=w9 at HO_7 HB HR461_0 hx461_0 hHeld ⊢
   refine yp 0 15 HT_ ?_
   refine yp 1 16 HT_ ?_
   refine yp 2 17 HT_ ?_
   refine yp 3 18 HT_ ?_
   refine yp 5 20 HT_ ?_
   refine yp 6 21 HT_ ?_
   refine yl 4 19 HT_ HW_ hHeld ?_
   refine yw 7 22 HT_ (fun K hK => ?_)
   refine ygs Try.func98 #[.int .i64 a0, .int .i64 a1] ?_
   with_reducible refine (psalteryref12_Room.calls a0 a1 t462 _ A6.out).mono ?_
   rintro e w' ⟨rfl,⟨nd,rfl⟩⟩
   refine ⟨_,rfl, ?_⟩
   refine hK.out _ _ ((yhx HB hw461_0 :)) (fun hHeld => ?_)
   clear hK K
   refine ym (some 22) ?_
   refine yw 8 23 HT_ (fun K hK => ?_)
   refine ygs Try.func97 #[.slice A461_0 (rd_L2 l2 x8_1).length c461_0, .int .i64 t462] ?_
   with_reducible refine (psalteryref12_Channel.calls k1 _ _ (rd_L2 l2 x8_1) t462 t463 _ ?side1 ?side2 A7.out).mono ?_
   (case side1=>exact ycb HR461_0)
   (case side2=>exact HC461_0.out)
   rintro e w10 ⟨v464,rfl,ho0,hb⟩
   refine ⟨_,rfl, ?_⟩
   replace HO_7:=zm (Kd.S_elder' (yr HO_7) (Kd.R_base ho0) hb)
   have HO465:=zm (Kd.R_lower ho0 (zE yhb))
   replace HB:=ybs hb
   (try clear hb)
   (try clear ho0)
   obtain ⟨Ao12,co12,eo12⟩:=Kd.R_slice HO465.out
   (first|subst eo12|(injection eo12 with f1_ f2_ f3_;have f4_:=f1_.symm;have f5_:=f3_.symm;clear f1_ f2_ f3_;subst f4_;subst f5_))
   refine hK.out _ _ ((yhx HB hw461_0 :)) (fun hHeld => ?_)
   clear hK K
   refine ym (some 23) ?_
   refine yw 9 24 HT_ (fun K hK => ?_)
   refine value_ (w1 := ?_) (v := ?_) (by rfl) rfl ?_ ?_
   rotate_left 2
   ·
    go_simp
    constructor
    ·
     rfl
    ·
     rfl
   refine hK.out _ _ ((World.cell?_alloc_lt _ _ _ (zb _ _ ((yhx HB hw461_0 :)))).trans ((yhx HB hw461_0 :))) (fun hHeld => ?_)
   clear hK K
   refine ym (some 24) ?_
   refine yw 10 25 HT_ (fun K hK => ?_)
   refine Kd.S_append_step (Kd.slice 3 (Kd.int .i64)) (w0:=w) w.heap.size (by rfl) (.tmp 15) (.tmp 24) 25 55 (.slice none 0 0) 24 rfl Try.underlying25 info55 rfl (by decide) (by omega) u7 x7_1 t463 [.slice Ao12 t463.length co12] (fun _=>True) (fun k_=>some k_=(.slice Ao12 t463.length co12 : Value).ownBlock) rfl rfl ?aP (fun k_ hk_=>((zG (ok' := fun k_=>((fun _=>True)) k_∧some k_≠(u7 : Value).ownBlock) (Kd.R_apart' (HO465.out) (Kd.S_typed HO_7.out) (by decide)) (fun k_ hk=>⟨trivial,hk.2⟩))).1 k_ hk_.symm) ?aF ?aO ?aB ?aS ?aL ?_
   (case aP=>exact Kd.M_row (zG (Kd.R_tight rfl (zG (ok' := fun k_=>((fun _=>True)) k_∧some k_≠(u7 : Value).ownBlock) (Kd.R_apart' (HO465.out) (Kd.S_typed HO_7.out) (by decide)) (fun k_ hk=>⟨trivial,hk.2⟩))) (fun _ h_=>h_)))
   (case aB=>exact yhb)
   (case aF=>exact (fun _ _=>trivial))
   (case aO=>exact (yS0 HO_7))
   (case aS=>exact (zE yhb))
   (case aL=>have:=LMc8.out;omega)
   intro v467 w11 ho hb hg hat
   rw [← Ny466.out] at ho
   replace HB:=zm (hb)
   have HO468:=zm (ho);clear HO_7;clear HO465;clear ho hb hg hat
   refine hK.out _ _ ((yhx HB hw461_0 :)) (fun hHeld => ?_)
   clear hK K
   refine ym (some 25) ?_
   refine yp 11 7 HT_ ?_
   refine done_ (done_of HT_.out (by kernel_rfl)) ?_
   try go_wp2
   go_roundg k1
   case measure=>exact yom1 HK1
   case rel=>exact ⟨(y466),(wrap64 (x8_1+1)),yq,H',⟨yom1 HK1⟩,⟨yr HO468⟩,⟨yhb⟩⟩
  ·
   rw [if_neg c4] at H
   have c4b0 : decide (x8_1 < (l2.length : Int))=false:=decide_eq_false c4
   clear c4
   obtain rfl:=Option.some.inj H
   go_wp2
   go_ret
   exact ⟨_,ye,yr HO_7,yhb⟩
def coder_New.f  : Option (Int × Int × List Int):=some (0,4294967295,([] : List Int))
set_option maxHeartbeats 8000000 in
set_option maxRecDepth 100000 in
theorem coder_New.calls  (r1 : Int) (r2 : Int) (r3 : List Int) (w : World) (h : coder_New.f  = some (r1,r2,r3)) :
  Calls Try.prog 44 #[] w fun e w' => ∃ v2_ : Value,e=.returned (.agg #[.int .u64 r1, .int .u32 r2,v2_])∧Kd.R (Kd.int .u8) 5 w' w.heap.size (fun _=>True) v2_ r3∧Below w.heap.size w w' := by
 have hu75:=Try.underlying75;have HB:=zm (Below.refl w.heap.size w)
 have H : (some (0,4294967295,([] : List Int)))=some (r1,r2,r3):=h
 clear h
 simp only [Option.some.injEq,Prod.mk.injEq] at H
 obtain ⟨rfl,rfl,rfl⟩:=H
 go_enter Try.func44,Try.ntmps44
 go_wp2_with (first|((with_reducible refine gate_dst (N:=0) rfl ?_);refine ybx 0 #[.int .u64 0, .int .u32 0, .slice none 0 0] 75 ?_;intro gb822 hg w1 hbox hb;have BK822:=zm (hbox);have GW822:=ygw hg;have GE822:=ygw hg;replace HB:=ybs hb;clear hb hbox hg;obtain ⟨_,_,_,_,_,_⟩:=yc3 BK822))
 refine bodyPost_ret (results_cell_row rfl _ _ gb822 75 #[.int .u64 0, .int .u32 4294967295, .slice none 0 0] (0,0) _ rfl (ykp BK822) Try.underlying75 rfl (by kernel_rfl)) rfl ?_
 exact ⟨_,ye,yn,yhb⟩
def coder_fair.f (a0 : Int) (a1 : Int) (a2 : Int) : Option (Bool):=if a0 ≥ 0 then (if a0 < a1 then (if a1≤a2 then (some (decide (a2≤65536))) else (some false)) else (some false)) else (some false)
set_option maxHeartbeats 8000000 in
set_option maxRecDepth 100000 in
theorem coder_fair.calls (a0 : Int) (a1 : Int) (a2 : Int) (r : Bool) (w : World) (h : coder_fair.f a0 a1 a2=some r) :
  Calls Try.prog 84 #[.int .i64 a0, .int .i64 a1, .int .i64 a2] w fun e w' => e=.returned (.bool r)∧Drawn0 w w' := by
 have H : (if a0 ≥ 0 then (if a0 < a1 then (if a1≤a2 then (some (decide (a2≤65536))) else (some false)) else (some false)) else (some false))=some r:=h
 clear h
 by_cases c4 : a0 ≥ 0
 ·
  rw [if_pos c4] at H
  have c4b0 : decide (0≤a0)=true:=decide_eq_true c4
  clear c4
  by_cases c5 : a0 < a1
  ·
   rw [if_pos c5] at H
   have c5b0 : decide (a0 < a1)=true:=decide_eq_true c5
   clear c5
   by_cases c6 : a1≤a2
   ·
    rw [if_pos c6] at H
    have c6b0 : decide (a1≤a2)=true:=decide_eq_true c6
    clear c6
    obtain rfl:=Option.some.inj H
    go_enter Try.func84,Try.ntmps84
    go_wp2
    go_ret
    exact ⟨yq,yd⟩
   ·
    rw [if_neg c6] at H
    have c6b0 : decide (a1≤a2)=false:=decide_eq_false c6
    clear c6
    obtain rfl:=Option.some.inj H
    go_enter Try.func84,Try.ntmps84
    go_wp2
    go_ret
    exact ⟨yq,yd⟩
  ·
   rw [if_neg c5] at H
   have c5b0 : decide (a0 < a1)=false:=decide_eq_false c5
   clear c5
   obtain rfl:=Option.some.inj H
   go_enter Try.func84,Try.ntmps84
   go_wp2
   go_ret
   exact ⟨yq,yd⟩
 ·
  rw [if_neg c4] at H
  have c4b0 : decide (0≤a0)=false:=decide_eq_false c4
  clear c4
  obtain rfl:=Option.some.inj H
  go_enter Try.func84,Try.ntmps84
  go_wp2
  go_ret
  exact ⟨yq,yd⟩
def coder_RightEnc.f (a0_0 : Int) (a0_1 : Int) (l0_2 : List Int) : Option (Bool):=if a0_0≤4294967295 then (if a0_1 ≥ 16777216 then (some (decide ((l0_2.length : Int)≤4000))) else (some false)) else (some false)
set_option maxHeartbeats 8000000 in
set_option maxRecDepth 100000 in
theorem coder_RightEnc.calls (a0_0 : Int) (a0_1 : Int) (A0_2 : Option Addr) (c0_2 : Nat) (l0_2 : List Int) (r : Bool) (w : World) (hr0_2 : Kd.C (Kd.int .u8) w A0_2 l0_2.length l0_2) (hc0_2 : l0_2.length≤c0_2) (h : coder_RightEnc.f a0_0 a0_1 l0_2=some r) :
  Calls Try.prog 116 #[.agg #[.int .u64 a0_0, .int .u32 a0_1, .slice A0_2 l0_2.length c0_2]] w fun e w' => e=.returned (.bool r)∧Below w.heap.size w w' := by
 have hu75:=Try.underlying75;have HR0_2:=zm hr0_2;have HC0_2:=zm hc0_2;clear hr0_2 hc0_2;have HB:=zm (Below.refl w.heap.size w)
 have H : (if a0_0≤4294967295 then (if a0_1 ≥ 16777216 then (some (decide ((l0_2.length : Int)≤4000))) else (some false)) else (some false))=some r:=h
 clear h
 by_cases c2 : a0_0≤4294967295
 ·
  rw [if_pos c2] at H
  have c2b0 : decide (a0_0≤4294967295)=true:=decide_eq_true c2
  clear c2
  by_cases c3 : a0_1 ≥ 16777216
  ·
   rw [if_pos c3] at H
   have c3b0 : decide (16777216≤a0_1)=true:=decide_eq_true c3
   clear c3
   obtain rfl:=Option.some.inj H
   go_enter Try.func116,Try.ntmps116
   go_wp2_with (first|((with_reducible refine gate_dst (N:=1) rfl ?_);(try (refine gate_guard (by rfl) ?_;dsimp only));refine ybx 1 #[.int .u64 a0_0, .int .u32 a0_1, .slice A0_2 l0_2.length c0_2] 75 ?_;intro gb823 hg w4 hbox hb;have BK823:=zm (hbox);have GW823:=ygw hg;have GE823:=ygw hg;replace HB:=ybs hb;clear hb hbox hg;obtain ⟨_,_,_,_,_,_⟩:=yc3 BK823))
   go_ret
   exact ⟨ye,yhb⟩
  ·
   rw [if_neg c3] at H
   have c3b0 : decide (16777216≤a0_1)=false:=decide_eq_false c3
   clear c3
   obtain rfl:=Option.some.inj H
   go_enter Try.func116,Try.ntmps116
   go_wp2_with (first|((with_reducible refine gate_dst (N:=1) rfl ?_);(try (refine gate_guard (by rfl) ?_;dsimp only));refine ybx 1 #[.int .u64 a0_0, .int .u32 a0_1, .slice A0_2 l0_2.length c0_2] 75 ?_;intro gb823 hg w6 hbox hb;have BK823:=zm (hbox);have GW823:=ygw hg;have GE823:=ygw hg;replace HB:=ybs hb;clear hb hbox hg;obtain ⟨_,_,_,_,_,_⟩:=yc3 BK823))
   go_ret
   exact ⟨ye,yhb⟩
 ·
  rw [if_neg c2] at H
  have c2b0 : decide (a0_0≤4294967295)=false:=decide_eq_false c2
  clear c2
  obtain rfl:=Option.some.inj H
  go_enter Try.func116,Try.ntmps116
  go_wp2_with (first|((with_reducible refine gate_dst (N:=1) rfl ?_);(try (refine gate_guard (by rfl) ?_;dsimp only));refine ybx 1 #[.int .u64 a0_0, .int .u32 a0_1, .slice A0_2 l0_2.length c0_2] 75 ?_;intro gb823 hg w8 hbox hb;have BK823:=zm (hbox);have GW823:=ygw hg;have GE823:=ygw hg;replace HB:=ybs hb;clear hb hbox hg;obtain ⟨_,_,_,_,_,_⟩:=yc3 BK823))
  go_ret
  exact ⟨ye,yhb⟩
def coder_own.f (a0_0 : Int) (a0_1 : Int) (l0_2 : List Int) : Option (Int × Int × List Int):=(coder_RightEnc.f a0_0 a0_1 l0_2).bind fun t826=>(if t826=true then ((some (([] : List Int) : List Int)).bind fun y827=>(if y827.length+l0_2.length < 140737488355328 then (some (a0_0,a0_1,(y827 ++ l0_2))) else (none))) else ((coder_New.f).bind fun bt833=>(some (bt833.1,bt833.2.1,bt833.2.2))))
set_option maxHeartbeats 8000000 in
set_option maxRecDepth 100000 in
theorem coder_own.calls (a0_0 : Int) (a0_1 : Int) (A0_2 : Option Addr) (c0_2 : Nat) (l0_2 : List Int) (r1 : Int) (r2 : Int) (r3 : List Int) (w : World) (hr0_2 : Kd.C (Kd.int .u8) w A0_2 l0_2.length l0_2) (hc0_2 : l0_2.length≤c0_2) (h : coder_own.f a0_0 a0_1 l0_2=some (r1,r2,r3)) :
  Calls Try.prog 83 #[.agg #[.int .u64 a0_0, .int .u32 a0_1, .slice A0_2 l0_2.length c0_2]] w fun e w' => ∃ v2_ : Value,e=.returned (.agg #[.int .u64 r1, .int .u32 r2,v2_])∧Kd.R (Kd.int .u8) 5 w' w.heap.size (fun _=>True) v2_ r3∧Below w.heap.size w w' := by
 have hu75:=Try.underlying75;have HR0_2:=zm hr0_2;have HC0_2:=zm hc0_2;clear hr0_2 hc0_2;have HB:=zm (Below.refl w.heap.size w)
 have H : ((coder_RightEnc.f a0_0 a0_1 l0_2).bind fun t826=>(if t826=true then ((some (([] : List Int) : List Int)).bind fun y827=>(if y827.length+l0_2.length < 140737488355328 then (some (a0_0,a0_1,(y827 ++ l0_2))) else (none))) else ((coder_New.f).bind fun bt833=>(some (bt833.1,bt833.2.1,bt833.2.2)))))=some (r1,r2,r3):=h
 clear h
 replace H:=ybi H;obtain ⟨t826,A2,H⟩:=H
 by_cases c3 : t826=true
 ·
  subst c3
  rw [if_pos rfl] at H
  obtain ⟨y827,hy827⟩ : ∃ y_ : List Int,y_=(([] : List Int)):=⟨_,rfl⟩
  replace H : (if y827.length+l0_2.length < 140737488355328 then (some (a0_0,a0_1,(y827 ++ l0_2))) else (none))=some (r1,r2,r3):=yrw hy827 H
  have Ny827:=zm hy827;clear hy827
  replace H:=yif H;obtain ⟨c4,H⟩:=H
  have LMc4:=zm c4;clear c4
  obtain ⟨y830,hy830⟩ : ∃ y_ : List Int,y_=(y827 ++ l0_2):=⟨_,rfl⟩
  replace H : (some (a0_0,a0_1,y830))=some (r1,r2,r3):=yrw hy830 H
  have Ny830:=zm hy830;clear hy830
  simp only [Option.some.injEq,Prod.mk.injEq] at H
  obtain ⟨rfl,rfl,rfl⟩:=H
  go_enter Try.func83,Try.ntmps83
  go_wp2_with (first|((with_reducible refine gate_dst (N:=1) rfl ?_);refine ybx 1 #[.int .u64 a0_0, .int .u32 a0_1, .slice A0_2 l0_2.length c0_2] 75 ?_;intro gb824 hg w5 hbox hb;have BK824:=zm (hbox);have GW824:=ygw hg;have GE824:=ygw hg;replace HB:=ybs hb;clear hb hbox hg)|((with_reducible refine gate_dst (N:=2) rfl ?_);refine ybx 2 #[.int .u64 0, .int .u32 0, .slice none 0 0] 75 ?_;intro gb825 hg w6 hbox hb;have BK825:=zm (hbox);have GW825:=ygw hg;have GE825:=ygw hg;replace HB:=ybs hb;have NB824_825:=ynl BK824 hg;have NB825_824:=yng BK824 hg;replace BK824:=ybb BK824 hb;clear hb hbox hg;have:=NB824_825.out;have:=NB825_824.out;obtain ⟨_,_,_,_,_,_⟩:=yc3 BK824)|((with_reducible refine gate_callee (f:=116) rfl ?_);refine ygl 4 Try.func116 #[.agg #[.int .u64 a0_0, .int .u32 a0_1, .slice A0_2 l0_2.length c0_2]] ?_;(with_reducible refine (coder_RightEnc.calls a0_0 a0_1 _ _ l0_2 true _ ?side1 HC0_2.out A2.out).mono ?_);(case side1=>exact ycb HR0_2);rintro e w9 ⟨rfl,hb⟩;refine ⟨_,rfl, ?_⟩;replace BK824:=ybb BK824 hb;replace BK825:=ybb BK825 hb;replace HB:=ybs hb;(try clear hb))|((with_reducible refine gate_dst (N:=7) rfl ?_);refine Kd.R_lit (Kd.int .u8) _ 5 ?hg (N:=7) ?hd (xs:=([] : List Int)) (inner := []) (ok:=fun _=>True) (okp:=fun _=>True) ?hr ?hp (fun _ hk=>hk) trivial (Below.refl _ _) (Nat.le_refl _) (by simp) ?_;(case hd=>rfl);(case hg=>rfl);(case hr=>first|(go_simp;done)|(go_simp;rfl));(case hp=>exact (Reps.none _ _));intro v828 w10 ho11 hb hg_ hnew_;clear hg_ hnew_;(first|rw [← Ny827.out] at ho11|(simp only [Int.reduceToNat] at ho11;rw [← Ny827.out] at ho11));have HO829:=zm (Kd.R_lower ho11 (zE yhb));replace BK824:=ybb BK824 hb;replace BK825:=ybb BK825 hb;replace HB:=ybs hb;clear hb ho11;obtain ⟨_,_,_,_,_,_⟩:=yc3 BK824)|((with_reducible refine gate_builtin (b:=.append) (xs := #[.tmp 7, .tmp 9]) rfl ?_);at_builtin;refine Kd.R_append_rows (Kd.int .u8) (w0:=w) w.heap.size rfl (.tmp 7) (.tmp 9) 36 5 (.int .u8 0) 1 rfl Try.underlying36 info5 rfl (by decide) (by omega) v828 y827 l0_2 _ _ _ (fun _=>True) (fun _=>False) rfl rfl ?aO ?aR (fun _ _ h=>h) (fun _ h=>h.elim) ?aF ?aB ?aS ?aL ?_;(case aR=>exact ycb HR0_2);(case aB=>exact yhb);(case aF=>exact (fun _ _=>trivial));(case aO=>exact (yr HO829));(case aS=>exact (zE yhb));(case aL=>have:=LMc4.out;omega);intro v831 w13 ho hb hg hat;rw [← Ny830.out] at ho;replace BK824:=zm (blk_grown (yk BK824) hg (zu HO829.out BK824.out (by decide)));replace BK825:=zm (blk_grown (yk BK825) hg (zu HO829.out BK825.out (by decide)));replace HB:=zm (hb);have HO832:=zm (ho);clear HO829;clear ho hb hg hat;obtain ⟨Ao14,co14,eo14⟩:=Kd.R_slice HO832.out;subst eo14;obtain ⟨_,_,_,_,_,_⟩:=yc3 BK824;obtain ⟨_,_,_,_,_,_⟩:=yc3 BK825))
  refine bodyPost_ret (results_cell_row rfl _ _ gb825 75 #[.int .u64 a0_0, .int .u32 a0_1, .slice Ao14 y830.length co14] (0,0) _ rfl (ykp BK825) Try.underlying75 rfl (by kernel_rfl)) rfl ?_
  exact ⟨_,ye,yR2 HO832 BK824 BK825,yhb⟩
 ·
  replace c3:=Bool.eq_false_iff.mpr c3
  subst c3
  rw [ynf] at H
  replace H:=ybi H;obtain ⟨⟨t833,t834,t835⟩,A17,H⟩:=H
  try dsimp only at H
  simp only [Option.some.injEq,Prod.mk.injEq] at H
  obtain ⟨rfl,rfl,rfl⟩:=H
  go_enter Try.func83,Try.ntmps83
  go_wp2_with (first|((with_reducible refine gate_dst (N:=1) rfl ?_);refine ybx 1 #[.int .u64 a0_0, .int .u32 a0_1, .slice A0_2 l0_2.length c0_2] 75 ?_;intro gb824 hg w18 hbox hb;have BK824:=zm (hbox);have GW824:=ygw hg;have GE824:=ygw hg;replace HB:=ybs hb;clear hb hbox hg)|((with_reducible refine gate_dst (N:=2) rfl ?_);refine ybx 2 #[.int .u64 0, .int .u32 0, .slice none 0 0] 75 ?_;intro gb825 hg w19 hbox hb;have BK825:=zm (hbox);have GW825:=ygw hg;have GE825:=ygw hg;replace HB:=ybs hb;have NB824_825:=ynl BK824 hg;have NB825_824:=yng BK824 hg;replace BK824:=ybb BK824 hb;clear hb hbox hg;have:=NB824_825.out;have:=NB825_824.out;obtain ⟨_,_,_,_,_,_⟩:=yc3 BK824)|((with_reducible refine gate_callee (f:=116) rfl ?_);refine ygl 4 Try.func116 #[.agg #[.int .u64 a0_0, .int .u32 a0_1, .slice A0_2 l0_2.length c0_2]] ?_;(with_reducible refine (coder_RightEnc.calls a0_0 a0_1 _ _ l0_2 false _ ?side1 HC0_2.out A2.out).mono ?_);(case side1=>exact ycb HR0_2);rintro e w22 ⟨rfl,hb⟩;refine ⟨_,rfl, ?_⟩;replace BK824:=ybb BK824 hb;replace BK825:=ybb BK825 hb;replace HB:=ybs hb;(try clear hb))|((with_reducible refine gate_callee (f:=44) rfl ?_);refine ygl 6 Try.func44 #[] ?_;(with_reducible refine (coder_New.calls  t833 t834 t835 _ A17.out).mono ?_);rintro e w23 ⟨v836,rfl,ho0,hb⟩;refine ⟨_,rfl, ?_⟩;have HO837:=zm (Kd.R_lower ho0 (zE yhb));replace BK824:=ybb BK824 hb;replace BK825:=ybb BK825 hb;replace HB:=ybs hb;(try clear hb);(try clear ho0);obtain ⟨_,_,_,_,_,_⟩:=yc3 BK825;obtain ⟨Ao25,co25,eo25⟩:=Kd.R_slice HO837.out;subst eo25))
  refine bodyPost_ret (results_cell_row rfl _ _ gb825 75 #[.int .u64 t833, .int .u32 t834, .slice Ao25 t835.length co25] (0,0) _ rfl (ykp BK825) Try.underlying75 rfl (by kernel_rfl)) rfl ?_
  exact ⟨_,ye,yR1 HO837 BK825,yhb⟩
def cpack_gains.l0 : Nat→Int→List (List Int)→List (List Int)→Int→Int→Option (Bool)
 | 0,_,_,_,_,_=>none
 | k+1,x0,x1,x7,x8,x9=>if x9 < x8 then (if 0≤x9 then (if x9 < (x7.length : Int) then ((gain_Right.f k (rd_L2 x7 x9)).bind fun t821=>(if t821=true then (cpack_gains.l0 k x0 x1 x7 x8 (wrap64 (x9+1))) else (some false))) else (none)) else (none)) else (some ((x1.length : Int) == x0))
def cpack_gains.f (k : Nat) (a0 : Int) (l1 : List (List Int)) : Option (Bool):=cpack_gains.l0 k a0 l1 l1 (l1.length : Int) 0
theorem cpack_gains.mono_l : ∀ k,(∀ y0 y1 y2 y3 y4,LeO (cpack_gains.l0 k y0 y1 y2 y3 y4) (cpack_gains.l0 (k+1) y0 y1 y2 y3 y4))
 | 0=>fun _ _ _ _ _ r h=>by simp [cpack_gains.l0] at h
 | k+1=>by
  have ih0:=cpack_gains.mono_l k
  ·
   intro y0 y1 y2 y3 y4
   unfold cpack_gains.l0
   repeat' with_reducible first|apply ih0|apply gain_Right.mono|apply yLr|apply yLn|apply yLi|apply yLb|intro _
theorem cpack_gains.mono : ∀ a0 a1 k,LeO (cpack_gains.f k a0 a1) (cpack_gains.f (k+1) a0 a1):=by
 intro a0 a1 k
 have ih0:=cpack_gains.mono_l k
 unfold cpack_gains.f
 repeat' with_reducible first|apply ih0|apply gain_Right.mono|apply yLr|apply yLn|apply yLi|apply yLb|intro _
set_option maxHeartbeats 8000000 in
set_option maxRecDepth 100000 in
theorem cpack_gains.calls (k : Nat) (a0 : Int) (A1 : Option Addr) (c1 : Nat) (l1 : List (List Int)) (r : Bool) (w : World) (hr1 : Kd.C (Kd.slice 3 (Kd.int .i64)) w A1 l1.length l1) (hc1 : l1.length≤c1) (h : cpack_gains.f k a0 l1=some r) :
  Calls Try.prog 42 #[.int .i64 a0, .slice A1 l1.length c1] w fun e w' => e=.returned (.bool r)∧Drawn0 w w' := by
 have HR1:=zm hr1;have HC1:=zm hc1;clear hr1 hc1
 have H : (cpack_gains.l0 k a0 l1 l1 (l1.length : Int) 0)=some r:=h
 clear h
 have H' := zm H
 clear H
 go_enter Try.func42,Try.ntmps42
 go_wp2
 go_loopg [9] k (fun kq v9 w' => ∃ (x9_1 : Int),v9=.int .i64 x9_1∧Aside0 (cpack_gains.l0 kq a0 l1 l1 (l1.length : Int) x9_1=some r)∧Aside0 (kq≤k)∧Drawn0 w w')
 case atStart=>exact ⟨(0),yq,H',⟨Nat.le_refl _⟩,yd⟩
 case round =>
  clear H'
  try clear c1
  obtain ⟨x9_1,rfl,HA,HK1,⟨m1,rfl⟩⟩:=hrel
  obtain ⟨k1,rfl⟩:=ysu gk (fun h=>by subst h;exact absurd HA.out (by simp [cpack_gains.l0]))
  have H:=HA.out;clear HA
  simp only [cpack_gains.l0] at H
  by_cases c3 : x9_1 < (l1.length : Int)
  ·
   rw [if_pos c3] at H
   have c3b0 : decide (x9_1 < (l1.length : Int))=true:=decide_eq_true c3
   clear c3
   replace H:=yif H;obtain ⟨c4,H⟩:=H
   have c4b0 : decide (0≤x9_1)=true:=decide_eq_true c4
   clear c4
   replace H:=yif H;obtain ⟨c5,H⟩:=H
   have c5b0 : decide (x9_1 < (l1.length : Int))=true:=decide_eq_true c5
   clear c5
   replace H:=ybi H;obtain ⟨t821,A6,H⟩:=H
   by_cases c7 : t821=true
   ·
    subst c7
    rw [if_pos rfl] at H
    have H' := zm H
    clear H
    have p820 : 0≤(x9_1 : Int):=yt
    have q820 : x9_1 < (l1.length : Int):=yt
    obtain ⟨ad820,A820_0,c820_0,e820,hx820_0,hl820_0,hi820_0⟩:=at_L2 HR1.out x9_1 p820 q820
    cases e820
    have HR820_0:=zm hi820_0;have HC820_0:=zm hl820_0;clear hi820_0 hl820_0
    replace p820:=eq_true p820
    replace q820:=eq_true q820
    go_wp2_with (first|((with_reducible refine gate_callee (f:=72) rfl ?_);refine ygl 14 Try.func72 #[.slice A820_0 (rd_L2 l1 x9_1).length c820_0] ?_;(with_reducible refine (gain_Right.calls k1 _ _ (rd_L2 l1 x9_1) true _ ?side1 HC820_0.out A6.out).mono ?_);(case side1=>exact yce HR820_0.out);rintro e w' ⟨rfl,⟨nd,rfl⟩⟩;refine ⟨_,rfl, ?_⟩))
    go_roundg k1
    case measure=>exact yom1 HK1
    case rel=>exact ⟨(wrap64 (x9_1+1)),yq,H',⟨yom1 HK1⟩,yd⟩
   ·
    replace c7:=Bool.eq_false_iff.mpr c7
    subst c7
    rw [ynf] at H
    obtain rfl:=Option.some.inj H
    have p820 : 0≤(x9_1 : Int):=yt
    have q820 : x9_1 < (l1.length : Int):=yt
    obtain ⟨ad820,A820_0,c820_0,e820,hx820_0,hl820_0,hi820_0⟩:=at_L2 HR1.out x9_1 p820 q820
    cases e820
    have HR820_0:=zm hi820_0;have HC820_0:=zm hl820_0;clear hi820_0 hl820_0
    replace p820:=eq_true p820
    replace q820:=eq_true q820
    go_wp2_with (first|((with_reducible refine gate_callee (f:=72) rfl ?_);refine ygl 14 Try.func72 #[.slice A820_0 (rd_L2 l1 x9_1).length c820_0] ?_;(with_reducible refine (gain_Right.calls k1 _ _ (rd_L2 l1 x9_1) false _ ?side1 HC820_0.out A6.out).mono ?_);(case side1=>exact yce HR820_0.out);rintro e w' ⟨rfl,⟨nd,rfl⟩⟩;refine ⟨_,rfl, ?_⟩))
    go_ret
    exact ⟨yq,yd⟩
  ·
   rw [if_neg c3] at H
   have c3b0 : decide (x9_1 < (l1.length : Int))=false:=decide_eq_false c3
   clear c3
   obtain rfl:=Option.some.inj H
   go_wp2
   go_ret
   exact ⟨yq,yd⟩
def psalteryref03_Clamp.f (a0 : Int) (a1 : Int) (a2 : Int) : Option (Int):=if a0 < a1 then (some a1) else (if a0 > a2 then (some a2) else (some a0))
set_option maxHeartbeats 8000000 in
set_option maxRecDepth 100000 in
theorem psalteryref03_Clamp.calls (a0 : Int) (a1 : Int) (a2 : Int) (r : Int) (w : World) (h : psalteryref03_Clamp.f a0 a1 a2=some r) :
  Calls Try.prog 109 #[.int .i64 a0, .int .i64 a1, .int .i64 a2] w fun e w' => e=.returned (.int .i64 r)∧Drawn0 w w' := by
 have H : (if a0 < a1 then (some a1) else (if a0 > a2 then (some a2) else (some a0)))=some r:=h
 clear h
 by_cases c4 : a0 < a1
 ·
  rw [if_pos c4] at H
  have c4b0 : decide (a0 < a1)=true:=decide_eq_true c4
  clear c4
  obtain rfl:=Option.some.inj H
  go_enter Try.func109,Try.ntmps109
  go_wp2
  go_ret
  exact ⟨yq,yd⟩
 ·
  rw [if_neg c4] at H
  have c4b0 : decide (a0 < a1)=false:=decide_eq_false c4
  clear c4
  by_cases c5 : a0 > a2
  ·
   rw [if_pos c5] at H
   have c5b0 : decide (a2 < a0)=true:=decide_eq_true c5
   clear c5
   obtain rfl:=Option.some.inj H
   go_enter Try.func109,Try.ntmps109
   go_wp2
   go_ret
   exact ⟨yq,yd⟩
  ·
   rw [if_neg c5] at H
   have c5b0 : decide (a2 < a0)=false:=decide_eq_false c5
   clear c5
   obtain rfl:=Option.some.inj H
   go_enter Try.func109,Try.ntmps109
   go_wp2
   go_ret
   exact ⟨yq,yd⟩
mutual
def psalteryref23_Band.j2 : Nat→List Int→Option (List Int)
 | 0,_=>none
 | k+1,x8=>psalteryref23_Band.l1 k x8 ([] : List Int) 0
def psalteryref23_Band.l1 : Nat→List Int→List Int→Int→Option (List Int)
 | 0,_,_,_=>none
 | k+1,x8,x11,x12=>if x12 < (x8.length : Int) then (if 0≤x12 then ((psalteryref03_Clamp.f (rd x8 x12) (-1048576) 1048576).bind fun t635=>(if x11.length < 17592186044416 then (psalteryref23_Band.l1 k x8 (x11 ++ [t635]) (wrap64 (x12+1))) else (none))) else (none)) else (some x11)
def psalteryref23_Band.l0 : Nat→List Int→List Int→Int→List Int→Int→Option (List Int)
 | 0,_,_,_,_,_=>none
 | k+1,x0,x2,x7,x8,x9=>if x9 < (x0.length : Int) then (if x7 > 0 then (psalteryref23_Band.j1 k x0 x2 x7 x8 x9 0 (decide ((x2.length : Int) > 0))) else (psalteryref23_Band.j1 k x0 x2 x7 x8 x9 0 false)) else (psalteryref23_Band.j2 k x8)
def psalteryref23_Band.j1 : Nat→List Int→List Int→Int→List Int→Int→Int→Bool→Option (List Int)
 | 0,_,_,_,_,_,_,_=>none
 | k+1,x0,x2,x7,x8,x9,x10,x33=>if x33=true then ((psalteryref03_Sqrt.f k (IntKind.u64.wrap (wrap64 (65536 * (x0.length : Int))))).bind fun t622=>((psalteryref03_Div.f k (wrap64 (256 * x7)) (wrap64 (t622))).bind fun t623=>(if (x2.length : Int)=0 then (none) else (if 0≤(Int.tmod x9 (x2.length : Int)) then (if (Int.tmod x9 (x2.length : Int)) < (x2.length : Int) then (if (rd x2 (Int.tmod x9 (x2.length : Int))) < 0 then (if x8.length < 17592186044416 then (psalteryref23_Band.l0 k x0 x2 x7 (x8 ++ [wrap64 (-t623)]) (wrap64 (x9+1))) else (none)) else (if x8.length < 17592186044416 then (psalteryref23_Band.l0 k x0 x2 x7 (x8 ++ [t623]) (wrap64 (x9+1))) else (none))) else (none)) else (none))))) else (if x8.length < 17592186044416 then (psalteryref23_Band.l0 k x0 x2 x7 (x8 ++ [x10]) (wrap64 (x9+1))) else (none))
end
def psalteryref23_Band.f (k : Nat) (l0 : List Int) (a1 : Int) (l2 : List Int) : Option (List Int):=(psalteryref10_Value.f k a1).bind fun t617=>((psalteryref06_Pulses.f k l0).bind fun t618=>(if t618 > 0 then ((psalteryref07_Shape.f k l0 t617).bind fun t619=>(psalteryref23_Band.j2 k t619)) else (psalteryref23_Band.l0 k l0 l2 t617 ([] : List Int) 0)))
theorem psalteryref23_Band.mono_l : ∀ k,(∀ y0,LeO (psalteryref23_Band.j2 k y0) (psalteryref23_Band.j2 (k+1) y0))∧(∀ y0 y1 y2,LeO (psalteryref23_Band.l1 k y0 y1 y2) (psalteryref23_Band.l1 (k+1) y0 y1 y2))∧(∀ y0 y1 y2 y3 y4,LeO (psalteryref23_Band.l0 k y0 y1 y2 y3 y4) (psalteryref23_Band.l0 (k+1) y0 y1 y2 y3 y4))∧(∀ y0 y1 y2 y3 y4 y5 y6,LeO (psalteryref23_Band.j1 k y0 y1 y2 y3 y4 y5 y6) (psalteryref23_Band.j1 (k+1) y0 y1 y2 y3 y4 y5 y6))
 | 0=>⟨fun _ r h=>by simp [psalteryref23_Band.j2] at h,fun _ _ _ r h=>by simp [psalteryref23_Band.l1] at h,fun _ _ _ _ _ r h=>by simp [psalteryref23_Band.l0] at h,fun _ _ _ _ _ _ _ r h=>by simp [psalteryref23_Band.j1] at h⟩
 | k+1=>by
  obtain ⟨ih0,ih1,ih2,ih3⟩:=psalteryref23_Band.mono_l k
  refine ⟨?_, ?_, ?_, ?_⟩
  ·
   intro y0
   unfold psalteryref23_Band.j2
   repeat' with_reducible first|apply ih0|apply ih1|apply ih2|apply ih3|apply psalteryref03_Div.mono|apply psalteryref03_Sqrt.mono|apply psalteryref06_Pulses.mono|apply psalteryref07_Shape.mono|apply psalteryref10_Value.mono|apply yLr|apply yLn|apply yLi|apply yLb|intro _
  ·
   intro y0 y1 y2
   unfold psalteryref23_Band.l1
   repeat' with_reducible first|apply ih0|apply ih1|apply ih2|apply ih3|apply psalteryref03_Div.mono|apply psalteryref03_Sqrt.mono|apply psalteryref06_Pulses.mono|apply psalteryref07_Shape.mono|apply psalteryref10_Value.mono|apply yLr|apply yLn|apply yLi|apply yLb|intro _
  ·
   intro y0 y1 y2 y3 y4
   unfold psalteryref23_Band.l0
   repeat' with_reducible first|apply ih0|apply ih1|apply ih2|apply ih3|apply psalteryref03_Div.mono|apply psalteryref03_Sqrt.mono|apply psalteryref06_Pulses.mono|apply psalteryref07_Shape.mono|apply psalteryref10_Value.mono|apply yLr|apply yLn|apply yLi|apply yLb|intro _
  ·
   intro y0 y1 y2 y3 y4 y5 y6
   unfold psalteryref23_Band.j1
   repeat' with_reducible first|apply ih0|apply ih1|apply ih2|apply ih3|apply psalteryref03_Div.mono|apply psalteryref03_Sqrt.mono|apply psalteryref06_Pulses.mono|apply psalteryref07_Shape.mono|apply psalteryref10_Value.mono|apply yLr|apply yLn|apply yLi|apply yLb|intro _
theorem psalteryref23_Band.mono : ∀ a0 a1 a2 k,LeO (psalteryref23_Band.f k a0 a1 a2) (psalteryref23_Band.f (k+1) a0 a1 a2):=by
 intro a0 a1 a2 k
 obtain ⟨ih0,ih1,ih2,ih3⟩:=psalteryref23_Band.mono_l k
 unfold psalteryref23_Band.f
 repeat' with_reducible first|apply ih0|apply ih1|apply ih2|apply ih3|apply psalteryref03_Div.mono|apply psalteryref03_Sqrt.mono|apply psalteryref06_Pulses.mono|apply psalteryref07_Shape.mono|apply psalteryref10_Value.mono|apply yLr|apply yLn|apply yLi|apply yLb|intro _
set_option maxHeartbeats 8000000 in
set_option maxRecDepth 100000 in
theorem psalteryref23_Band.calls (k : Nat) (A0 : Option Addr) (c0 : Nat) (l0 : List Int) (a1 : Int) (A2 : Option Addr) (c2 : Nat) (l2 : List Int) (r : List Int) (w : World) (hr0 : Kd.C (Kd.int .i64) w A0 l0.length l0) (hc0 : l0.length≤c0) (hr2 : Kd.C (Kd.int .i64) w A2 l2.length l2) (hc2 : l2.length≤c2) (h : psalteryref23_Band.f k l0 a1 l2=some r) :
  Calls Try.prog 67 #[.slice A0 l0.length c0, .int .i64 a1, .slice A2 l2.length c2] w fun e w' => ∃ v0_ : Value,e=.returned (v0_)∧Kd.R (Kd.int .i64) 2 w' w.heap.size (fun _=>True) v0_ r∧Below w.heap.size w w' := by
 have HR0:=zm hr0;have HC0:=zm hc0;clear hr0 hc0;have HR2:=zm hr2;have HC2:=zm hc2;clear hr2 hc2;have HB:=zm (Below.refl w.heap.size w)
 have H : ((psalteryref10_Value.f k a1).bind fun t617=>((psalteryref06_Pulses.f k l0).bind fun t618=>(if t618 > 0 then ((psalteryref07_Shape.f k l0 t617).bind fun t619=>(psalteryref23_Band.j2 k t619)) else (psalteryref23_Band.l0 k l0 l2 t617 ([] : List Int) 0))))=some r:=h
 clear h
 replace H:=ybi H;obtain ⟨t617,A4,H⟩:=H
 replace H:=ybi H;obtain ⟨t618,A5,H⟩:=H
 have HC6:=zm H;clear H
 go_enter Try.func67,Try.ntmps67
 go_upto_if 17 with (first|((with_reducible refine gate_callee (f:=30) rfl ?_);refine ygl 14 Try.func30 #[.int .i64 a1] ?_;(with_reducible refine (psalteryref10_Value.calls k a1 t617 _ A4.out).mono ?_);rintro e w' ⟨rfl,⟨nd,rfl⟩⟩;refine ⟨_,rfl, ?_⟩)|((with_reducible refine gate_callee (f:=27) rfl ?_);refine ygl 16 Try.func27 #[.slice A0 l0.length c0] ?_;(with_reducible refine (psalteryref06_Pulses.calls k _ _ l0 t618 _ ?side1 HC0.out A5.out).mono ?_);(case side1=>exact yce HR0.out);rintro e w' ⟨rfl,⟨nd,rfl⟩⟩;refine ⟨_,rfl, ?_⟩))
 (try simp only [Act.put,List.setIfInBounds_toArray,List.set_cons_zero,List.set_cons_succ])
 go_cut [8] (fun v8 wc => ∃ (kq : Nat) (x8_5 : List Int),Aside0 (psalteryref23_Band.j2 kq x8_5=some r)∧Aside0 (kq≤k)∧Aside0 (Kd.R (Kd.int .i64) 2 wc w.heap.size (fun _=>True) v8 x8_5)∧Aside0 (Below w.heap.size w wc))
 case first =>
  have H:=HC6.out;clear HC6
  by_cases c7 : t618 > 0
  ·
   rw [if_pos c7] at H
   have c7b0 : decide (0 < t618)=true:=decide_eq_true c7
   clear c7
   (first|rw [c7b0]|(simp only [i64_w,i32_w];rw [c7b0])|skip)
   replace H:=ybi H;obtain ⟨t619,A8,H⟩:=H
   have H' := zm H
   clear H
   go_wp2_with (first|((with_reducible refine gate_callee (f:=107) rfl ?_);refine ygl 20 Try.func107 #[.slice A0 l0.length c0, .int .i64 t617] ?_;(with_reducible refine (psalteryref07_Shape.calls k _ _ l0 t617 t619 _ ?side1 HC0.out A8.out).mono ?_);(case side1=>exact ycb HR0);rintro e w9 ⟨v620,rfl,ho0,hb⟩;refine ⟨_,rfl, ?_⟩;have HO621:=zm (Kd.R_lower ho0 (zE yhb));replace HB:=ybs hb;(try clear hb);(try clear ho0)))
   go_meet
   case rel=>exact ⟨_,(t619),H',⟨yo⟩,⟨yr HO621⟩,⟨yhb⟩⟩
  ·
   rw [if_neg c7] at H
   have c7b0 : decide (0 < t618)=false:=decide_eq_false c7
   clear c7
   (first|rw [c7b0]|(simp only [i64_w,i32_w];rw [c7b0])|skip)
   have H' := zm H
   clear H
   go_wp2
   go_loopg [8,9] k (fun kq v8 v9 w' => ∃ (x8_1 : List Int) (x9_1 : Int),v9=.int .i64 x9_1∧Aside0 (psalteryref23_Band.l0 kq l0 l2 t617 x8_1 x9_1=some r)∧Aside0 (kq≤k)∧Aside0 (Kd.R (Kd.int .i64) 2 w' w.heap.size (fun _=>True) v8 x8_1)∧Aside0 (Below w.heap.size w w'))
   case atStart=>exact ⟨(([] : List Int)),(0),yq,H',⟨Nat.le_refl _⟩,⟨yn⟩,⟨yhb⟩⟩
   case round =>
    clear H'
    try clear c2
    try clear c7b0
    obtain ⟨x8_1,x9_1,rfl,HA,HK1,HO_8,HB⟩:=hrel
    obtain ⟨k1,rfl⟩:=ysu gk (fun h=>by subst h;exact absurd HA.out (by simp [psalteryref23_Band.l0]))
    have H:=HA.out;clear HA
    simp only [psalteryref23_Band.l0] at H
    by_cases c10 : x9_1 < (l0.length : Int)
    ·
     rw [if_pos c10] at H
     have c10b0 : decide (x9_1 < (l0.length : Int))=true:=decide_eq_true c10
     clear c10;have HC11:=zm H;clear H
     go_upto_region 9 with (fail)
     go_cut [33] (fun v33 wc => ∃ (kq : Nat) (x33_10 : Bool),v33=.bool x33_10∧Aside0 (psalteryref23_Band.j1 kq l0 l2 t617 x8_1 x9_1 0 x33_10=some r)∧Aside0 (kq≤k1)∧Aside0 (Kd.R (Kd.int .i64) 2 wc w.heap.size (fun _=>True) u8 x8_1)∧Aside0 (Below w.heap.size w wc))
     case first =>
      have H:=HC11.out;clear HC11
      by_cases c12 : t617 > 0
      ·
       rw [if_pos c12] at H
       have c12b0 : decide (0 < t617)=true:=decide_eq_true c12
       clear c12
       (first|rw [c12b0]|(simp only [i64_w,i32_w];rw [c12b0])|skip)
       have H' := zm H
       clear H
       go_wp2
       go_meet
       case rel=>exact ⟨_,(decide ((l2.length : Int) > 0)),yq,H',⟨yom1 HK1⟩,⟨yr HO_8⟩,⟨yhb⟩⟩
      ·
       rw [if_neg c12] at H
       have c12b0 : decide (0 < t617)=false:=decide_eq_false c12
       clear c12
       (first|rw [c12b0]|(simp only [i64_w,i32_w];rw [c12b0])|skip)
       have H' := zm H
       clear H
       go_wp2
       go_meet
       case rel=>exact ⟨_,(false),yq,H',⟨yom1 HK1⟩,⟨yr HO_8⟩,⟨yhb⟩⟩
     case rest =>
      clear HC11
      try clear c10b0
      obtain ⟨kq,x33_10,rfl,HA,HJ10,HO_8,HB⟩:=hcut
      obtain ⟨kj10,rfl⟩:=ysu kq (fun h=>by subst h;exact absurd HA.out (by simp [psalteryref23_Band.j1]))
      have H:=HA.out;clear HA
      simp only [psalteryref23_Band.j1] at H
      by_cases c13 : x33_10=true
      ·
       subst c13
       rw [if_pos rfl] at H
       replace H:=ybi H;obtain ⟨t622,A14,H⟩:=H
       replace H:=ybi H;obtain ⟨t623,A15,H⟩:=H
       replace H:=yie H;obtain ⟨c16,H⟩:=H
       have c16b0 : ((l2.length : Int) == 0)=false:=beq_eq_false_iff_ne.mpr c16
       have c16b1 : ((l2.length : Int) != 0)=true:=bne_iff_ne.mpr c16
       have c16b2 : ¬ (l2 = []):=fun h_=>c16 (by rw [h_];rfl)
       obtain ⟨ji17,hji17⟩ : ∃ j_ : Int,(Int.tmod x9_1 (l2.length : Int))=j_:=⟨_,rfl⟩
       replace H : (if 0≤(ji17) then (if (ji17) < (l2.length : Int) then (if (rd l2 (ji17)) < 0 then (if x8_1.length < 17592186044416 then (psalteryref23_Band.l0 kj10 l0 l2 t617 (x8_1 ++ [wrap64 (-t623)]) (wrap64 (x9_1+1))) else (none)) else (if x8_1.length < 17592186044416 then (psalteryref23_Band.l0 kj10 l0 l2 t617 (x8_1 ++ [t623]) (wrap64 (x9_1+1))) else (none))) else (none)) else (none))=some r:=by first|(rw [hji17] at H;exact H)|(simp only [hji17] at H ⊢; exact H)
       (try rw [hji17] at A14)
       (try rw [hji17] at A15)
       replace H:=yif H;obtain ⟨c18,H⟩:=H
       have c18b0 : decide (0≤(ji17))=true:=decide_eq_true c18
       clear c18
       replace H:=yif H;obtain ⟨c19,H⟩:=H
       have c19b0 : decide ((ji17) < (l2.length : Int))=true:=decide_eq_true c19
       clear c19
       by_cases c20 : (rd l2 (ji17)) < 0
       ·
        rw [if_pos c20] at H
        have c20b0 : decide ((rd l2 (ji17)) < 0)=true:=decide_eq_true c20
        clear c20
        replace H:=yif H;obtain ⟨c21,H⟩:=H
        have LMc21:=zm c21;clear c21
        obtain ⟨y625,hy625⟩ : ∃ y_ : List Int,y_=(x8_1 ++ [wrap64 (-t623)]):=⟨_,rfl⟩
        replace H : (psalteryref23_Band.l0 kj10 l0 l2 t617 y625 (wrap64 (x9_1+1)))=some r:=yrw hy625 H
        have Ny625:=zm hy625;clear hy625
        have H' := zm H
        clear H
        go_wp2_with (first|((with_reducible refine gate_callee (f:=31) rfl ?_);refine ygl 40 Try.func31 #[.int .u64 (IntKind.u64.wrap (wrap64 (65536 * (l0.length : Int))))] ?_;(with_reducible refine (psalteryref03_Sqrt.calls kj10 (IntKind.u64.wrap (wrap64 (65536 * (l0.length : Int)))) t622 _ A14.out).mono ?_);rintro e w' ⟨rfl,⟨nd,rfl⟩⟩;refine ⟨_,rfl, ?_⟩)|((with_reducible refine gate_callee (f:=108) rfl ?_);refine ygl 42 Try.func108 #[.int .i64 (wrap64 (256 * t617)), .int .i64 (wrap64 (t622))] ?_;(with_reducible refine (psalteryref03_Div.calls kj10 (wrap64 (256 * t617)) (wrap64 (t622)) t623 _ A15.out).mono ?_);rintro e w' ⟨rfl,⟨nd,rfl⟩⟩;refine ⟨_,rfl, ?_⟩;have p624 : 0≤((ji17) : Int):=yt;have q624 : (ji17) < (l2.length : Int):=yt;obtain ⟨ad624,e624,hx624_0⟩:=Kd.at_int HR2.out (ji17) p624 q624;cases e624;replace hx624_0:=yhx HB hx624_0;replace p624:=eq_true p624;replace q624:=eq_true q624)|((with_reducible refine gate_builtin (b:=.append) (xs := #[.tmp 53, .tmp 55]) rfl ?_);(try (refine gate_guard (by rfl) ?_;dsimp only));at_builtin;refine Kd.R_append (Kd.int .i64) (w0:=w) w.heap.size rfl (.tmp 53) (.tmp 55) 53 2 (.int .i64 0) 8 rfl Try.underlying53 info2 rfl (by decide) (by omega) u8 x8_1 (wrap64 (-t623)) [.int .i64 (wrap64 (-t623))] (fun _=>True) (fun _=>False) rfl rfl ?aP (fun _ hk=>hk.elim) ?aF ?aO ?aB ?aS ?aL ?_;(case aP=>exact rfl);(case aB=>exact yhb);(case aF=>exact (fun _ _=>trivial));(case aO=>exact (yr HO_8));(case aS=>exact (zE yhb));(case aL=>have:=LMc21.out;omega);intro v626 w22 ho hb hg hat;rw [← Ny625.out] at ho;replace HB:=zm (hb);have HO627:=zm (ho);clear HO_8;clear ho hb hg hat))
        go_roundg kj10
        case measure=>exact yom2 HK1 HJ10
        case rel=>exact ⟨(y625),(wrap64 (x9_1+1)),yq,H',⟨yom2 HK1 HJ10⟩,⟨yr HO627⟩,⟨yhb⟩⟩
       ·
        rw [if_neg c20] at H
        have c20b0 : decide ((rd l2 (ji17)) < 0)=false:=decide_eq_false c20
        clear c20
        replace H:=yif H;obtain ⟨c23,H⟩:=H
        have LMc23:=zm c23;clear c23
        obtain ⟨y628,hy628⟩ : ∃ y_ : List Int,y_=(x8_1 ++ [t623]):=⟨_,rfl⟩
        replace H : (psalteryref23_Band.l0 kj10 l0 l2 t617 y628 (wrap64 (x9_1+1)))=some r:=yrw hy628 H
        have Ny628:=zm hy628;clear hy628
        have H' := zm H
        clear H
        go_wp2_with (first|((with_reducible refine gate_callee (f:=31) rfl ?_);refine ygl 40 Try.func31 #[.int .u64 (IntKind.u64.wrap (wrap64 (65536 * (l0.length : Int))))] ?_;(with_reducible refine (psalteryref03_Sqrt.calls kj10 (IntKind.u64.wrap (wrap64 (65536 * (l0.length : Int)))) t622 _ A14.out).mono ?_);rintro e w' ⟨rfl,⟨nd,rfl⟩⟩;refine ⟨_,rfl, ?_⟩)|((with_reducible refine gate_callee (f:=108) rfl ?_);refine ygl 42 Try.func108 #[.int .i64 (wrap64 (256 * t617)), .int .i64 (wrap64 (t622))] ?_;(with_reducible refine (psalteryref03_Div.calls kj10 (wrap64 (256 * t617)) (wrap64 (t622)) t623 _ A15.out).mono ?_);rintro e w' ⟨rfl,⟨nd,rfl⟩⟩;refine ⟨_,rfl, ?_⟩;have p624 : 0≤((ji17) : Int):=yt;have q624 : (ji17) < (l2.length : Int):=yt;obtain ⟨ad624,e624,hx624_0⟩:=Kd.at_int HR2.out (ji17) p624 q624;cases e624;replace hx624_0:=yhx HB hx624_0;replace p624:=eq_true p624;replace q624:=eq_true q624)|((with_reducible refine gate_builtin (b:=.append) (xs := #[.tmp 53, .tmp 55]) rfl ?_);(try (refine gate_guard (by rfl) ?_;dsimp only));at_builtin;refine Kd.R_append (Kd.int .i64) (w0:=w) w.heap.size rfl (.tmp 53) (.tmp 55) 53 2 (.int .i64 0) 8 rfl Try.underlying53 info2 rfl (by decide) (by omega) u8 x8_1 t623 [.int .i64 t623] (fun _=>True) (fun _=>False) rfl rfl ?aP (fun _ hk=>hk.elim) ?aF ?aO ?aB ?aS ?aL ?_;(case aP=>exact rfl);(case aB=>exact yhb);(case aF=>exact (fun _ _=>trivial));(case aO=>exact (yr HO_8));(case aS=>exact (zE yhb));(case aL=>have:=LMc23.out;omega);intro v629 w24 ho hb hg hat;rw [← Ny628.out] at ho;replace HB:=zm (hb);have HO630:=zm (ho);clear HO_8;clear ho hb hg hat))
        go_roundg kj10
        case measure=>exact yom2 HK1 HJ10
        case rel=>exact ⟨(y628),(wrap64 (x9_1+1)),yq,H',⟨yom2 HK1 HJ10⟩,⟨yr HO630⟩,⟨yhb⟩⟩
      ·
       replace c13:=Bool.eq_false_iff.mpr c13
       subst c13
       rw [ynf] at H
       replace H:=yif H;obtain ⟨c25,H⟩:=H
       have LMc25:=zm c25;clear c25
       obtain ⟨y631,hy631⟩ : ∃ y_ : List Int,y_=(x8_1 ++ [0]):=⟨_,rfl⟩
       replace H : (psalteryref23_Band.l0 kj10 l0 l2 t617 y631 (wrap64 (x9_1+1)))=some r:=yrw hy631 H
       have Ny631:=zm hy631;clear hy631
       have H' := zm H
       clear H
       go_wp2_with (first|((with_reducible refine gate_builtin (b:=.append) (xs := #[.tmp 53, .tmp 55]) rfl ?_);(try (refine gate_guard (by rfl) ?_;dsimp only));at_builtin;refine Kd.R_append (Kd.int .i64) (w0:=w) w.heap.size rfl (.tmp 53) (.tmp 55) 53 2 (.int .i64 0) 8 rfl Try.underlying53 info2 rfl (by decide) (by omega) u8 x8_1 0 [.int .i64 0] (fun _=>True) (fun _=>False) rfl rfl ?aP (fun _ hk=>hk.elim) ?aF ?aO ?aB ?aS ?aL ?_;(case aP=>exact rfl);(case aB=>exact yhb);(case aF=>exact (fun _ _=>trivial));(case aO=>exact (yr HO_8));(case aS=>exact (zE yhb));(case aL=>have:=LMc25.out;omega);intro v632 w26 ho hb hg hat;rw [← Ny631.out] at ho;replace HB:=zm (hb);have HO633:=zm (ho);clear HO_8;clear ho hb hg hat))
       go_roundg kj10
       case measure=>exact yom2 HK1 HJ10
       case rel=>exact ⟨(y631),(wrap64 (x9_1+1)),yq,H',⟨yom2 HK1 HJ10⟩,⟨yr HO633⟩,⟨yhb⟩⟩
    ·
     rw [if_neg c10] at H
     have c10b0 : decide (x9_1 < (l0.length : Int))=false:=decide_eq_false c10
     clear c10
     have H' := zm H
     clear H
     go_wp2
     go_meet
     case rel=>exact ⟨_,(x8_1),H',⟨yom1 HK1⟩,⟨yr HO_8⟩,⟨yhb⟩⟩
 case rest =>
  clear HC6
  try clear c2
  obtain ⟨kq,x8_5,HA,HJ5,HO_8,HB⟩:=hcut
  obtain ⟨kj5,rfl⟩:=ysu kq (fun h=>by subst h;exact absurd HA.out (by simp [psalteryref23_Band.j2]))
  have H:=HA.out;clear HA
  simp only [psalteryref23_Band.j2] at H
  have H' := zm H
  clear H
  go_wp2
  go_loopg [11,12] kj5 (fun kq v11 v12 w' => ∃ (x11_2 : List Int) (x12_2 : Int),v12=.int .i64 x12_2∧Aside0 (psalteryref23_Band.l1 kq x8_5 x11_2 x12_2=some r)∧Aside0 (kq≤kj5)∧Aside0 (Kd.R (Kd.int .i64) 2 w' w.heap.size (fun k_=>some k_≠(v11 : Value).ownBlock) u8 x8_5)∧Aside0 (Kd.R (Kd.int .i64) 2 w' w.heap.size (fun k_=>some k_≠(u8 : Value).ownBlock) v11 x11_2)∧Aside0 (Below w.heap.size w w'))
  case atStart=>exact ⟨(([] : List Int)),(0),yq,H',⟨Nat.le_refl _⟩,⟨yR0 HO_8⟩,⟨yn⟩,⟨yhb⟩⟩
  case round =>
   clear H'
   obtain ⟨x11_2,x12_2,rfl,HA,HK2,HO_8,HO_11,HB⟩:=hrel
   obtain ⟨k2,rfl⟩:=ysu gk (fun h=>by subst h;exact absurd HA.out (by simp [psalteryref23_Band.l1]))
   have H:=HA.out;clear HA
   simp only [psalteryref23_Band.l1] at H
   by_cases c27 : x12_2 < (x8_5.length : Int)
   ·
    rw [if_pos c27] at H
    have c27b0 : decide (x12_2 < (x8_5.length : Int))=true:=decide_eq_true c27
    clear c27
    replace H:=yif H;obtain ⟨c28,H⟩:=H
    have c28b0 : decide (0≤x12_2)=true:=decide_eq_true c28
    clear c28
    replace H:=ybi H;obtain ⟨t635,A29,H⟩:=H
    replace H:=yif H;obtain ⟨c30,H⟩:=H
    have LMc30:=zm c30;clear c30
    obtain ⟨y636,hy636⟩ : ∃ y_ : List Int,y_=(x11_2 ++ [t635]):=⟨_,rfl⟩
    replace H : (psalteryref23_Band.l1 k2 x8_5 y636 (wrap64 (x12_2+1)))=some r:=yrw hy636 H
    have Ny636:=zm hy636;clear hy636
    have H' := zm H
    clear H
    obtain ⟨Ao31,co31,eo31⟩:=Kd.R_slice HO_8.out
    subst eo31
    have p634 : 0≤(x12_2 : Int):=yt
    have q634 : x12_2 < (x8_5.length : Int):=yt
    obtain ⟨ad634,e634,hx634_0⟩:=Kd.at_int (Kd.R_reads' HO_8.out).2.2 x12_2 p634 q634
    cases e634
    replace p634:=eq_true p634
    replace q634:=eq_true q634
    go_wp2_with (first|((with_reducible refine gate_callee (f:=109) rfl ?_);refine ygl 68 Try.func109 #[.int .i64 (rd x8_5 x12_2), .int .i64 (-1048576), .int .i64 1048576] ?_;(with_reducible refine (psalteryref03_Clamp.calls (rd x8_5 x12_2) (-1048576) 1048576 t635 _ A29.out).mono ?_);rintro e w' ⟨rfl,⟨nd,rfl⟩⟩;refine ⟨_,rfl, ?_⟩)|((with_reducible refine gate_builtin (b:=.append) (xs := #[.tmp 63, .tmp 69]) rfl ?_);(try (refine gate_guard (by rfl) ?_;dsimp only));at_builtin;refine Kd.R_append (Kd.int .i64) (w0:=w) w.heap.size rfl (.tmp 63) (.tmp 69) 53 2 (.int .i64 0) 8 rfl Try.underlying53 info2 rfl (by decide) (by omega) u11 x11_2 t635 [.int .i64 t635] (fun k_=>some k_≠(.slice (some ad634) x8_5.length co31 : Value).ownBlock) (fun _=>False) rfl rfl ?aP (fun _ hk=>hk.elim) ?aF ?aO ?aB ?aS ?aL ?_;(case aP=>exact rfl);(case aB=>exact yhb);(case aF=>exact (fun k_ hk=>Kd.fresh' (Kd.R_lt (yr HO_8)) k_ hk));(case aO=>exact (yr HO_11));(case aS=>exact (zE yhb));(case aL=>have:=LMc30.out;omega);intro v637 w32 ho hb hg hat;rw [← Ny636.out] at ho;replace HO_8:=zm (Kd.R_after (ok:=(fun _=>True)) (yR0 HO_8) hg hat);replace HB:=zm (hb);have HO638:=zm (ho);clear HO_11;clear ho hb hg hat))
    go_roundg k2
    case measure=>exact yom2 HJ5 HK2
    case rel=>exact ⟨(y636),(wrap64 (x12_2+1)),yq,H',⟨yom2 HJ5 HK2⟩,⟨yR0 HO_8⟩,⟨yr HO638⟩,⟨yhb⟩⟩
   ·
    rw [if_neg c27] at H
    have c27b0 : decide (x12_2 < (x8_5.length : Int))=false:=decide_eq_false c27
    clear c27
    obtain rfl:=Option.some.inj H
    obtain ⟨Ao33,co33,eo33⟩:=Kd.R_slice HO_8.out
    subst eo33
    go_wp2
    go_ret
    exact ⟨_,ye,yR0 HO_11,yhb⟩
mutual
def psalteryref23_Decode.l0 : Nat→Int→Bool→List (List Int)→List (List (List Int))→List (List Int)→Option ((List (List Int)))
 | 0,_,_,_,_,_=>none
 | k+1,x4,x640000,x640001,x640002,x642000=>if x4 < (x640002.length : Int) then (psalteryref23_Decode.l1 k x4 ([] : List Int) ([] : List Int) 0 x640000 x640001 x640002 x642000) else (some x642000)
def psalteryref23_Decode.l1 : Nat→Int→List Int→List Int→Int→Bool→List (List Int)→List (List (List Int))→List (List Int)→Option ((List (List Int)))
 | 0,_,_,_,_,_,_,_,_=>none
 | k+1,x4,x5,x6,x7,x640000,x640001,x640002,x642000=>if x7 < 5 then (if 0≤x4 then (if x4 < (x640002.length : Int) then (if 0≤x7 then (if x7 < ((rd_L4 x640002 x4).length : Int) then (if x4 < (x640001.length : Int) then (if x7 < ((rd_L2 x640001 x4).length : Int) then ((psalteryref23_Band.f k (rd_L2 (rd_L4 x640002 x4) x7) (rd (rd_L2 x640001 x4) x7) x6).bind fun t646=>(if x5.length+t646.length < 17592186044416 then (psalteryref23_Decode.l1 k x4 (x5 ++ t646) t646 (wrap64 (x7+1)) x640000 x640001 x640002 x642000) else (none))) else (none)) else (none)) else (none)) else (none)) else (none)) else (none)) else (if x642000.length < 5864062014805 then (psalteryref23_Decode.l0 k (wrap64 (x4+1)) x640000 x640001 x640002 (x642000 ++ [x5])) else (none))
end
def psalteryref23_Decode.f (k : Nat) (a0_0 : Bool) (l0_1 : List (List Int)) (l0_2 : List (List (List Int))) : Option ((List (List Int))):=psalteryref23_Decode.l0 k 0 a0_0 l0_1 l0_2 ([] : List (List Int))
theorem psalteryref23_Decode.mono_l : ∀ k,(∀ y0 y1 y2 y3 y4,LeO (psalteryref23_Decode.l0 k y0 y1 y2 y3 y4) (psalteryref23_Decode.l0 (k+1) y0 y1 y2 y3 y4))∧(∀ y0 y1 y2 y3 y4 y5 y6 y7,LeO (psalteryref23_Decode.l1 k y0 y1 y2 y3 y4 y5 y6 y7) (psalteryref23_Decode.l1 (k+1) y0 y1 y2 y3 y4 y5 y6 y7))
 | 0=>⟨fun _ _ _ _ _ r h=>by simp [psalteryref23_Decode.l0] at h,fun _ _ _ _ _ _ _ _ r h=>by simp [psalteryref23_Decode.l1] at h⟩
 | k+1=>by
  obtain ⟨ih0,ih1⟩:=psalteryref23_Decode.mono_l k
  refine ⟨?_, ?_⟩
  ·
   intro y0 y1 y2 y3 y4
   unfold psalteryref23_Decode.l0
   repeat' with_reducible first|apply ih0|apply ih1|apply psalteryref23_Band.mono|apply yLr|apply yLn|apply yLi|apply yLb|intro _
  ·
   intro y0 y1 y2 y3 y4 y5 y6 y7
   unfold psalteryref23_Decode.l1
   repeat' with_reducible first|apply ih0|apply ih1|apply psalteryref23_Band.mono|apply yLr|apply yLn|apply yLi|apply yLb|intro _
theorem psalteryref23_Decode.mono : ∀ a0 a1 a2 k,LeO (psalteryref23_Decode.f k a0 a1 a2) (psalteryref23_Decode.f (k+1) a0 a1 a2):=by
 intro a0 a1 a2 k
 obtain ⟨ih0,ih1⟩:=psalteryref23_Decode.mono_l k
 unfold psalteryref23_Decode.f
 repeat' with_reducible first|apply ih0|apply ih1|apply psalteryref23_Band.mono|apply yLr|apply yLn|apply yLi|apply yLb|intro _
def psalteryref23_Decode.T10 : Bool × List (List Nat × List Nat):=(true, [([], []),([0], [0]),([], []),([1,2], [1,2]),([3], [3]),([], []),([4,5], [4,5]),([6], [6]),([], []),([8], [8]),([], []),([9,10], [9,10]),([11], [11]),([], []),([12,13], [12,13]),([14], [14]),([], []),([7,15,16], [7,15,16]),([17,17,0,1,2,3,4,5,6,7,8,9,10,11,12,13,14,15,16,17], [16,17])])
def psalteryref23_Decode.B10 : List Nat := [0,1,0,7,15,0,63,127,0,256,0,1792,3840,0,16128,32512,0,131071,262143]
theorem psalteryref23_Decode.tab10 : rtab .any (opsOf Try.f26 10)=psalteryref23_Decode.T10:=by kernel_rfl
theorem psalteryref23_Decode.bits10 : waitsOk psalteryref23_Decode.T10.2 psalteryref23_Decode.B10=true:=by kernel_rfl
set_option maxHeartbeats 8000000 in
set_option maxRecDepth 100000 in
theorem psalteryref23_Decode.calls (k : Nat) (a0_0 : Bool) (A0_1 : Option Addr) (c0_1 : Nat) (l0_1 : List (List Int)) (A0_2 : Option Addr) (c0_2 : Nat) (l0_2 : List (List (List Int))) (r : List (List Int)) (w : World) (hr0_1 : Kd.C (Kd.slice 3 (Kd.int .i64)) w A0_1 l0_1.length l0_1) (hc0_1 : l0_1.length≤c0_1) (hr0_2 : Kd.C (Kd.slice 55 (Kd.slice 3 (Kd.int .i64))) w A0_2 l0_2.length l0_2) (hc0_2 : l0_2.length≤c0_2) (h : psalteryref23_Decode.f k a0_0 l0_1 l0_2=some r) :
  Calls Try.prog 26 #[.agg #[.bool a0_0, .slice A0_1 l0_1.length c0_1, .slice A0_2 l0_2.length c0_2]] w fun e w' => ∃ v0_ : Value,e=.returned (.agg #[v0_])∧Kd.S (Kd.slice 2 (Kd.int .i64)) 53 w' w.heap.size (fun _=>True) v0_ r∧Below w.heap.size w w' := by
 have hu42:=Try.underlying42;have hu24:=Try.underlying24;have HR0_1:=zm hr0_1;have HC0_1:=zm hc0_1;clear hr0_1 hc0_1;have HR0_2:=zm hr0_2;have HC0_2:=zm hc0_2;clear hr0_2 hc0_2;have HB:=zm (Below.refl w.heap.size w)
 have H : (psalteryref23_Decode.l0 k 0 a0_0 l0_1 l0_2 ([] : List (List Int)))=some r:=h
 clear h
 have H' := zm H
 clear H
 go_enter Try.func26,Try.ntmps26
 go_wp2_with (first|((with_reducible refine gate_dst (N:=1) rfl ?_);refine ybx 1 #[.bool a0_0, .slice A0_1 l0_1.length c0_1, .slice A0_2 l0_2.length c0_2] 42 ?_;intro gb639 hg w2 hbox hb;have BK639:=zm (hbox);have GW639:=ygw hg;have GE639:=ygw hg;replace HB:=ybs hb;clear hb hbox hg)|((with_reducible refine gate_dst (N:=2) rfl ?_);refine ybx 2 #[.slice none 0 0] 24 ?_;intro gb640 hg w3 hbox hb;have BK640:=zm (hbox);have GW640:=ygw hg;have GE640:=ygw hg;replace HB:=ybs hb;have NB639_640:=ynl BK639 hg;have NB640_639:=yng BK639 hg;replace BK639:=ybb BK639 hb;clear hb hbox hg)|((with_reducible refine gate_dst (N:=3) rfl ?_);refine ybx 3 #[.slice none 0 0] 24 ?_;intro gb641 hg w4 hbox hb;have BK641:=zm (hbox);have GW641:=ygw hg;have GE641:=ygw hg;replace HB:=ybs hb;have NB639_641:=ynl BK639 hg;have NB641_639:=yng BK639 hg;replace BK639:=ybb BK639 hb;have NB640_641:=ynl BK640 hg;have NB641_640:=yng BK640 hg;replace BK640:=ybb BK640 hb;clear hb hbox hg))
 go_loopg [4] k (fun kq v4 w' => ∃ (x4_1 : Int) (x642000_1 : List (List Int)) (u642000 : Value),v4=.int .i64 x4_1∧Aside0 (psalteryref23_Decode.l0 kq x4_1 a0_0 l0_1 l0_2 x642000_1=some r)∧Aside0 (kq≤k)∧Aside0 (Kd.S (Kd.slice 2 (Kd.int .i64)) 53 w' w.heap.size (fun _=>True) u642000 x642000_1)∧Aside0 (w'.heap[gb639]? = some (.cells #[.bool a0_0,(.slice A0_1 l0_1.length c0_1),(.slice A0_2 l0_2.length c0_2)] 42 (0,0)))∧Aside0 (w'.heap[gb640]? = some (.cells #[(.slice none 0 0)] 24 (0,0)))∧Aside0 (w'.heap[gb641]? = some (.cells #[u642000] 24 (0,0)))∧Aside0 (Below w.heap.size w w'))
 case atStart=>exact ⟨(0),(([] : List (List Int))),(.slice none 0 0),yq,H',⟨Nat.le_refl _⟩,⟨yn⟩,⟨yk BK639⟩,⟨yk BK640⟩,⟨yk BK641⟩,⟨yhb⟩⟩
 case round =>
  clear H'
  obtain ⟨x4_1,x642000_1,u642000,rfl,HA,HK1,HO_642000,BK639,BK640,BK641,HB⟩:=hrel
  obtain ⟨k1,rfl⟩:=ysu gk (fun h=>by subst h;exact absurd HA.out (by simp [psalteryref23_Decode.l0]))
  have H:=HA.out;clear HA
  simp only [psalteryref23_Decode.l0] at H
  by_cases c5 : x4_1 < (l0_2.length : Int)
  ·
   rw [if_pos c5] at H
   have c5b0 : decide (x4_1 < (l0_2.length : Int))=true:=decide_eq_true c5
   clear c5
   have H' := zm H
   clear H
   have:=NB639_640.out
   have:=NB640_639.out
   have:=NB639_641.out
   have:=NB641_639.out
   obtain ⟨hcz8_0,hcz8_1,hcz8_2,hfz8_0,hfz8_1,hfz8_2⟩:=yc3 BK639
   go_wp2
   go_loopg [5,6,7] k1 (fun kq v5 v6 v7 w' => ∃ (x5_2 : List Int) (x6_2 : List Int) (x7_2 : Int),v7=.int .i64 x7_2∧Aside0 (psalteryref23_Decode.l1 kq x4_1 x5_2 x6_2 x7_2 a0_0 l0_1 l0_2 x642000_1=some r)∧Aside0 (kq≤k1)∧Aside0 (Kd.R (Kd.int .i64) 2 w' w.heap.size (fun k_=>some k_≠(v6 : Value).ownBlock) v5 x5_2)∧Aside0 (Kd.R (Kd.int .i64) 2 w' w.heap.size (fun k_=>some k_≠(v5 : Value).ownBlock) v6 x6_2)∧Aside0 (Kd.S (Kd.slice 2 (Kd.int .i64)) 53 w' w.heap.size (fun k_=>some k_≠(v5 : Value).ownBlock∧some k_≠(v6 : Value).ownBlock) u642000 x642000_1)∧Aside0 (w'.heap[gb639]? = some (.cells #[.bool a0_0,(.slice A0_1 l0_1.length c0_1),(.slice A0_2 l0_2.length c0_2)] 42 (0,0)))∧Aside0 (w'.heap[gb640]? = some (.cells #[(.slice none 0 0)] 24 (0,0)))∧Aside0 (w'.heap[gb641]? = some (.cells #[u642000] 24 (0,0)))∧Aside0 (Below w.heap.size w w'))
   case atStart=>exact ⟨(([] : List Int)),(([] : List Int)),(0),yq,H',⟨Nat.le_refl _⟩,⟨yn⟩,⟨yn⟩,⟨yS0 HO_642000⟩,⟨yk BK639⟩,⟨yk BK640⟩,⟨yk BK641⟩,⟨yhb⟩⟩
   case round =>
    clear H'
    try clear c5b0
    try clear hcz8_0
    try clear hcz8_1
    try clear hcz8_2
    try clear hfz8_0
    try clear hfz8_1
    try clear hfz8_2
    obtain ⟨x5_2,x6_2,x7_2,rfl,HA,HK2,HO_5,HO_6,HO_642000,BK639,BK640,BK641,HB⟩:=hrel
    obtain ⟨k2,rfl⟩:=ysu gk (fun h=>by subst h;exact absurd HA.out (by simp [psalteryref23_Decode.l1]))
    have H:=HA.out;clear HA
    simp only [psalteryref23_Decode.l1] at H
    by_cases c9 : x7_2 < 5
    ·
     rw [if_pos c9] at H
     have c9b0 : decide (x7_2 < 5)=true:=decide_eq_true c9
     clear c9
     replace H:=yif H;obtain ⟨c10,H⟩:=H
     have c10b0 : decide (0≤x4_1)=true:=decide_eq_true c10
     clear c10
     replace H:=yif H;obtain ⟨c11,H⟩:=H
     have c11b0 : decide (x4_1 < (l0_2.length : Int))=true:=decide_eq_true c11
     clear c11
     replace H:=yif H;obtain ⟨c12,H⟩:=H
     have c12b0 : decide (0≤x7_2)=true:=decide_eq_true c12
     clear c12
     replace H:=yif H;obtain ⟨c13,H⟩:=H
     have c13b0 : decide (x7_2 < ((rd_L4 l0_2 x4_1).length : Int))=true:=decide_eq_true c13
     clear c13
     replace H:=yif H;obtain ⟨c14,H⟩:=H
     have c14b0 : decide (x4_1 < (l0_1.length : Int))=true:=decide_eq_true c14
     clear c14
     replace H:=yif H;obtain ⟨c15,H⟩:=H
     have c15b0 : decide (x7_2 < ((rd_L2 l0_1 x4_1).length : Int))=true:=decide_eq_true c15
     clear c15
     replace H:=ybi H;obtain ⟨t646,A16,H⟩:=H
     replace H:=yif H;obtain ⟨c17,H⟩:=H
     have LMc17:=zm c17;clear c17
     obtain ⟨y649,hy649⟩ : ∃ y_ : List Int,y_=(x5_2 ++ t646):=⟨_,rfl⟩
     replace H : (psalteryref23_Decode.l1 k2 x4_1 y649 t646 (wrap64 (x7_2+1)) a0_0 l0_1 l0_2 x642000_1)=some r:=yrw hy649 H
     have Ny649:=zm hy649;clear hy649
     have H' := zm H
     clear H
     try go_wp2
     replace HO_5:=zm (zq HO_5.out)
     replace HO_6:=zm (zq HO_6.out)
     replace HO_642000:=zm (Kd.S_drew HO_642000.out)
     replace BK639:=zm (zj BK639.out)
     replace BK640:=zm (zj BK640.out)
     replace BK641:=zm (zj BK641.out)
     replace HB:=zm (zf HB.out)
     have p642 : 0≤(x4_1 : Int):=yt
     have q642 : x4_1 < (l0_2.length : Int):=yt
     obtain ⟨ad642,A642_0,c642_0,e642,hx642_0,hl642_0,hi642_0⟩:=at_L4 HR0_2.out x4_1 p642 q642
     have hw642_0:=hx642_0
     cases e642
     replace hx642_0:=yhx HB hx642_0
     have HR642_0:=zm hi642_0;have HC642_0:=zm hl642_0;clear hi642_0 hl642_0
     replace p642:=eq_true p642
     replace q642:=eq_true q642
     have p643 : 0≤(x7_2 : Int):=yt
     have q643 : x7_2 < ((rd_L4 l0_2 x4_1).length : Int):=yt
     obtain ⟨ad643,A643_0,c643_0,e643,hx643_0,hl643_0,hi643_0⟩:=at_L2 HR642_0.out x7_2 p643 q643
     have hw643_0:=hx643_0
     cases e643
     replace hx643_0:=yhx HB hx643_0
     have HR643_0:=zm hi643_0;have HC643_0:=zm hl643_0;clear hi643_0 hl643_0
     replace p643:=eq_true p643
     replace q643:=eq_true q643
     have p644 : 0≤(x4_1 : Int):=yt
     have q644 : x4_1 < (l0_1.length : Int):=yt
     obtain ⟨ad644,A644_0,c644_0,e644,hx644_0,hl644_0,hi644_0⟩:=at_L2 HR0_1.out x4_1 p644 q644
     have hw644_0:=hx644_0
     cases e644
     replace hx644_0:=yhx HB hx644_0
     have HR644_0:=zm hi644_0;have HC644_0:=zm hl644_0;clear hi644_0 hl644_0
     replace p644:=eq_true p644
     replace q644:=eq_true q644
     have p645 : 0≤(x7_2 : Int):=yt
     have q645 : x7_2 < ((rd_L2 l0_1 x4_1).length : Int):=yt
     obtain ⟨ad645,e645,hx645_0⟩:=Kd.at_int HR644_0.out x7_2 p645 q645
     have hw645_0:=hx645_0
     cases e645
     replace hx645_0:=yhx HB hx645_0
     replace p645:=eq_true p645
     replace q645:=eq_true q645
     obtain ⟨Ao19,co19,eo19⟩:=Kd.R_slice HO_6.out
     (first|subst eo19|(injection eo19 with f1_ f2_ f3_;have f4_:=f1_.symm;have f5_:=f3_.symm;clear f1_ f2_ f3_;subst f4_;subst f5_))
     refine yst (fun w' => w'.cell? ⟨gb639,0,none⟩=some (.bool a0_0)∧w'.cell? ⟨gb639,1,none⟩=some (.slice (some ad644) l0_1.length c0_1)∧w'.cell? ⟨gb639,2,none⟩=some (.slice (some ad642) l0_2.length c0_2)∧w'.cell? (ad642.add (x4_1).toNat)=some (.slice (some ad643) (rd_L4 l0_2 x4_1).length c642_0)∧w'.cell? (ad643.add (x7_2).toNat)=some (.slice A643_0 (rd_L2 (rd_L4 l0_2 x4_1) x7_2).length c643_0)∧w'.cell? (ad644.add (x4_1).toNat)=some (.slice (some ad645) (rd_L2 l0_1 x4_1).length c644_0)∧w'.cell? (ad645.add (x7_2).toNat)=some (.int .i64 (rd (rd_L2 l0_1 x4_1) x7_2))) [] 19 psalteryref23_Decode.tab10 psalteryref23_Decode.bits10 (fun hHeld HT_ HW_ => ?_)
     generalize wr.drew=w18 at HO_5 HO_6 HO_642000 BK639 BK640 BK641 HB HR642_0 HR643_0 HR644_0 hx642_0 hx643_0 hx644_0 hx645_0 hHeld ⊢
     refine yp 0 19 HT_ ?_
     refine yp 2 21 HT_ ?_
     refine yp 5 24 HT_ ?_
     refine yp 8 27 HT_ ?_
     refine yp 10 29 HT_ ?_
     refine yp 13 32 HT_ ?_
     refine yp 16 35 HT_ ?_
     refine yl 1 20 HT_ HW_ hHeld ?_
     refine yp 3 22 HT_ ?_
     refine yl 4 23 HT_ HW_ hHeld ?_
     refine yp 6 25 HT_ ?_
     refine yl 7 26 HT_ HW_ hHeld ?_
     refine yl 9 28 HT_ HW_ hHeld ?_
     refine yp 11 30 HT_ ?_
     refine yl 12 31 HT_ HW_ hHeld ?_
     refine yp 14 33 HT_ ?_
     refine yl 15 34 HT_ HW_ hHeld ?_
     refine yw 17 36 HT_ (fun K hK => ?_)
     refine ygs Try.func67 #[.slice A643_0 (rd_L2 (rd_L4 l0_2 x4_1) x7_2).length c643_0, .int .i64 (rd (rd_L2 l0_1 x4_1) x7_2), .slice Ao19 x6_2.length co19] ?_
     with_reducible refine (psalteryref23_Band.calls k2 _ _ (rd_L2 (rd_L4 l0_2 x4_1) x7_2) (rd (rd_L2 l0_1 x4_1) x7_2) _ _ x6_2 t646 _ ?side1 ?side2 ?side3 ?side4 A16.out).mono ?_
     (case side1=>exact ycb HR643_0)
     (case side2=>exact HC643_0.out)
     (case side3=>exact yce (Kd.R_reads' HO_6.out).2.2)
     (case side4=>exact (Kd.R_reads' HO_6.out).2.1)
     rintro e w20 ⟨v647,rfl,ho0,hb⟩
     refine ⟨_,rfl, ?_⟩
     replace HO_642000:=zm (Kd.S_elder' (yr HO_642000) (Kd.R_base ho0) hb)
     have HO648:=zm (Kd.R_lower (Kd.R_new' (Kd.R_new' ho0 (Kd.R_lt (yr HO_5))) (Kd.R_lt (yr HO_6))) (zE yhb))
     replace HO_5:=zm (Kd.R_elder' (yr HO_5) (Kd.R_base ho0) hb)
     replace HO_6:=zm (Kd.R_elder' (yr HO_6) (Kd.R_base ho0) hb)
     replace BK639:=ybb BK639 hb
     replace BK640:=ybb BK640 hb
     replace BK641:=ybb BK641 hb
     replace HB:=ybs hb
     (try clear hb)
     (try clear ho0)
     refine hK.out _ _ yH (fun hHeld => ?_)
     clear hK K
     refine ym (some 36) ?_
     refine yp 18 6 HT_ ?_
     refine done_ (done_of HT_.out (by kernel_rfl)) ?_
     obtain ⟨Ao22,co22,eo22⟩:=Kd.R_slice HO648.out
     subst eo22
     try go_wp2_with (first|((with_reducible refine gate_builtin (b:=.append) (xs := #[.tmp 37, .tmp 38]) rfl ?_);at_builtin;refine Kd.R_append_rows (Kd.int .i64) (w0:=w) w.heap.size rfl (.tmp 37) (.tmp 38) 53 2 (.int .i64 0) 8 rfl Try.underlying53 info2 rfl (by decide) (by omega) u5 x5_2 t646 _ _ _ (fun k_=>some k_≠(.slice Ao19 x6_2.length co19 : Value).ownBlock∧some k_≠(.slice Ao22 t646.length co22 : Value).ownBlock) (fun _=>False) rfl rfl ?aO ?aR (fun _ _ h=>h) (fun _ h=>h.elim) ?aF ?aB ?aS ?aL ?_;(case aR=>exact yce (Kd.R_reads' HO648.out).2.2);(case aB=>exact yhb);(case aF=>exact (fun k_ hk=>⟨Kd.fresh' (Kd.R_lt (yr HO_6)) k_ hk,Kd.fresh' (Kd.R_lt (yr HO648)) k_ hk⟩));(case aO=>exact (yr HO_5));(case aS=>exact (zE yhb));(case aL=>have:=LMc17.out;omega);intro v650 w21 ho hb hg hat;rw [← Ny649.out] at ho;replace HO_6:=zm (Kd.R_after (ok:=(fun k_=>some k_≠(.slice Ao22 t646.length co22 : Value).ownBlock)) (yR0 HO_6) hg hat);replace HO_642000:=zm (Kd.S_after (ok:=(fun k_=>some k_≠(.slice Ao19 x6_2.length co19 : Value).ownBlock∧some k_≠(.slice Ao22 t646.length co22 : Value).ownBlock)) (yS0 HO_642000) hg hat);replace BK639:=zm (blk_grown (yk BK639) hg (zu HO_5.out BK639.out (by decide)));replace BK640:=zm (blk_grown (yk BK640) hg (zu HO_5.out BK640.out (by decide)));replace BK641:=zm (blk_grown (yk BK641) hg (zu HO_5.out BK641.out (by decide)));replace HO648:=zm (Kd.R_after (ok:=(fun k_=>some k_≠(.slice Ao19 x6_2.length co19 : Value).ownBlock)) (yR0 HO648) hg hat);replace HB:=zm (hb);have HO651:=zm (ho);clear HO_5;clear ho hb hg hat))
     go_roundg k2
     case measure=>exact yom2 HK1 HK2
     case rel=>exact ⟨(y649),(t646),(wrap64 (x7_2+1)),yq,H',⟨yom2 HK1 HK2⟩,⟨yR0 HO651⟩,⟨yR0 HO648⟩,⟨yS0 HO_642000⟩,⟨yk BK639⟩,⟨yk BK640⟩,⟨yk BK641⟩,⟨yhb⟩⟩
    ·
     rw [if_neg c9] at H
     have c9b0 : decide (x7_2 < 5)=false:=decide_eq_false c9
     clear c9
     replace H:=yif H;obtain ⟨c23,H⟩:=H
     have LMc23:=zm c23;clear c23
     obtain ⟨y652,hy652⟩ : ∃ y_ : List (List Int),y_=(x642000_1 ++ [x5_2]):=⟨_,rfl⟩
     replace H : (psalteryref23_Decode.l0 k2 (wrap64 (x4_1+1)) a0_0 l0_1 l0_2 y652)=some r:=yrw hy652 H
     have Ny652:=zm hy652;clear hy652
     have H' := zm H
     clear H
     have:=NB641_639.out
     have:=NB639_641.out
     have:=NB641_640.out
     have:=NB640_641.out
     obtain ⟨_,_⟩:=yc1 BK641
     obtain ⟨Ao28,co28,eo28⟩:=Kd.R_slice HO_5.out
     subst eo28
     go_wp2_with (first|((with_reducible refine gate_builtin (b:=.append) (xs := #[.tmp 41, .tmp 43]) rfl ?_);at_builtin;refine Kd.S_append (Kd.slice 2 (Kd.int .i64)) (w0:=w) w.heap.size rfl (.tmp 41) (.tmp 43) 22 53 (.slice none 0 0) 24 rfl Try.underlying22 info53 rfl (by decide) (by omega) u642000 x642000_1 x5_2 [.slice Ao28 x5_2.length co28] (fun k_=>some k_≠(u6 : Value).ownBlock) (fun k_=>some k_=(.slice Ao28 x5_2.length co28 : Value).ownBlock) rfl rfl ?aP (fun k_ hk_=>((zG (ok' := fun k_=>((fun k_=>some k_≠(u6 : Value).ownBlock)) k_∧some k_≠(u642000 : Value).ownBlock) (Kd.R_apart' (HO_5.out) (Kd.S_typed HO_642000.out) (by decide)) (fun k_ hk=>⟨hk.1,hk.2⟩))).1 k_ hk_.symm) ?aF ?aO ?aB ?aS ?aL ?_;(case aP=>exact Kd.M_row (zG (Kd.R_tight rfl (zG (ok' := fun k_=>((fun k_=>some k_≠(u6 : Value).ownBlock)) k_∧some k_≠(u642000 : Value).ownBlock) (Kd.R_apart' (HO_5.out) (Kd.S_typed HO_642000.out) (by decide)) (fun k_ hk=>⟨hk.1,hk.2⟩))) (fun _ h_=>h_)));(case aB=>exact yhb);(case aF=>exact (fun k_ hk=>Kd.fresh' (Kd.R_lt (yr HO_6)) k_ hk));(case aO=>exact (yS0 HO_642000));(case aS=>exact (zE yhb));(case aL=>have:=LMc23.out;omega);intro v653 w27 ho hb hg hat;rw [← Ny652.out] at ho;replace HO_6:=zm (Kd.R_over' (yr HO_6) (Kd.S_typed (yr HO_642000)) (by decide) hg);replace BK639:=zm (blk_grown (yk BK639) hg (Kd.S_ne HO_642000.out BK639.out (by decide)));replace BK640:=zm (blk_grown (yk BK640) hg (Kd.S_ne HO_642000.out BK640.out (by decide)));replace BK641:=zm (blk_grown (yk BK641) hg (Kd.S_ne HO_642000.out BK641.out (by decide)));replace HB:=zm (hb);have HO654:=zm (ho);clear HO_642000;clear HO_5;clear ho hb hg hat;obtain ⟨Ao29,co29,eo29⟩:=Kd.S_slice HO654.out;subst eo29;obtain ⟨_,_⟩:=yc1 BK641))
     go_roundg k2
     case measure=>exact yom2 HK1 HK2
     case rel=>exact ⟨(wrap64 (x4_1+1)),(y652),(.slice Ao29 y652.length co29),yq,H',⟨yom2 HK1 HK2⟩,⟨yS1 HO654 BK641⟩,⟨yk BK639⟩,⟨yk BK640⟩,⟨ykp BK641⟩,⟨yhb⟩⟩
  ·
   rw [if_neg c5] at H
   have c5b0 : decide (x4_1 < (l0_2.length : Int))=false:=decide_eq_false c5
   clear c5
   obtain rfl:=Option.some.inj H
   have:=NB639_640.out
   have:=NB640_639.out
   have:=NB639_641.out
   have:=NB641_639.out
   obtain ⟨_,_,_,_,_,_⟩:=yc3 BK639
   have:=NB641_640.out
   have:=NB640_641.out
   obtain ⟨_,_⟩:=yc1 BK641
   obtain ⟨Ao36,co36,eo36⟩:=Kd.S_slice HO_642000.out
   subst eo36
   obtain ⟨_,_⟩:=yc1 BK640
   go_wp2
   refine bodyPost_ret (results_cell_row rfl _ _ gb640 24 #[.slice Ao36 x642000_1.length co36] (0,0) _ rfl (ykp BK640) Try.underlying24 rfl (by kernel_rfl)) rfl ?_
   exact ⟨_,ye,yS1 HO_642000 BK640,yhb⟩
end Go.Proofs.Ytifkhfnmbiefaaa.Prt
