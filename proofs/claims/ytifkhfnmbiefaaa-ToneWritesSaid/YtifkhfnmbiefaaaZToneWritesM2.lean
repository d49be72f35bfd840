-- Functions of the program and of the document as plain Lean, each with the proof that the code comes to it. Written by a program of this session (wip/tools/myprint.py, pack.py) over the kit's printer; Lean checks it.
import Derived.Test.YtifkhfnmbiefaaaZToneWritesPrt0
import Derived.Test.YtifkhfnmbiefaaaZToneWritesM1
import Derived.Test.YtifkhfnmbiefaaaZToneWritesSh2
import Derived.Test.YtifkhfnmbiefaaaZToneWritesSh
namespace Go.Proofs.Ytifkhfnmbiefaaa.Prt
open Go.RowKit Go.Proofs.YtifkhfnmbiefaaaW.PrintWords Go.Proofs.YtifkhfnmbiefaaaW.PrintLast Go.Proofs.YtifkhfnmbiefaaaW.PrintMore
attribute [local go_sem] max2_int min2_int max_two min_two max_three min_three max_four min_four   -- for this text's walks alone
set_option linter.unusedVariables false
set_option linter.unusedSimpArgs false


def coder_Get.f (ah : Int) (ai : Int) (ag : List Int) (aj : Int) (a1 : Int) : Option (Int × Int):=(coder_good.f ah ai ag aj).bind fun aA=>(if a1 < 1 then (some (0,1)) else (if a1 > 65536 then (some (0,1)) else (if ((a1) % 4294967296)=0 then (none) else (if ((Int.tdiv aA.2.1 ((a1) % 4294967296)) % 4294967296)=0 then (none) else ((num_Clamp.f (wrap64 (IntKind.u64.wrap (Int.tdiv aA.1 ((Int.tdiv aA.2.1 ((a1) % 4294967296)) % 4294967296)))) 0 (wrap64 (a1 - 1))).bind fun az=>(some (az,0)))))))
set_option maxHeartbeats 8000000 in
set_option maxRecDepth 100000 in
theorem coder_Get.calls (ah : Int) (ai : Int) (ax : Option Addr) (ay : Nat) (ag : List Int) (aj : Int) (a1 : Int) (r1 : Int) (r2 : Int) (w : World) (hr0_2 : Kd.C (Kd.int .u8) w ax ag.length ag) (hc0_2 : ag.length≤ay) (h : coder_Get.f ah ai ag aj a1=some (r1,r2)) :
  Calls Try.prog 54 #[.agg #[.int .u64 ah, .int .u32 ai, .slice ax ag.length ay, .int .i64 aj], .int .i64 a1] w fun e w' => e=.returned (.tuple #[.int .i64 r1, .int .i64 r2])∧Below w.heap.size w w' := by
 have hu88:=Try.underlying88;have ap:=zm hr0_2;have aq:=zm hc0_2;clear hr0_2 hc0_2;have HB:=zm (Below.refl w.heap.size w);have H:=h
 unfold coder_Get.f at H
 clear h
 replace H:=ybi H;obtain ⟨⟨ak,al,au,av⟩,A3,H⟩:=H
 try dsimp only at H
 by_cases c4 : a1 < 1
 ·
  rw [if_pos c4] at H
  have aK:=yD c4
  clear c4
  simp only [Option.some.injEq,Prod.mk.injEq] at H
  obtain ⟨rfl,rfl⟩:=H
  go_enter Try.func54,Try.ntmps54
  go_wp2_with (first|((with_reducible refine gate_dst (N:=2) rfl ?_);refine ybx 2 #[.int .u64 ah, .int .u32 ai, .slice ax ag.length ay, .int .i64 aj] 88 ?_;intro ac hg w5 hbox hb;have aa:=zm (hbox);have am:=ygw hg;have ao:=ygw hg;replace HB:=ybs hb;clear hb hbox hg;obtain ⟨_,_,_,_,_,_,_,_⟩:=yc4 aa)|(go_at_call 94;(with_reducible refine (coder_good.calls ah ai (fun k_=>k_ < w.heap.size) _ _ ag aj ak al au av _ ?af A3.out).mono ?_);(case af=>exact Kd.V_mk aq.out (Kd.F_below (Kd.C_F (Kd.heap_int .u8) ap.out) yhb));rintro e w7 ⟨aw,rfl,ho0,hb⟩;have ae:=yho (fun k_=>k_≠ac) ho0 (fun k_ hk_=>yoB aa hk_);replace aa:=ybb aa hb;replace HB:=ybs hb;(try clear hb);(try clear ho0);obtain ⟨_,_,_,_,_,_,_,_⟩:=yc4 aa;obtain ⟨Ao9,co9,eo9⟩:=Kd.V_slice ae.out;subst eo9))
  repeat (go_quiet (first|((with_reducible refine gate_dst (N:=2) rfl ?_);refine ybx 2 #[.int .u64 ah, .int .u32 ai, .slice ax ag.length ay, .int .i64 aj] 88 ?_;intro ac hg w5 hbox hb;have aa:=zm (hbox);have am:=ygw hg;have ao:=ygw hg;replace HB:=ybs hb;clear hb hbox hg;obtain ⟨_,_,_,_,_,_,_,_⟩:=yc4 aa)|(go_at_call 94;(with_reducible refine (coder_good.calls ah ai (fun k_=>k_ < w.heap.size) _ _ ag aj ak al au av _ ?af A3.out).mono ?_);(case af=>exact Kd.V_mk aq.out (Kd.F_below (Kd.C_F (Kd.heap_int .u8) ap.out) yhb));rintro e w7 ⟨aw,rfl,ho0,hb⟩;have ae:=yho (fun k_=>k_≠ac) ho0 (fun k_ hk_=>yoB aa hk_);replace aa:=ybb aa hb;replace HB:=ybs hb;(try clear hb);(try clear ho0);obtain ⟨_,_,_,_,_,_,_,_⟩:=yc4 aa;obtain ⟨Ao9,co9,eo9⟩:=Kd.V_slice ae.out;subst eo9));try go_wp2_with (first|((with_reducible refine gate_dst (N:=2) rfl ?_);refine ybx 2 #[.int .u64 ah, .int .u32 ai, .slice ax ag.length ay, .int .i64 aj] 88 ?_;intro ac hg w5 hbox hb;have aa:=zm (hbox);have am:=ygw hg;have ao:=ygw hg;replace HB:=ybs hb;clear hb hbox hg;obtain ⟨_,_,_,_,_,_,_,_⟩:=yc4 aa)|(go_at_call 94;(with_reducible refine (coder_good.calls ah ai (fun k_=>k_ < w.heap.size) _ _ ag aj ak al au av _ ?af A3.out).mono ?_);(case af=>exact Kd.V_mk aq.out (Kd.F_below (Kd.C_F (Kd.heap_int .u8) ap.out) yhb));rintro e w7 ⟨aw,rfl,ho0,hb⟩;have ae:=yho (fun k_=>k_≠ac) ho0 (fun k_ hk_=>yoB aa hk_);replace aa:=ybb aa hb;replace HB:=ybs hb;(try clear hb);(try clear ho0);obtain ⟨_,_,_,_,_,_,_,_⟩:=yc4 aa;obtain ⟨Ao9,co9,eo9⟩:=Kd.V_slice ae.out;subst eo9)))
  go_ret2
  exact ⟨ye,yhb⟩
 rw [if_neg c4] at H
 have aK:=yG c4
 clear c4
 by_cases c10 : a1 > 65536
 ·
  rw [if_pos c10] at H
  have aE:=yDs c10
  clear c10
  simp only [Option.some.injEq,Prod.mk.injEq] at H
  obtain ⟨rfl,rfl⟩:=H
  go_enter Try.func54,Try.ntmps54
  go_wp2_with (first|((with_reducible refine gate_dst (N:=2) rfl ?_);refine ybx 2 #[.int .u64 ah, .int .u32 ai, .slice ax ag.length ay, .int .i64 aj] 88 ?_;intro ac hg w11 hbox hb;have aa:=zm (hbox);have am:=ygw hg;have ao:=ygw hg;replace HB:=ybs hb;clear hb hbox hg;obtain ⟨_,_,_,_,_,_,_,_⟩:=yc4 aa)|(go_at_call 94;(with_reducible refine (coder_good.calls ah ai (fun k_=>k_ < w.heap.size) _ _ ag aj ak al au av _ ?af A3.out).mono ?_);(case af=>exact Kd.V_mk aq.out (Kd.F_below (Kd.C_F (Kd.heap_int .u8) ap.out) yhb));rintro e w13 ⟨aw,rfl,ho0,hb⟩;have ae:=yho (fun k_=>k_≠ac) ho0 (fun k_ hk_=>yoB aa hk_);replace aa:=ybb aa hb;replace HB:=ybs hb;(try clear hb);(try clear ho0);obtain ⟨_,_,_,_,_,_,_,_⟩:=yc4 aa;obtain ⟨aG,aH,aC⟩:=Kd.V_slice ae.out;subst aC))
  repeat (go_quiet (first|((with_reducible refine gate_dst (N:=2) rfl ?_);refine ybx 2 #[.int .u64 ah, .int .u32 ai, .slice ax ag.length ay, .int .i64 aj] 88 ?_;intro ac hg w11 hbox hb;have aa:=zm (hbox);have am:=ygw hg;have ao:=ygw hg;replace HB:=ybs hb;clear hb hbox hg;obtain ⟨_,_,_,_,_,_,_,_⟩:=yc4 aa)|(go_at_call 94;(with_reducible refine (coder_good.calls ah ai (fun k_=>k_ < w.heap.size) _ _ ag aj ak al au av _ ?af A3.out).mono ?_);(case af=>exact Kd.V_mk aq.out (Kd.F_below (Kd.C_F (Kd.heap_int .u8) ap.out) yhb));rintro e w13 ⟨aw,rfl,ho0,hb⟩;have ae:=yho (fun k_=>k_≠ac) ho0 (fun k_ hk_=>yoB aa hk_);replace aa:=ybb aa hb;replace HB:=ybs hb;(try clear hb);(try clear ho0);obtain ⟨_,_,_,_,_,_,_,_⟩:=yc4 aa;obtain ⟨aG,aH,aC⟩:=Kd.V_slice ae.out;subst aC));try go_wp2_with (first|((with_reducible refine gate_dst (N:=2) rfl ?_);refine ybx 2 #[.int .u64 ah, .int .u32 ai, .slice ax ag.length ay, .int .i64 aj] 88 ?_;intro ac hg w11 hbox hb;have aa:=zm (hbox);have am:=ygw hg;have ao:=ygw hg;replace HB:=ybs hb;clear hb hbox hg;obtain ⟨_,_,_,_,_,_,_,_⟩:=yc4 aa)|(go_at_call 94;(with_reducible refine (coder_good.calls ah ai (fun k_=>k_ < w.heap.size) _ _ ag aj ak al au av _ ?af A3.out).mono ?_);(case af=>exact Kd.V_mk aq.out (Kd.F_below (Kd.C_F (Kd.heap_int .u8) ap.out) yhb));rintro e w13 ⟨aw,rfl,ho0,hb⟩;have ae:=yho (fun k_=>k_≠ac) ho0 (fun k_ hk_=>yoB aa hk_);replace aa:=ybb aa hb;replace HB:=ybs hb;(try clear hb);(try clear ho0);obtain ⟨_,_,_,_,_,_,_,_⟩:=yc4 aa;obtain ⟨aG,aH,aC⟩:=Kd.V_slice ae.out;subst aC)))
  go_ret2
  exact ⟨ye,yhb⟩
 rw [if_neg c10] at H
 have aE:=yGs c10
 clear c10
 replace H:=yie H;obtain ⟨c16,H⟩:=H
 obtain ⟨aM,aN⟩:=yF c16
 replace H:=yie H;obtain ⟨c17,H⟩:=H
 obtain ⟨aQ,aT⟩:=yF c17
 replace H:=ybi H;obtain ⟨az,A18,H⟩:=H
 simp only [Option.some.injEq,Prod.mk.injEq] at H
 obtain ⟨rfl,rfl⟩:=H
 go_enter Try.func54,Try.ntmps54
 go_wp2_with (first|((with_reducible refine gate_dst (N:=2) rfl ?_);refine ybx 2 #[.int .u64 ah, .int .u32 ai, .slice ax ag.length ay, .int .i64 aj] 88 ?_;intro ac hg w19 hbox hb;have aa:=zm (hbox);have am:=ygw hg;have ao:=ygw hg;replace HB:=ybs hb;clear hb hbox hg;obtain ⟨_,_,_,_,_,_,_,_⟩:=yc4 aa)|(go_at_call 94;(with_reducible refine (coder_good.calls ah ai (fun k_=>k_ < w.heap.size) _ _ ag aj ak al au av _ ?af A3.out).mono ?_);(case af=>exact Kd.V_mk aq.out (Kd.F_below (Kd.C_F (Kd.heap_int .u8) ap.out) yhb));rintro e w21 ⟨aw,rfl,ho0,hb⟩;have ae:=yho (fun k_=>k_≠ac) ho0 (fun k_ hk_=>yoB aa hk_);replace aa:=ybb aa hb;replace HB:=ybs hb;(try clear hb);(try clear ho0);obtain ⟨_,_,_,_,_,_,_,_⟩:=yc4 aa;obtain ⟨aI,aJ,aD⟩:=Kd.V_slice ae.out;subst aD)|(go_at_call 95;(with_reducible refine (num_Clamp.calls (wrap64 (IntKind.u64.wrap (Int.tdiv ak ((Int.tdiv al ((a1) % 4294967296)) % 4294967296)))) 0 (wrap64 (a1 - 1)) az _ A18.out).mono ?_);rintro e w' ⟨rfl,⟨nd,rfl⟩⟩;(try exact yww)))
 repeat (go_quiet (first|((with_reducible refine gate_dst (N:=2) rfl ?_);refine ybx 2 #[.int .u64 ah, .int .u32 ai, .slice ax ag.length ay, .int .i64 aj] 88 ?_;intro ac hg w19 hbox hb;have aa:=zm (hbox);have am:=ygw hg;have ao:=ygw hg;replace HB:=ybs hb;clear hb hbox hg;obtain ⟨_,_,_,_,_,_,_,_⟩:=yc4 aa)|(go_at_call 94;(with_reducible refine (coder_good.calls ah ai (fun k_=>k_ < w.heap.size) _ _ ag aj ak al au av _ ?af A3.out).mono ?_);(case af=>exact Kd.V_mk aq.out (Kd.F_below (Kd.C_F (Kd.heap_int .u8) ap.out) yhb));rintro e w21 ⟨aw,rfl,ho0,hb⟩;have ae:=yho (fun k_=>k_≠ac) ho0 (fun k_ hk_=>yoB aa hk_);replace aa:=ybb aa hb;replace HB:=ybs hb;(try clear hb);(try clear ho0);obtain ⟨_,_,_,_,_,_,_,_⟩:=yc4 aa;obtain ⟨aI,aJ,aD⟩:=Kd.V_slice ae.out;subst aD)|(go_at_call 95;(with_reducible refine (num_Clamp.calls (wrap64 (IntKind.u64.wrap (Int.tdiv ak ((Int.tdiv al ((a1) % 4294967296)) % 4294967296)))) 0 (wrap64 (a1 - 1)) az _ A18.out).mono ?_);rintro e w' ⟨rfl,⟨nd,rfl⟩⟩;(try exact yww)));try go_wp2_with (first|((with_reducible refine gate_dst (N:=2) rfl ?_);refine ybx 2 #[.int .u64 ah, .int .u32 ai, .slice ax ag.length ay, .int .i64 aj] 88 ?_;intro ac hg w19 hbox hb;have aa:=zm (hbox);have am:=ygw hg;have ao:=ygw hg;replace HB:=ybs hb;clear hb hbox hg;obtain ⟨_,_,_,_,_,_,_,_⟩:=yc4 aa)|(go_at_call 94;(with_reducible refine (coder_good.calls ah ai (fun k_=>k_ < w.heap.size) _ _ ag aj ak al au av _ ?af A3.out).mono ?_);(case af=>exact Kd.V_mk aq.out (Kd.F_below (Kd.C_F (Kd.heap_int .u8) ap.out) yhb));rintro e w21 ⟨aw,rfl,ho0,hb⟩;have ae:=yho (fun k_=>k_≠ac) ho0 (fun k_ hk_=>yoB aa hk_);replace aa:=ybb aa hb;replace HB:=ybs hb;(try clear hb);(try clear ho0);obtain ⟨_,_,_,_,_,_,_,_⟩:=yc4 aa;obtain ⟨aI,aJ,aD⟩:=Kd.V_slice ae.out;subst aD)|(go_at_call 95;(with_reducible refine (num_Clamp.calls (wrap64 (IntKind.u64.wrap (Int.tdiv ak ((Int.tdiv al ((a1) % 4294967296)) % 4294967296)))) 0 (wrap64 (a1 - 1)) az _ A18.out).mono ?_);rintro e w' ⟨rfl,⟨nd,rfl⟩⟩;(try exact yww))))
 go_ret2
 exact ⟨ye,yhb⟩
def coder_fair.f (a0 : Int) (a1 : Int) (a2 : Int) : Option (Bool):=if a0 ≥ 0 then (if a0 < a1 then (if a1≤a2 then (some (decide (a2≤65536))) else (some false)) else (some false)) else (some false)
set_option maxHeartbeats 8000000 in
set_option maxRecDepth 100000 in
theorem coder_fair.calls (a0 : Int) (a1 : Int) (a2 : Int) (r : Bool) (w : World) (h : coder_fair.f a0 a1 a2=some r) :
  Calls Try.prog 84 #[.int .i64 a0, .int .i64 a1, .int .i64 a2] w fun e w' => e=.returned (.bool r)∧Drawn0 w w' := by
 have H:=h
 unfold coder_fair.f at H
 clear h
 by_cases c4 : a0 ≥ 0
 ·
  rw [if_pos c4] at H
  have aa:=yDl c4
  clear c4
  by_cases c5 : a0 < a1
  ·
   rw [if_pos c5] at H
   have ac:=yD c5
   clear c5
   by_cases c6 : a1≤a2
   ·
    rw [if_pos c6] at H
    have ae:=yD c6
    clear c6
    obtain rfl:=Option.some.inj H
    go_enter Try.func84,Try.ntmps84
    go_wp2
    go_ret
    exact ⟨yq,yd⟩
   rw [if_neg c6] at H
   have ae:=yG c6
   clear c6
   obtain rfl:=Option.some.inj H
   go_enter Try.func84,Try.ntmps84
   go_wp2
   go_ret
   exact ⟨yq,yd⟩
  rw [if_neg c5] at H
  have ac:=yG c5
  clear c5
  obtain rfl:=Option.some.inj H
  go_enter Try.func84,Try.ntmps84
  go_wp2
  go_ret
  exact ⟨yq,yd⟩
 rw [if_neg c4] at H
 have aa:=yGl c4
 clear c4
 obtain rfl:=Option.some.inj H
 go_enter Try.func84,Try.ntmps84
 go_wp2
 go_ret
 exact ⟨yq,yd⟩
def coder_part.f (a0 : Int) (a1 : Int) (a2 : Int) (a3 : Int) : Option (Int × Int):=if ((a3) % 4294967296)=0 then (none) else (if a2=a3 then (some ((a0 - ((IntKind.u64.wrap (((Int.tdiv a0 ((a3) % 4294967296)) % 4294967296) * (IntKind.u64.wrap (a1)))) % 4294967296)) % 4294967296,IntKind.u64.wrap (((Int.tdiv a0 ((a3) % 4294967296)) % 4294967296) * (IntKind.u64.wrap (a1))))) else (some ((((Int.tdiv a0 ((a3) % 4294967296)) % 4294967296) * ((wrap64 (a2 - a1)) % 4294967296)) % 4294967296,IntKind.u64.wrap (((Int.tdiv a0 ((a3) % 4294967296)) % 4294967296) * (IntKind.u64.wrap (a1))))))
set_option maxHeartbeats 8000000 in
set_option maxRecDepth 100000 in
theorem coder_part.calls (a0 : Int) (a1 : Int) (a2 : Int) (a3 : Int) (r1 : Int) (r2 : Int) (w : World) (h : coder_part.f a0 a1 a2 a3=some (r1,r2)) :
  Calls Try.prog 85 #[.int .u32 a0, .int .i64 a1, .int .i64 a2, .int .i64 a3] w fun e w' => e=.returned (.tuple #[.int .u32 r1, .int .u64 r2])∧Drawn0 w w' := by
 have H:=h
 unfold coder_part.f at H
 clear h
 replace H:=yie H;obtain ⟨c5,H⟩:=H
 obtain ⟨ae,af⟩:=yF c5
 by_cases c6 : a2=a3
 ·
  rw [if_pos c6] at H
  obtain ⟨aa,ac⟩:=yE c6
  clear c6
  simp only [Option.some.injEq,Prod.mk.injEq] at H
  obtain ⟨rfl,rfl⟩:=H
  go_enter Try.func85,Try.ntmps85
  go_wp2
  go_ret2
  exact ⟨yq,yd⟩
 rw [if_neg c6] at H
 obtain ⟨aa,ac⟩:=yF c6
 simp only [Option.some.injEq,Prod.mk.injEq] at H
 obtain ⟨rfl,rfl⟩:=H
 go_enter Try.func85,Try.ntmps85
 go_wp2
 go_ret2
 exact ⟨yq,yd⟩
def coder_Take.l0 : Nat→Int→Int→Int→List Int→Int→Option (Int × Int × List Int × Int × Int)
 | 0,_,_,_,_,_=>none
 | k+1,x10,aA,aN,aw,ax=>if x10 < 16777216 then ((coder_at.f aw ax).bind fun aC=>(if ax < (aw.length : Int) then (coder_Take.l0 k ((x10 * 256) % 4294967296) (Go.bits .or .u64 (Go.bits .and .u64 (IntKind.u64.wrap (aA * 256)) 4294967295) aC) aN aw (wrap64 (ax+1))) else (coder_Take.l0 k ((x10 * 256) % 4294967296) (Go.bits .or .u64 (Go.bits .and .u64 (IntKind.u64.wrap (aA * 256)) 4294967295) aC) aN aw ax))) else (some (aA,x10,aw,ax,0))
def coder_Take.f (k : Nat) (aE : Int) (aG : Int) (av : List Int) (aH : Int) (a1 : Int) (a2 : Int) (a3 : Int) : Option (Int × Int × List Int × Int × Int):=(coder_good.f aE aG av aH).bind fun ap=>((coder_fair.f a1 a2 a3).bind fun aU=>(if aU=true then ((coder_part.f ap.2.1 a1 a2 a3).bind fun aV=>(coder_Take.l0 k aV.1 (IntKind.u64.wrap (ap.1 - (mn ap.1 aV.2))) ap.2.1 ap.2.2.1 ap.2.2.2)) else (some (ap.1,ap.2.1,ap.2.2.1,ap.2.2.2,1))))
theorem coder_Take.mono_l : ∀ k,(∀ y0 y1 y2 y3 y4,LeO (coder_Take.l0 k y0 y1 y2 y3 y4) (coder_Take.l0 (k+1) y0 y1 y2 y3 y4))
 | 0=>fun _ _ _ _ _ r h=>by simp [coder_Take.l0] at h
 | k+1=>by
  have ih0:=coder_Take.mono_l k
  ·
   intro y0 y1 y2 y3 y4
   unfold coder_Take.l0
   repeat' with_reducible first|apply ih0|apply yLr|apply yLn|apply yLi|apply yLb|intro _
theorem coder_Take.mono : ∀ a0 a1 a2 a3 a4 a5 a6 k,LeO (coder_Take.f k a0 a1 a2 a3 a4 a5 a6) (coder_Take.f (k+1) a0 a1 a2 a3 a4 a5 a6):=by
 intro a0 a1 a2 a3 a4 a5 a6 k
 have ih0:=coder_Take.mono_l k
 unfold coder_Take.f
 repeat' with_reducible first|apply ih0|apply yLr|apply yLn|apply yLi|apply yLb|intro _
def coder_Take.T7 : Bool × List (List Nat × List Nat):=(true, [([], []),([0], [0]),([1], [1]),([2], [2]),([], []),([4], [4]),([], []),([6], [6]),([5,7], [5,7]),([3,8], [3,8]),([0,1,2,3,4,5,6,7,8,9], []),([10,9,8,0,1,2,3,4,5,6,7,8,9], [9,10])])
def coder_Take.B7 : List Nat := [0,1,3,7,0,16,0,64,240,511,1023,2047]
theorem coder_Take.tab7 : rtab .any (opsOf Try.f55 7)=coder_Take.T7:=by kernel_rfl
theorem coder_Take.bits7 : waitsOk coder_Take.T7.2 coder_Take.B7=true:=by kernel_rfl
set_option maxHeartbeats 8000000 in
set_option maxRecDepth 100000 in
theorem coder_Take.calls (k : Nat) (aE : Int) (aG : Int) (au : Nat→Prop) (aK : Option Addr) (aM : Nat) (av : List Int) (aH : Int) (a1 : Int) (a2 : Int) (a3 : Int) (r1 : Int) (r2 : Int) (r3 : List Int) (r4 : Int) (r5 : Int) (w : World) (bL : Kd.V (Kd.int .u8) 5 w w.heap.size (fun k_=>au k_) (.slice aK av.length aM) av) (h : coder_Take.f k aE aG av aH a1 a2 a3=some (r1,r2,r3,r4,r5)) :
  Calls Try.prog 55 #[.agg #[.int .u64 aE, .int .u32 aG, .slice aK av.length aM, .int .i64 aH], .int .i64 a1, .int .i64 a2, .int .i64 a3] w fun e w' => ∃ v2_ : Value,e=.returned (.tuple #[.agg #[.int .u64 r1, .int .u32 r2,v2_, .int .i64 r4], .int .i64 r5])∧Kd.V (Kd.int .u8) 5 w' w.heap.size (fun k_=>(au k_∨w.heap.size≤k_)) v2_ r3∧Below w.heap.size w w' := by
 have hu88:=Try.underlying88
 have ak:=zm (show Kd.V (Kd.int .u8) 5 w w.heap.size (fun k_=>(au k_∨w.heap.size≤k_)) (.slice aK av.length aM) av from zy bL (fun k_ hk => .inl hk))
 have HB:=zm (Below.refl w.heap.size w);have H:=h
 unfold coder_Take.f at H
 clear h
 replace H:=ybi H;obtain ⟨⟨ay,aq,al,az⟩,A5,H⟩:=H
 try dsimp only at H
 replace H:=ybi H;obtain ⟨aU,A6,H⟩:=H
 by_cases c7 : aU=true
 ·
  subst c7
  rw [if_pos rfl] at H
  replace H:=ybi H;obtain ⟨⟨bG,aT⟩,A8,H⟩:=H
  try dsimp only at H
  obtain ⟨ji9,aQ⟩ : ∃ j_ : Int,(mn ay aT)=j_:=⟨_,rfl⟩
  (first|rw [aQ] at H|simp only [aQ] at H)
  (try rw [aQ] at A5)
  (try rw [aQ] at A6)
  (try rw [aQ] at A8)
  have bR : (if aT < ay then aT else ay)=ji9:=aQ
  have H' := zm H
  clear H
  go_enter Try.func55,Try.ntmps55
  go_wp2_with (first|((with_reducible refine gate_dst (N:=4) rfl ?_);refine ybx 4 #[.int .u64 aE, .int .u32 aG, .slice aK av.length aM, .int .i64 aH] 88 ?_;intro ac hg w10 hbox hb;replace ak:=yVe ak hg hb;have aa:=zm (hbox);have bH:=ygw hg;have bI:=ygw hg;replace HB:=ybs hb;clear hb hbox hg)|((with_reducible refine gate_dst (N:=8) rfl ?_);refine ybx 8 #[.int .u64 0, .int .u32 0, .slice none 0 0, .int .i64 0] 88 ?_;intro am hg w11 hbox hb;replace ak:=yVe ak hg hb;have ae:=zm (hbox);have bJ:=ygw hg;have bK:=ygw hg;replace HB:=ybs hb;have ai:=ynl aa hg;have aj:=yng aa hg;replace aa:=ybb aa hb;clear hb hbox hg;have:=ai.out;have:=aj.out;obtain ⟨aY,aZ,a7,a8,a9,ba,bb,bc⟩:=yc4 aa)|((with_reducible refine gate_callee (f:=94) rfl ?_);refine ygl 13 Try.func94 #[.agg #[.int .u64 aE, .int .u32 aG, .slice aK av.length aM, .int .i64 aH]] ?_;(with_reducible refine (coder_good.calls aE aG (fun k_=>(((au k_∨w.heap.size≤k_)∧k_≠ac)∧k_≠am)) _ _ av aH ay aq al az _ ak.out A5.out).mono ?_);rintro e w14 ⟨bM,rfl,ho0,hb⟩;refine ⟨_,rfl, ?_⟩;replace ak:=yVb ak hb;have ao:=yho (fun k_=>(au k_∨w.heap.size≤k_)∧k_≠ac∧k_≠am) ho0 (fun k_ hk_=>⟨Or.elim hk_ (fun hs_=>hs_.1.1) (fun hn_=>(.inr (Nat.le_trans (zE yhb) hn_))),yoB aa hk_,yoB ae hk_⟩);replace aa:=ybb aa hb;replace ae:=ybb ae hb;replace HB:=ybs hb;(try clear hb);(try clear ho0);obtain ⟨bd,bf,bg,bh,bi,bj,bk,bl⟩:=yc4 aa;obtain ⟨aI,aJ,bP⟩:=Kd.V_slice ao.out;subst bP)|((with_reducible refine gate_store (t:=88) (p:=4) rfl ?_);refine store_event (t:=88) (p:=4) (v := ?vo_w17) (w1:=((((w14.setCell ⟨ac,0,none⟩ (.int .u64 ay)).setCell ⟨ac,1,none⟩ (.int .u32 aq)).setCell ⟨ac,2,none⟩ (.slice aI al.length aJ)).setCell ⟨ac,3,none⟩ (.int .i64 az))) ?hg ?ho ?hn ?hr ?_;(case ho=>rfl);(case hg=>rfl);(case hn=>rfl);(case hr=>first|(go_simp;done)|(go_simp;rfl));intro w17 hw;replace ak : Aside0 (Kd.V (Kd.int .u8) 5 w17 w.heap.size (fun k_=>(au k_∨w.heap.size≤k_)∧k_≠ac∧k_≠am) (.slice aK av.length aM) av):=⟨(by rw [hw];exact (yV0 ak))⟩;replace ao : Aside0 (Kd.V (Kd.int .u8) 5 w17 w.heap.size (fun k_=>(au k_∨w.heap.size≤k_)∧k_≠ac∧k_≠am) (.slice aI al.length aJ) al):=⟨(by rw [hw];exact (yV0 ao))⟩;replace aa : Aside0 (w17.heap[ac]? = some (.cells #[.int .u64 ay, .int .u32 aq, .slice aI al.length aJ, .int .i64 az] 88 (0,0))):=⟨(by rw [hw];exact (ykp aa))⟩;replace ae : Aside0 (w17.heap[am]? = some (.cells #[.int .u64 0, .int .u32 0, .slice none 0 0, .int .i64 0] 88 (0,0))):=⟨(by rw [hw];exact (yk ae))⟩;replace HB : Aside0 (Below w.heap.size w w17):=⟨(by rw [hw];exact yhb)⟩;clear hw)|((with_reducible refine gate_callee (f:=84) rfl ?_);refine ygl 17 Try.func84 #[.int .i64 a1, .int .i64 a2, .int .i64 a3] ?_;(with_reducible refine (coder_fair.calls a1 a2 a3 true _ A6.out).mono ?_);rintro e w' ⟨rfl,⟨nd,rfl⟩⟩;refine ⟨_,rfl, ?_⟩;(try (rw [drewN_self w17];generalize hq_ : World.drewN w17 _=w17;replace ak:=yVq hq_ ak;replace ao:=yVq hq_ ao;replace aa:=ykq hq_ aa;replace ae:=ykq hq_ ae;replace HB:=ysq hq_;clear hq_));obtain ⟨bm,bn,bo,bp,bq,br,bs,bu⟩:=yc4 aa)|((with_reducible refine gate_callee (f:=85) rfl ?_);refine ygl 26 Try.func85 #[.int .u32 aq, .int .i64 a1, .int .i64 a2, .int .i64 a3] ?_;(with_reducible refine (coder_part.calls aq a1 a2 a3 bG aT _ A8.out).mono ?_);rintro e w' ⟨rfl,⟨nd,rfl⟩⟩;refine ⟨_,rfl, ?_⟩;(try (rw [drewN_self w17];generalize hq_ : World.drewN w17 _=w17;replace ak:=yVq hq_ ak;replace ao:=yVq hq_ ao;replace aa:=ykq hq_ aa;replace ae:=ykq hq_ ae;replace HB:=ysq hq_;clear hq_));obtain ⟨bv,bw,bx,bz,bA,bB,bC,bD⟩:=yc4 aa))
  go_loopg [10] k (fun kq v10 w' => ∃ (aD : Int) (ah : Int) (af : Int),v10=.int .u32 aD∧Aside0 (coder_Take.l0 kq aD ah aq al af=some (r1,r2,r3,r4,r5))∧Aside0 (kq≤k)∧Aside0 (Kd.V (Kd.int .u8) 5 w' w.heap.size (fun k_=>(au k_∨w.heap.size≤k_)∧k_≠ac∧k_≠am) (.slice aI al.length aJ) al)∧Aside0 (w'.heap[ac]? = some (.cells #[.int .u64 ah, .int .u32 aq,(.slice aI al.length aJ), .int .i64 af] 88 (0,0)))∧Aside0 (w'.heap[am]? = some (.cells #[.int .u64 0, .int .u32 0,(.slice none 0 0), .int .i64 0] 88 (0,0)))∧Aside0 (Below w.heap.size w w'))
  case atStart=>exact ⟨(bG),(IntKind.u64.wrap (ay - (ji9))),(az),yq,H',⟨Nat.le_refl _⟩,⟨yV0 ao⟩,⟨ykp aa⟩,⟨yk ae⟩,⟨yhb⟩⟩
  case round =>
   clear H'
   try clear aY
   try clear aZ
   try clear a7
   try clear a8
   try clear bd
   try clear bf
   try clear bg
   try clear bh
   try clear bm
   try clear bn
   try clear bo
   try clear bp
   try clear bv
   try clear bw
   try clear bx
   try clear bz
   try clear a9
   try clear ba
   try clear bb
   try clear bc
   try clear bi
   try clear bj
   try clear bk
   try clear bl
   try clear bq
   try clear br
   try clear bs
   try clear bu
   try clear bA
   try clear bB
   try clear bC
   try clear bD
   obtain ⟨aD,ah,af,rfl,HA,HK1,ag,aa,ae,HB⟩:=hrel
   obtain ⟨k1,rfl⟩:=ysu gk (fun h=>by subst h;exact absurd HA.out (by simp [coder_Take.l0]))
   have H:=HA.out;clear HA
   simp only [coder_Take.l0] at H
   by_cases c20 : aD < 16777216
   ·
    rw [if_pos c20] at H
    have bN:=yD c20
    clear c20
    replace H:=ybi H;obtain ⟨aC,A21,H⟩:=H
    by_cases c22 : af < (al.length : Int)
    ·
     rw [if_pos c22] at H
     have bO:=yD c22
     clear c22
     have H' := zm H
     clear H
     try go_wp2
     replace ag:=zm (zC ag.out)
     replace aa:=zm (zj aa.out)
     replace ae:=zm (zj ae.out)
     replace HB:=zm (zf HB.out)
     refine yst (fun w' => w'.cell? ⟨ac,0,none⟩=some (.int .u64 ah)∧w'.cell? ⟨ac,1,none⟩=some (.int .u32 aq)∧w'.cell? ⟨ac,2,none⟩=some (.slice aI al.length aJ)∧w'.cell? ⟨ac,3,none⟩=some (.int .i64 af)) [11] 12 coder_Take.tab7 coder_Take.bits7 (fun hHeld HT_ HW_ => ?_)
     generalize wr.drew=w23 at ag aa ae HB hHeld ⊢
     refine yp 0 39 HT_ ?_
     refine yp 4 43 HT_ ?_
     refine yp 6 45 HT_ ?_
     refine yl 1 40 HT_ HW_ hHeld ?_
     refine yp 2 41 HT_ ?_
     refine yp 3 42 HT_ ?_
     refine yl 5 44 HT_ HW_ hHeld ?_
     refine yl 7 46 HT_ HW_ hHeld ?_
     refine yw 8 47 HT_ (fun K hK => ?_)
     refine ygs Try.func93 #[.slice aI al.length aJ, .int .i64 af] ?_
     with_reducible refine (coder_at.calls _ _ al af aC _ ?aW ?aX A21.out).mono ?_
     (case aW=>exact yce (Kd.V_reads' ag.out).2.2)
     (case aX=>exact (Kd.V_reads' ag.out).2.1)
     rintro e w' ⟨rfl,⟨nd,rfl⟩⟩
     refine ⟨_,rfl, ?_⟩
     refine hK.out _ _ yH (fun hHeld => ?_)
     clear hK K
     refine ym (some 47) ?_
     refine yp 9 48 HT_ ?_
     refine yp 10 49 HT_ ?_
     refine last_ (i:=11) (N:=none) #[true,true,true,true,true,true,true,true,true,true,true,true] rfl rfl (one_of HT_.out (by kernel_rfl)) (by decide) (fun K hK => ?_)
     have bS : w23.cell? ⟨ac,0,none⟩=some (.int .u64 ah):=(zs aa.out 0).trans rfl
     have hfs24:=zx aa.out 0
     have:=aj.out
     have:=ai.out
     refine skip_ (w1 := ?_) (by rfl) rfl ?_ ?_
     rotate_left
     ·
      go_simp
      rfl
     refine hK.out _ _ ?_
     clear hK K
     refine done_ (done_of HT_.out (by kernel_rfl)) ?_
     have:=ai.out
     have:=aj.out
     obtain ⟨_,_,_,_,_,_,_,_⟩:=yc4 aa
     try go_wp2
     go_roundg k1
     case measure=>exact yom1 HK1
     case rel=>exact ⟨((aD * 256) % 4294967296),(Go.bits .or .u64 (Go.bits .and .u64 (IntKind.u64.wrap (ah * 256)) 4294967295) aC),(wrap64 (af+1)),yq,H',⟨yom1 HK1⟩,⟨yV0 ag⟩,⟨ykp aa⟩,⟨yk ae⟩,⟨yhb⟩⟩
    rw [if_neg c22] at H
    have bO:=yG c22
    clear c22
    have H' := zm H
    clear H
    try go_wp2
    replace ag:=zm (zC ag.out)
    replace aa:=zm (zj aa.out)
    replace ae:=zm (zj ae.out)
    replace HB:=zm (zf HB.out)
    refine yst (fun w' => w'.cell? ⟨ac,0,none⟩=some (.int .u64 ah)∧w'.cell? ⟨ac,1,none⟩=some (.int .u32 aq)∧w'.cell? ⟨ac,2,none⟩=some (.slice aI al.length aJ)∧w'.cell? ⟨ac,3,none⟩=some (.int .i64 af)) [11] 12 coder_Take.tab7 coder_Take.bits7 (fun hHeld HT_ HW_ => ?_)
    generalize wr.drew=w27 at ag aa ae HB hHeld ⊢
    refine yp 0 39 HT_ ?_
    refine yp 4 43 HT_ ?_
    refine yp 6 45 HT_ ?_
    refine yl 1 40 HT_ HW_ hHeld ?_
    refine yp 2 41 HT_ ?_
    refine yp 3 42 HT_ ?_
    refine yl 5 44 HT_ HW_ hHeld ?_
    refine yl 7 46 HT_ HW_ hHeld ?_
    refine yw 8 47 HT_ (fun K hK => ?_)
    refine ygs Try.func93 #[.slice aI al.length aJ, .int .i64 af] ?_
    with_reducible refine (coder_at.calls _ _ al af aC _ ?aW ?aX A21.out).mono ?_
    (case aW=>exact yce (Kd.V_reads' ag.out).2.2)
    (case aX=>exact (Kd.V_reads' ag.out).2.1)
    rintro e w' ⟨rfl,⟨nd,rfl⟩⟩
    refine ⟨_,rfl, ?_⟩
    refine hK.out _ _ yH (fun hHeld => ?_)
    clear hK K
    refine ym (some 47) ?_
    refine yp 9 48 HT_ ?_
    refine yp 10 49 HT_ ?_
    refine last_ (i:=11) (N:=none) #[true,true,true,true,true,true,true,true,true,true,true,true] rfl rfl (one_of HT_.out (by kernel_rfl)) (by decide) (fun K hK => ?_)
    have bT : w27.cell? ⟨ac,0,none⟩=some (.int .u64 ah):=(zs aa.out 0).trans rfl
    have hfs28:=zx aa.out 0
    have:=aj.out
    have:=ai.out
    refine skip_ (w1 := ?_) (by rfl) rfl ?_ ?_
    rotate_left
    ·
     go_simp
     rfl
    refine hK.out _ _ ?_
    clear hK K
    refine done_ (done_of HT_.out (by kernel_rfl)) ?_
    have:=ai.out
    have:=aj.out
    obtain ⟨_,_,_,_,_,_,_,_⟩:=yc4 aa
    try go_wp2
    go_roundg k1
    case measure=>exact yom1 HK1
    case rel=>exact ⟨((aD * 256) % 4294967296),(Go.bits .or .u64 (Go.bits .and .u64 (IntKind.u64.wrap (ah * 256)) 4294967295) aC),(af),yq,H',⟨yom1 HK1⟩,⟨yV0 ag⟩,⟨ykp aa⟩,⟨yk ae⟩,⟨yhb⟩⟩
   rw [if_neg c20] at H
   have bN:=yG c20
   clear c20
   simp only [Option.some.injEq,Prod.mk.injEq] at H
   obtain ⟨rfl,rfl,rfl,rfl,rfl⟩:=H
   have:=ai.out
   have:=aj.out
   obtain ⟨_,_,_,_,_,_,_,_⟩:=yc4 aa
   obtain ⟨_,_,_,_,_,_,_,_⟩:=yc4 ae
   go_wp2
   refine bodyPost_ret (results_ct rfl _ _ am 88 #[.int .u64 ah, .int .u32 aD, .slice aI al.length aJ, .int .i64 af] (0,0) _ rfl (ykp ae) Try.underlying88 rfl (by kernel_rfl)) rfl ?_
   exact ⟨_,by first|rfl|(simp [errW_none,errW_some] <;> rfl)|(simp only [← aQ];first|rfl|(simp [errW_none,errW_some] <;> rfl))|(simp [*,errW_none,errW_some] <;> rfl),yV0 ag,yhb⟩
 replace c7:=Bool.eq_false_iff.mpr c7
 subst c7
 rw [ynf] at H
 simp only [Option.some.injEq,Prod.mk.injEq] at H
 obtain ⟨rfl,rfl,rfl,rfl,rfl⟩:=H
 go_enter Try.func55,Try.ntmps55
 go_wp2_with (first|((with_reducible refine gate_dst (N:=4) rfl ?_);refine ybx 4 #[.int .u64 aE, .int .u32 aG, .slice aK av.length aM, .int .i64 aH] 88 ?_;intro ac hg w34 hbox hb;replace ak:=yVe ak hg hb;have aa:=zm (hbox);have bH:=ygw hg;have bI:=ygw hg;replace HB:=ybs hb;clear hb hbox hg)|((with_reducible refine gate_dst (N:=8) rfl ?_);refine ybx 8 #[.int .u64 0, .int .u32 0, .slice none 0 0, .int .i64 0] 88 ?_;intro am hg w35 hbox hb;replace ak:=yVe ak hg hb;have ae:=zm (hbox);have bJ:=ygw hg;have bK:=ygw hg;replace HB:=ybs hb;have ai:=ynl aa hg;have aj:=yng aa hg;replace aa:=ybb aa hb;clear hb hbox hg;have:=ai.out;have:=aj.out;obtain ⟨_,_,_,_,_,_,_,_⟩:=yc4 aa)|((with_reducible refine gate_callee (f:=94) rfl ?_);refine ygl 13 Try.func94 #[.agg #[.int .u64 aE, .int .u32 aG, .slice aK av.length aM, .int .i64 aH]] ?_;(with_reducible refine (coder_good.calls aE aG (fun k_=>(((au k_∨w.heap.size≤k_)∧k_≠ac)∧k_≠am)) _ _ av aH ay aq al az _ ak.out A5.out).mono ?_);rintro e w38 ⟨bM,rfl,ho0,hb⟩;refine ⟨_,rfl, ?_⟩;replace ak:=yVb ak hb;have ao:=yho (fun k_=>(au k_∨w.heap.size≤k_)∧k_≠ac∧k_≠am) ho0 (fun k_ hk_=>⟨Or.elim hk_ (fun hs_=>hs_.1.1) (fun hn_=>(.inr (Nat.le_trans (zE yhb) hn_))),yoB aa hk_,yoB ae hk_⟩);replace aa:=ybb aa hb;replace ae:=ybb ae hb;replace HB:=ybs hb;(try clear hb);(try clear ho0);obtain ⟨_,_,_,_,_,_,_,_⟩:=yc4 aa;obtain ⟨bE,bF,bQ⟩:=Kd.V_slice ao.out;subst bQ)|((with_reducible refine gate_store (t:=88) (p:=4) rfl ?_);refine store_event (t:=88) (p:=4) (v := ?vo_w41) (w1:=((((w38.setCell ⟨ac,0,none⟩ (.int .u64 ay)).setCell ⟨ac,1,none⟩ (.int .u32 aq)).setCell ⟨ac,2,none⟩ (.slice bE al.length bF)).setCell ⟨ac,3,none⟩ (.int .i64 az))) ?hg ?ho ?hn ?hr ?_;(case ho=>rfl);(case hg=>rfl);(case hn=>rfl);(case hr=>first|(go_simp;done)|(go_simp;rfl));intro w41 hw;replace ak : Aside0 (Kd.V (Kd.int .u8) 5 w41 w.heap.size (fun k_=>(au k_∨w.heap.size≤k_)∧k_≠ac∧k_≠am) (.slice aK av.length aM) av):=⟨(by rw [hw];exact (yV0 ak))⟩;replace ao : Aside0 (Kd.V (Kd.int .u8) 5 w41 w.heap.size (fun k_=>(au k_∨w.heap.size≤k_)∧k_≠ac∧k_≠am) (.slice bE al.length bF) al):=⟨(by rw [hw];exact (yV0 ao))⟩;replace aa : Aside0 (w41.heap[ac]? = some (.cells #[.int .u64 ay, .int .u32 aq, .slice bE al.length bF, .int .i64 az] 88 (0,0))):=⟨(by rw [hw];exact (ykp aa))⟩;replace ae : Aside0 (w41.heap[am]? = some (.cells #[.int .u64 0, .int .u32 0, .slice none 0 0, .int .i64 0] 88 (0,0))):=⟨(by rw [hw];exact (yk ae))⟩;replace HB : Aside0 (Below w.heap.size w w41):=⟨(by rw [hw];exact yhb)⟩;clear hw)|((with_reducible refine gate_callee (f:=84) rfl ?_);refine ygl 17 Try.func84 #[.int .i64 a1, .int .i64 a2, .int .i64 a3] ?_;(with_reducible refine (coder_fair.calls a1 a2 a3 false _ A6.out).mono ?_);rintro e w' ⟨rfl,⟨nd,rfl⟩⟩;refine ⟨_,rfl, ?_⟩;(try (rw [drewN_self w41];generalize hq_ : World.drewN w41 _=w41;replace ak:=yVq hq_ ak;replace ao:=yVq hq_ ao;replace aa:=ykq hq_ aa;replace ae:=ykq hq_ ae;replace HB:=ysq hq_;clear hq_));obtain ⟨_,_,_,_,_,_,_,_⟩:=yc4 aa;obtain ⟨_,_,_,_,_,_,_,_⟩:=yc4 ae))
 refine bodyPost_ret (results_ct rfl _ _ am 88 #[.int .u64 ay, .int .u32 aq, .slice bE al.length bF, .int .i64 az] (0,0) _ rfl (ykp ae) Try.underlying88 rfl (by kernel_rfl)) rfl ?_
 exact ⟨_,ye,yV0 ao,yhb⟩
def coder_halves.f (a0 : Int) : Option (Int × Int):=if a0≤65536 then (some (wrap64 (a0),1)) else (some (wrap64 ((wrap64 (IntKind.u64.wrap (Int.tdiv (IntKind.u64.wrap (a0 - 1)) 65536)))+1),65536))
set_option maxHeartbeats 8000000 in
set_option maxRecDepth 100000 in
theorem coder_halves.calls (a0 : Int) (r1 : Int) (r2 : Int) (w : World) (h : coder_halves.f a0=some (r1,r2)) :
  Calls Try.prog 92 #[.int .u64 a0] w fun e w' => e=.returned (.tuple #[.int .i64 r1, .int .i64 r2])∧Drawn0 w w' := by
 have H:=h
 unfold coder_halves.f at H
 clear h
 by_cases c2 : a0≤65536
 ·
  rw [if_pos c2] at H
  have aa:=yD c2
  clear c2
  simp only [Option.some.injEq,Prod.mk.injEq] at H
  obtain ⟨rfl,rfl⟩:=H
  go_enter Try.func92,Try.ntmps92
  go_wp2
  go_ret2
  exact ⟨yq,yd⟩
 rw [if_neg c2] at H
 have aa:=yG c2
 clear c2
 simp only [Option.some.injEq,Prod.mk.injEq] at H
 obtain ⟨rfl,rfl⟩:=H
 go_enter Try.func92,Try.ntmps92
 go_wp2
 go_ret2
 exact ⟨yq,yd⟩
def coder_TakeNum.j0 : Nat→Int→Bool→Int→Int→List Int→Int→Option (Int × Int × List Int × Int × Int × Int)
 | 0,_,_,_,_,_,_=>none
 | k+1,x1,x21,aH,aI,aJ,aK=>if x21=true then (some (aH,aI,aJ,aK,0,1)) else ((coder_halves.f x1).bind fun aA=>((coder_Get.f aH aI aJ aK aA.1).bind fun aT=>((coder_Take.f k aH aI aJ aK aT.1 (wrap64 (aT.1+1)) aA.1).bind fun ag=>(if aA.2 > 1 then ((coder_Get.f ag.1 ag.2.1 ag.2.2.1 ag.2.2.2.1 aA.2).bind fun aY=>((coder_Take.f k ag.1 ag.2.1 ag.2.2.1 ag.2.2.2.1 aY.1 (wrap64 (aY.1+1)) aA.2).bind fun aU=>(some (aU.1,aU.2.1,aU.2.2.1,aU.2.2.2.1,mn (IntKind.u64.wrap ((IntKind.u64.wrap ((IntKind.u64.wrap (aT.1)) * (IntKind.u64.wrap (aA.2))))+(IntKind.u64.wrap (aY.1)))) (IntKind.u64.wrap (x1 - 1)),0)))) else (some (ag.1,ag.2.1,ag.2.2.1,ag.2.2.2.1,mn (IntKind.u64.wrap (aT.1)) (IntKind.u64.wrap (x1 - 1)),0))))))
def coder_TakeNum.f (k : Nat) (aZ : Int) (a7 : Int) (aM : List Int) (a8 : Int) (a1 : Int) : Option (Int × Int × List Int × Int × Int × Int):=(coder_good.f aZ a7 aM a8).bind fun av=>(if a1 < 1 then (coder_TakeNum.j0 k a1 true av.1 av.2.1 av.2.2.1 av.2.2.2) else (coder_TakeNum.j0 k a1 (decide (a1 > 4294967296)) av.1 av.2.1 av.2.2.1 av.2.2.2))
theorem coder_TakeNum.mono_l : ∀ k,(∀ y0 y1 y2 y3 y4 y5,LeO (coder_TakeNum.j0 k y0 y1 y2 y3 y4 y5) (coder_TakeNum.j0 (k+1) y0 y1 y2 y3 y4 y5))
 | 0=>fun _ _ _ _ _ _ r h=>by simp [coder_TakeNum.j0] at h
 | k+1=>by
  have ih0:=coder_TakeNum.mono_l k
  ·
   intro y0 y1 y2 y3 y4 y5
   unfold coder_TakeNum.j0
   repeat' with_reducible first|apply ih0|apply coder_Take.mono|apply yLr|apply yLn|apply yLi|apply yLb|intro _
theorem coder_TakeNum.mono : ∀ a0 a1 a2 a3 a4 k,LeO (coder_TakeNum.f k a0 a1 a2 a3 a4) (coder_TakeNum.f (k+1) a0 a1 a2 a3 a4):=by
 intro a0 a1 a2 a3 a4 k
 have ih0:=coder_TakeNum.mono_l k
 unfold coder_TakeNum.f
 repeat' with_reducible first|apply ih0|apply coder_Take.mono|apply yLr|apply yLn|apply yLi|apply yLb|intro _
set_option maxHeartbeats 8000000 in
set_option maxRecDepth 100000 in
theorem coder_TakeNum.calls (k : Nat) (aZ : Int) (a7 : Int) (ao : Nat→Prop) (bd : Option Addr) (bf : Nat) (aM : List Int) (a8 : Int) (a1 : Int) (r1 : Int) (r2 : Int) (r3 : List Int) (r4 : Int) (r5 : Int) (r6 : Int) (w : World) (bH : Kd.V (Kd.int .u8) 5 w w.heap.size (fun k_=>ao k_) (.slice bd aM.length bf) aM) (h : coder_TakeNum.f k aZ a7 aM a8 a1=some (r1,r2,r3,r4,r5,r6)) :
  Calls Try.prog 57 #[.agg #[.int .u64 aZ, .int .u32 a7, .slice bd aM.length bf, .int .i64 a8], .int .u64 a1] w fun e w' => ∃ v2_ : Value,e=.returned (.tuple #[.agg #[.int .u64 r1, .int .u32 r2,v2_, .int .i64 r4], .int .u64 r5, .int .i64 r6])∧Kd.V (Kd.int .u8) 5 w' w.heap.size (fun k_=>(ao k_∨w.heap.size≤k_)) v2_ r3∧Below w.heap.size w w' := by
 have hu88:=Try.underlying88
 have aN:=zm (show Kd.V (Kd.int .u8) 5 w w.heap.size (fun k_=>(ao k_∨w.heap.size≤k_)) (.slice bd aM.length bf) aM from zy bH (fun k_ hk => .inl hk))
 have HB:=zm (Below.refl w.heap.size w);have H:=h
 unfold coder_TakeNum.f at H
 clear h
 replace H:=ybi H;obtain ⟨⟨ap,aq,ak,au⟩,A3,H⟩:=H
 try dsimp only at H
 have HC4:=zm H;clear H
 go_enter Try.func57,Try.ntmps57
 go_upto_region 2 with (first|((with_reducible refine gate_dst (N:=2) rfl ?_);refine ybx 2 #[.int .u64 aZ, .int .u32 a7, .slice bd aM.length bf, .int .i64 a8] 88 ?_;intro ah hg w5 hbox hb;replace aN:=yVe aN hg hb;have ac:=zm (hbox);have bM:=ygw hg;have bN:=ygw hg;replace HB:=ybs hb;clear hb hbox hg)|((with_reducible refine gate_dst (N:=4) rfl ?_);refine ybx 4 #[.int .u64 0, .int .u32 0, .slice none 0 0, .int .i64 0] 88 ?_;intro af hg w6 hbox hb;replace aN:=yVe aN hg hb;have ae:=zm (hbox);have bO:=ygw hg;have bP:=ygw hg;replace HB:=ybs hb;have al:=ynl ac hg;have am:=yng ac hg;replace ac:=ybb ac hb;clear hb hbox hg;have:=al.out;have:=am.out;obtain ⟨bx,bz,bA,bB,bC,bD,bE,bF⟩:=yc4 ac)|((with_reducible refine gate_callee (f:=94) rfl ?_);refine ygl 15 Try.func94 #[.agg #[.int .u64 aZ, .int .u32 a7, .slice bd aM.length bf, .int .i64 a8]] ?_;(with_reducible refine (coder_good.calls aZ a7 (fun k_=>(((ao k_∨w.heap.size≤k_)∧k_≠ah)∧k_≠af)) _ _ aM a8 ap aq ak au _ aN.out A3.out).mono ?_);rintro e w9 ⟨b6,rfl,ho0,hb⟩;refine ⟨_,rfl, ?_⟩;replace aN:=yVb aN hb;have a9:=yho (fun k_=>(ao k_∨w.heap.size≤k_)∧k_≠ah∧k_≠af) ho0 (fun k_ hk_=>⟨Or.elim hk_ (fun hs_=>hs_.1.1) (fun hn_=>(.inr (Nat.le_trans (zE yhb) hn_))),yoB ac hk_,yoB ae hk_⟩);replace ac:=ybb ac hb;replace ae:=ybb ae hb;replace HB:=ybs hb;(try clear hb);(try clear ho0);obtain ⟨bh,bi,bj,bk,bl,bm,bn,bo⟩:=yc4 ac;obtain ⟨ba,bb,bQ⟩:=Kd.V_slice a9.out;subst bQ))
 (try simp only [Act.put,List.setIfInBounds_toArray,List.set_cons_zero,List.set_cons_succ])
 go_cut [21] (fun v21 wc => ∃ (kq : Nat) (bc : Bool),v21=.bool bc∧Aside0 (coder_TakeNum.j0 kq a1 bc ap aq ak au=some (r1,r2,r3,r4,r5,r6))∧Aside0 (kq≤k)∧Aside0 (Kd.V (Kd.int .u8) 5 wc w.heap.size (fun k_=>(ao k_∨w.heap.size≤k_)∧k_≠ah∧k_≠af) (.slice ba ak.length bb) ak)∧Aside0 (wc.heap[ah]? = some (.cells #[.int .u64 ap, .int .u32 aq,(.slice ba ak.length bb), .int .i64 au] 88 (0,0)))∧Aside0 (wc.heap[af]? = some (.cells #[.int .u64 0, .int .u32 0,(.slice none 0 0), .int .i64 0] 88 (0,0)))∧Aside0 (Below w.heap.size w wc))
 case first =>
  have H:=HC4.out;clear HC4
  by_cases c12 : a1 < 1
  ·
   rw [if_pos c12] at H
   have aV:=yD c12
   clear c12
   (first|rw [aV]|(simp only [i64_w,i32_w];rw [aV])|skip)
   have H' := zm H
   clear H
   go_wp2
   go_meet
   case rel=>exact ⟨_,(true),yq,H',⟨yo⟩,⟨yV0 a9⟩,⟨ykp ac⟩,⟨yk ae⟩,⟨yhb⟩⟩
  rw [if_neg c12] at H
  have aV:=yG c12
  clear c12
  (first|rw [aV]|(simp only [i64_w,i32_w];rw [aV])|skip)
  have H' := zm H
  clear H
  go_wp2
  go_meet
  case rel=>exact ⟨_,(decide (a1 > 4294967296)),yq,H',⟨yo⟩,⟨yV0 a9⟩,⟨ykp ac⟩,⟨yk ae⟩,⟨yhb⟩⟩
 case rest =>
  clear HC4
  try clear bh
  try clear bi
  try clear bj
  try clear bk
  try clear bx
  try clear bz
  try clear bA
  try clear bB
  try clear bl
  try clear bm
  try clear bn
  try clear bo
  try clear bC
  try clear bD
  try clear bE
  try clear bF
  obtain ⟨kq,bc,rfl,HA,HJ3,aa,ac,ae,HB⟩:=hcut
  obtain ⟨kj3,rfl⟩:=ysu kq (fun h=>by subst h;exact absurd HA.out (by simp [coder_TakeNum.j0]))
  have H:=HA.out;clear HA
  simp only [coder_TakeNum.j0] at H
  by_cases c13 : bc=true
  ·
   subst c13
   rw [if_pos rfl] at H
   simp only [Option.some.injEq,Prod.mk.injEq] at H
   obtain ⟨rfl,rfl,rfl,rfl,rfl,rfl⟩:=H
   have:=al.out
   have:=am.out
   obtain ⟨_,_,_,_,_,_,_,_⟩:=yc4 ac
   obtain ⟨_,_,_,_,_,_,_,_⟩:=yc4 ae
   go_wp2
   refine bodyPost_ret (results_ctt rfl _ _ af 88 #[.int .u64 ap, .int .u32 aq, .slice ba ak.length bb, .int .i64 au] (0,0) _ rfl (ykp ae) Try.underlying88 rfl (by kernel_rfl)) rfl ?_
   exact ⟨_,ye,yV0 aa,yhb⟩
  replace c13:=Bool.eq_false_iff.mpr c13
  subst c13
  rw [ynf] at H
  replace H:=ybi H;obtain ⟨⟨aw,ax⟩,A17,H⟩:=H
  try dsimp only at H
  replace H:=ybi H;obtain ⟨⟨ai,bq⟩,A18,H⟩:=H
  try dsimp only at H
  replace H:=ybi H;obtain ⟨⟨aC,aD,ay,aE,br⟩,A19,H⟩:=H
  try dsimp only at H
  by_cases c20 : ax > 1
  ·
   rw [if_pos c20] at H
   have bI:=yDs c20
   clear c20
   replace H:=ybi H;obtain ⟨⟨aG,bJ⟩,A21,H⟩:=H
   try dsimp only at H
   replace H:=ybi H;obtain ⟨⟨bs,bu,bv,bw,bK⟩,A22,H⟩:=H
   try dsimp only at H
   obtain ⟨bR,az⟩ : ∃ j_ : Int,(mn (IntKind.u64.wrap ((IntKind.u64.wrap ((IntKind.u64.wrap (ai)) * (IntKind.u64.wrap (ax))))+(IntKind.u64.wrap (aG)))) (IntKind.u64.wrap (a1 - 1)))=j_:=⟨_,rfl⟩
   (first|rw [az] at H|simp only [az] at H)
   (try rw [az] at A17)
   (try rw [az] at A18)
   (try rw [az] at A19)
   (try rw [az] at A21)
   (try rw [az] at A22)
   have bS : (if (IntKind.u64.wrap (a1 - 1)) < (IntKind.u64.wrap ((IntKind.u64.wrap ((IntKind.u64.wrap (ai)) * (IntKind.u64.wrap (ax))))+(IntKind.u64.wrap (aG)))) then (IntKind.u64.wrap (a1 - 1)) else (IntKind.u64.wrap ((IntKind.u64.wrap ((IntKind.u64.wrap (ai)) * (IntKind.u64.wrap (ax))))+(IntKind.u64.wrap (aG)))))=bR:=az
   simp only [Option.some.injEq,Prod.mk.injEq] at H
   obtain ⟨rfl,rfl,rfl,rfl,rfl,rfl⟩:=H
   go_wp2_with (first|((with_reducible refine gate_callee (f:=92) rfl ?_);refine ygl 25 Try.func92 #[.int .u64 a1] ?_;(with_reducible refine (coder_halves.calls a1 aw ax _ A17.out).mono ?_);rintro e w' ⟨rfl,⟨nd,rfl⟩⟩;refine ⟨_,rfl, ?_⟩;(try (rw [drewN_self wc];generalize hq_ : World.drewN wc _=wc;replace aa:=yVq hq_ aa;replace ac:=ykq hq_ ac;replace ae:=ykq hq_ ae;replace HB:=ysq hq_;clear hq_));have:=al.out;have:=am.out;obtain ⟨_,_,_,_,_,_,_,_⟩:=yc4 ac)|((with_reducible refine gate_callee (f:=54) rfl ?_);refine ygl 31 Try.func54 #[.agg #[.int .u64 ap, .int .u32 aq, .slice ba ak.length bb, .int .i64 au], .int .i64 aw] ?_;(with_reducible refine (coder_Get.calls ap aq _ _ ak au aw ai bq _ ?aW ?aX A18.out).mono ?_);(case aW=>exact yce (Kd.V_reads' aa.out).2.2);(case aX=>exact (Kd.V_reads' aa.out).2.1);rintro e w26 ⟨rfl,hb⟩;refine ⟨_,rfl, ?_⟩;replace aa:=yVb aa hb;replace ac:=ybb ac hb;replace ae:=ybb ae hb;replace HB:=ybs hb;(try clear hb);obtain ⟨_,_,_,_,_,_,_,_⟩:=yc4 ac)|((with_reducible refine gate_callee (f:=55) rfl ?_);refine ygl 40 Try.func55 #[.agg #[.int .u64 ap, .int .u32 aq, .slice ba ak.length bb, .int .i64 au], .int .i64 ai, .int .i64 (wrap64 (ai+1)), .int .i64 aw] ?_;(with_reducible refine (coder_Take.calls kj3 ap aq (fun k_=>((ao k_∨w.heap.size≤k_)∧(k_≠ah∧k_≠af))) _ _ ak au ai (wrap64 (ai+1)) aw aC aD ay aE br _ aa.out A19.out).mono ?_);rintro e w28 ⟨bL,rfl,ho0,hb⟩;refine ⟨_,rfl, ?_⟩;replace aa:=yVb aa hb;have aj:=yho (fun k_=>(ao k_∨w.heap.size≤k_)∧k_≠ah∧k_≠af) ho0 (fun k_ hk_=>⟨Or.elim hk_ (fun hs_=>hs_.1) (fun hn_=>(.inr (Nat.le_trans (zE yhb) hn_))),yoB ac hk_,yoB ae hk_⟩);replace ac:=ybb ac hb;replace ae:=ybb ae hb;replace HB:=ybs hb;(try clear hb);(try clear ho0);obtain ⟨_,_,_,_,_,_,_,_⟩:=yc4 ac;obtain ⟨bG,bp,bT⟩:=Kd.V_slice aj.out;subst bT)|((with_reducible refine gate_callee (f:=54) rfl ?_);refine ygl 50 Try.func54 #[.agg #[.int .u64 aC, .int .u32 aD, .slice bG ay.length bp, .int .i64 aE], .int .i64 ax] ?_;(with_reducible refine (coder_Get.calls aC aD _ _ ay aE ax aG bJ _ ?aW ?aX A21.out).mono ?_);(case aW=>refine (Kd.V_reads' (e:=5) (base:=w.heap.size) (ok:=fun k_=>((ao k_∨w.heap.size≤k_)∧(k_≠ah∧k_≠af))) (n:=ay.length) (c:=bp) ?_).2.2;exact (yV0 aj));(case aX=>exact (Kd.V_reads' aj.out).2.1);rintro e w31 ⟨rfl,hb⟩;refine ⟨_,rfl, ?_⟩;replace aa:=zm (Kd.V_below (yV0 aa) hb);replace aj:=zm (Kd.V_below (yV0 aj) hb);replace ac:=zm (zF (g:=ah) (o:=.cells #[.int .u64 aC, .int .u32 aD, .slice bG ay.length bp, .int .i64 aE] 88 (0,0)) (ykp ac) hb);replace ae:=ybb ae hb;replace HB:=ybs hb;(try clear hb);obtain ⟨_,_,_,_,_,_,_,_⟩:=yc4 ac)|((with_reducible refine gate_callee (f:=55) rfl ?_);refine ygl 59 Try.func55 #[.agg #[.int .u64 aC, .int .u32 aD, .slice bG ay.length bp, .int .i64 aE], .int .i64 aG, .int .i64 (wrap64 (aG+1)), .int .i64 ax] ?_;(with_reducible refine (coder_Take.calls kj3 aC aD (fun k_=>((ao k_∨w.heap.size≤k_)∧(k_≠ah∧k_≠af))) _ _ ay aE aG (wrap64 (aG+1)) ax bs bu bv bw bK _ aj.out A22.out).mono ?_);rintro e w33 ⟨b7,rfl,ho0,hb⟩;refine ⟨_,rfl, ?_⟩;replace aa:=yVb aa hb;replace aj:=yVb aj hb;have bg:=yho (fun k_=>(ao k_∨w.heap.size≤k_)∧k_≠ah∧k_≠af) ho0 (fun k_ hk_=>⟨Or.elim hk_ (fun hs_=>hs_.1) (fun hn_=>(.inr (Nat.le_trans (zE yhb) hn_))),yoB ac hk_,yoB ae hk_⟩);replace ac:=ybb ac hb;replace ae:=ybb ae hb;replace HB:=ybs hb;(try clear hb);(try clear ho0);obtain ⟨_,_,_,_,_,_,_,_⟩:=yc4 ac;obtain ⟨bU,bV,bW⟩:=Kd.V_slice bg.out;subst bW;obtain ⟨_,_,_,_,_,_,_,_⟩:=yc4 ae))
   refine bodyPost_ret (results_ctt rfl _ _ af 88 #[.int .u64 bs, .int .u32 bu, .slice bU bv.length bV, .int .i64 bw] (0,0) _ rfl (ykp ae) Try.underlying88 rfl (by kernel_rfl)) rfl ?_
   exact ⟨_,by first|rfl|(simp [errW_none,errW_some] <;> rfl)|(simp only [← az];first|rfl|(simp [errW_none,errW_some] <;> rfl))|(simp [*,errW_none,errW_some] <;> rfl),yV0 bg,yhb⟩
  rw [if_neg c20] at H
  have bI:=yGs c20
  clear c20
  obtain ⟨bX,aQ⟩ : ∃ j_ : Int,(mn (IntKind.u64.wrap (ai)) (IntKind.u64.wrap (a1 - 1)))=j_:=⟨_,rfl⟩
  (first|rw [aQ] at H|simp only [aQ] at H)
  (try rw [aQ] at A17)
  (try rw [aQ] at A18)
  (try rw [aQ] at A19)
  have bY : (if (IntKind.u64.wrap (a1 - 1)) < (IntKind.u64.wrap (ai)) then (IntKind.u64.wrap (a1 - 1)) else (IntKind.u64.wrap (ai)))=bX:=aQ
  simp only [Option.some.injEq,Prod.mk.injEq] at H
  obtain ⟨rfl,rfl,rfl,rfl,rfl,rfl⟩:=H
  go_wp2_with (first|((with_reducible refine gate_callee (f:=92) rfl ?_);refine ygl 25 Try.func92 #[.int .u64 a1] ?_;(with_reducible refine (coder_halves.calls a1 aw ax _ A17.out).mono ?_);rintro e w' ⟨rfl,⟨nd,rfl⟩⟩;refine ⟨_,rfl, ?_⟩;(try (rw [drewN_self wc];generalize hq_ : World.drewN wc _=wc;replace aa:=yVq hq_ aa;replace ac:=ykq hq_ ac;replace ae:=ykq hq_ ae;replace HB:=ysq hq_;clear hq_));have:=al.out;have:=am.out;obtain ⟨_,_,_,_,_,_,_,_⟩:=yc4 ac)|((with_reducible refine gate_callee (f:=54) rfl ?_);refine ygl 31 Try.func54 #[.agg #[.int .u64 ap, .int .u32 aq, .slice ba ak.length bb, .int .i64 au], .int .i64 aw] ?_;(with_reducible refine (coder_Get.calls ap aq _ _ ak au aw ai bq _ ?aW ?aX A18.out).mono ?_);(case aW=>exact yce (Kd.V_reads' aa.out).2.2);(case aX=>exact (Kd.V_reads' aa.out).2.1);rintro e w40 ⟨rfl,hb⟩;refine ⟨_,rfl, ?_⟩;replace aa:=yVb aa hb;replace ac:=ybb ac hb;replace ae:=ybb ae hb;replace HB:=ybs hb;(try clear hb);obtain ⟨_,_,_,_,_,_,_,_⟩:=yc4 ac)|((with_reducible refine gate_callee (f:=55) rfl ?_);refine ygl 40 Try.func55 #[.agg #[.int .u64 ap, .int .u32 aq, .slice ba ak.length bb, .int .i64 au], .int .i64 ai, .int .i64 (wrap64 (ai+1)), .int .i64 aw] ?_;(with_reducible refine (coder_Take.calls kj3 ap aq (fun k_=>((ao k_∨w.heap.size≤k_)∧(k_≠ah∧k_≠af))) _ _ ak au ai (wrap64 (ai+1)) aw aC aD ay aE br _ aa.out A19.out).mono ?_);rintro e w42 ⟨bL,rfl,ho0,hb⟩;refine ⟨_,rfl, ?_⟩;replace aa:=yVb aa hb;have aj:=yho (fun k_=>(ao k_∨w.heap.size≤k_)∧k_≠ah∧k_≠af) ho0 (fun k_ hk_=>⟨Or.elim hk_ (fun hs_=>hs_.1) (fun hn_=>(.inr (Nat.le_trans (zE yhb) hn_))),yoB ac hk_,yoB ae hk_⟩);replace ac:=ybb ac hb;replace ae:=ybb ae hb;replace HB:=ybs hb;(try clear hb);(try clear ho0);obtain ⟨_,_,_,_,_,_,_,_⟩:=yc4 ac;obtain ⟨bZ,b4,b5⟩:=Kd.V_slice aj.out;subst b5;obtain ⟨_,_,_,_,_,_,_,_⟩:=yc4 ae))
  refine bodyPost_ret (results_ctt rfl _ _ af 88 #[.int .u64 aC, .int .u32 aD, .slice bZ ay.length b4, .int .i64 aE] (0,0) _ rfl (ykp ae) Try.underlying88 rfl (by kernel_rfl)) rfl ?_
  exact ⟨_,by first|rfl|(simp [errW_none,errW_some] <;> rfl)|(simp only [← aQ];first|rfl|(simp [errW_none,errW_some] <;> rfl))|(simp [*,errW_none,errW_some] <;> rfl),yV0 aj,yhb⟩
mutual
def comb_Vector.l0 : Nat→Int→Int→Int→List Int→Option (List Int × Int)
 | 0,_,_,_,_=>none
 | k+1,x0,x1,x2,x9=>if x0 > 0 then ((comb_table.f (wrap64 (x0 - 1)) x1).bind fun aj=>(if x2 ≥ aj then ((comb_table.f (wrap64 (x0 - 1)) (wrap64 (x1 - 1))).bind fun av=>(comb_Vector.l1 k x0 x1 (IntKind.u64.wrap (x2 - aj)) x9 1 av)) else (if x9.length < 17592186044416 then (comb_Vector.l0 k (wrap64 (x0 - 1)) x1 x2 (x9 ++ [0])) else (none)))) else (some (x9,0))
def comb_Vector.l1 : Nat→Int→Int→Int→List Int→Int→Int→Option (List Int × Int)
 | 0,_,_,_,_,_,_=>none
 | k+1,x0,x1,x2,x9,x10,x12=>if x2 ≥ (IntKind.u64.wrap (2 * x12)) then ((comb_table.f (wrap64 (x0 - 1)) (wrap64 (x1 - (wrap64 (x10+1))))).bind fun aw=>(comb_Vector.l1 k x0 x1 (IntKind.u64.wrap (x2 - (IntKind.u64.wrap (2 * x12)))) x9 (wrap64 (x10+1)) aw)) else ((comb_table.f (wrap64 (x0 - 1)) (wrap64 (x1 - x10))).bind fun ai=>(if x2 ≥ ai then (if x9.length < 17592186044416 then (comb_Vector.l0 k (wrap64 (x0 - 1)) (wrap64 (x1 - x10)) (IntKind.u64.wrap (x2 - ai)) (x9 ++ [wrap64 (-x10)])) else (none)) else (if x9.length < 17592186044416 then (comb_Vector.l0 k (wrap64 (x0 - 1)) (wrap64 (x1 - x10)) x2 (x9 ++ [x10])) else (none))))
end
def comb_Vector.f (k : Nat) (a0 : Int) (a1 : Int) (a2 : Int) : Option (List Int × Int):=(comb_fair.f a0 a1).bind fun ax=>(if ax=true then ((comb_table.f a0 a1).bind fun ak=>(if a2 ≥ ak then (some (([] : List Int),5)) else (comb_Vector.l0 k a0 a1 a2 ([] : List Int)))) else (some (([] : List Int),1)))
theorem comb_Vector.mono_l : ∀ k,(∀ y0 y1 y2 y3,LeO (comb_Vector.l0 k y0 y1 y2 y3) (comb_Vector.l0 (k+1) y0 y1 y2 y3))∧(∀ y0 y1 y2 y3 y4 y5,LeO (comb_Vector.l1 k y0 y1 y2 y3 y4 y5) (comb_Vector.l1 (k+1) y0 y1 y2 y3 y4 y5))
 | 0=>⟨fun _ _ _ _ r h=>by simp [comb_Vector.l0] at h,fun _ _ _ _ _ _ r h=>by simp [comb_Vector.l1] at h⟩
 | k+1=>by
  obtain ⟨ih0,ih1⟩:=comb_Vector.mono_l k
  refine ⟨?_, ?_⟩
  ·
   intro y0 y1 y2 y3
   unfold comb_Vector.l0
   repeat' with_reducible first|apply ih0|apply ih1|apply yLr|apply yLn|apply yLi|apply yLb|intro _
  intro y0 y1 y2 y3 y4 y5
  unfold comb_Vector.l1
  repeat' with_reducible first|apply ih0|apply ih1|apply yLr|apply yLn|apply yLi|apply yLb|intro _
theorem comb_Vector.mono : ∀ a0 a1 a2 k,LeO (comb_Vector.f k a0 a1 a2) (comb_Vector.f (k+1) a0 a1 a2):=by
 intro a0 a1 a2 k
 obtain ⟨ih0,ih1⟩:=comb_Vector.mono_l k
 unfold comb_Vector.f
 repeat' with_reducible first|apply ih0|apply ih1|apply yLr|apply yLn|apply yLi|apply yLb|intro _
set_option maxHeartbeats 8000000 in
set_option maxRecDepth 100000 in
theorem comb_Vector.calls (k : Nat) (a0 : Int) (a1 : Int) (a2 : Int) (r1 : List Int) (r2 : Int) (w : World) (h : comb_Vector.f k a0 a1 a2=some (r1,r2)) :
  Calls Try.prog 58 #[.int .i64 a0, .int .i64 a1, .int .u64 a2] w fun e w' => ∃ v0_ : Value,e=.returned (.tuple #[v0_, .int .i64 r2])∧Kd.R (Kd.int .i64) 3 w' w.heap.size (fun _=>True) v0_ r1∧Below w.heap.size w w' := by
 have HB:=zm (Below.refl w.heap.size w);have H:=h
 unfold comb_Vector.f at H
 clear h
 replace H:=ybi H;obtain ⟨ax,A4,H⟩:=H
 by_cases c5 : ax=true
 ·
  subst c5
  rw [if_pos rfl] at H
  obtain ⟨aU,am⟩ : ∃ y_ : List Int,y_=(([0] : List Int)):=⟨_,rfl⟩
  replace H : ((comb_table.f a0 a1).bind fun ak=>(if a2 ≥ ak then (some (([] : List Int),5)) else (comb_Vector.l0 k a0 a1 a2 ([] : List Int))))=some (r1,r2):=yrw am H
  have aT:=zm am;clear am
  replace H:=ybi H;obtain ⟨ak,A6,H⟩:=H
  by_cases c7 : a2 ≥ ak
  ·
   rw [if_pos c7] at H
   have aM:=yDl c7
   clear c7
   simp only [Option.some.injEq,Prod.mk.injEq] at H
   obtain ⟨rfl,rfl⟩:=H
   go_enter Try.func58,Try.ntmps58
   obtain ⟨Z,hz,HZs⟩:=comb_table.zsize
   obtain ⟨ia0,ib0,ic0,id0⟩:=comb_table.inn A6.out
   go_wp2_with (first|((with_reducible refine gate_callee (f:=88) rfl ?_);refine ygl 16 Try.func88 #[.int .i64 a0, .int .i64 a1] ?_;(with_reducible refine (comb_fair.calls a0 a1 true _ A4.out).mono ?_);rintro e w' ⟨rfl,⟨nd,rfl⟩⟩;refine ⟨_,rfl, ?_⟩)|((with_reducible refine gate_callee (f:=89) rfl ?_);refine goesL_ (some 18) rfl rfl Try.func89 (by kernel_rfl) rfl #[] rfl (by first|rfl|simp) ?_;(with_reducible refine (comb_table.made _).mono ?_);rintro e w5 ⟨rfl,hb5⟩;refine ⟨_,rfl, ?_⟩;have hst:=run_storeCells_new (P:=Try.prog) w5 130 Z (ABl (comb_table.T 16)) comb_table.size16 HZs.out (ABl_one _);have n1_:=zm (ze (zJ yhb hb5) (.cells (ABl (comb_table.T 16)) 130));clear HB;have HB:=n1_;clear n1_;have hbn:=zm (blk_new w5 (.cells (ABl (comb_table.T 16)) 130));have hcl0:=comb_table.look hbn.out A6.out))
   go_ret2
   exact ⟨_,ye,yn,yhb⟩
  rw [if_neg c7] at H
  have aM:=yGl c7
  clear c7
  have H' := zm H
  clear H
  go_enter Try.func58,Try.ntmps58
  obtain ⟨Z,hz,HZs⟩:=comb_table.zsize
  obtain ⟨ia0,ib0,ic0,id0⟩:=comb_table.inn A6.out
  go_wp2_with (first|((with_reducible refine gate_callee (f:=88) rfl ?_);refine ygl 16 Try.func88 #[.int .i64 a0, .int .i64 a1] ?_;(with_reducible refine (comb_fair.calls a0 a1 true _ A4.out).mono ?_);rintro e w' ⟨rfl,⟨nd,rfl⟩⟩;refine ⟨_,rfl, ?_⟩)|((with_reducible refine gate_callee (f:=89) rfl ?_);refine goesL_ (some 18) rfl rfl Try.func89 (by kernel_rfl) rfl #[] rfl (by first|rfl|simp) ?_;(with_reducible refine (comb_table.made _).mono ?_);rintro e w5 ⟨rfl,hb5⟩;refine ⟨_,rfl, ?_⟩;have hst:=run_storeCells_new (P:=Try.prog) w5 130 Z (ABl (comb_table.T 16)) comb_table.size16 HZs.out (ABl_one _);have n1_:=zm (ze (zJ yhb hb5) (.cells (ABl (comb_table.T 16)) 130));clear HB;have HB:=n1_;clear n1_;have hbn:=zm (blk_new w5 (.cells (ABl (comb_table.T 16)) 130));have hcl0:=comb_table.look hbn.out A6.out))
  have hb0:=HB.out
  obtain ⟨W0,hW0⟩ : ∃ W0,W0=w5.alloc (.cells (ABl (comb_table.T 16)) 130):=⟨_,rfl⟩
  rw [← hW0] at hb0 hbn
  rw [← hW0]
  clear hW0 HB hst hz HZs hcl0
  generalize w5.heap.size=B at hbn ⊢
  have HB:=zm (Below.refl W0.heap.size W0)
  go_loopg [0,1,2,9] k (fun kq v0 v1 v2 v9 w' => ∃ (ac : Int) (af : Int) (ao : Int) (ae : List Int),v0=.int .i64 ac∧v1=.int .i64 af∧v2=.int .u64 ao∧Aside0 (comb_Vector.l0 kq ac af ao ae=some (r1,r2))∧Aside0 (kq≤k)∧Aside0 (Kd.R (Kd.int .i64) 3 w' W0.heap.size (fun _=>True) v9 ae)∧Aside0 (Below W0.heap.size W0 w'))
  case atStart=>exact ⟨(a0),(a1),(a2),(([] : List Int)),yq,yq,yq,H',⟨Nat.le_refl _⟩,⟨yn⟩,⟨yhb⟩⟩
  case round =>
   clear H'
   try clear aM
   obtain ⟨ac,af,ao,ae,rfl,rfl,rfl,HA,HK1,ag,HB⟩:=hrel
   obtain ⟨k1,rfl⟩:=ysu gk (fun h=>by subst h;exact absurd HA.out (by simp [comb_Vector.l0]))
   have H:=HA.out;clear HA
   simp only [comb_Vector.l0] at H
   by_cases c12 : ac > 0
   ·
    rw [if_pos c12] at H
    have ay:=yDs c12
    clear c12
    replace H:=ybi H;obtain ⟨aj,A13,H⟩:=H
    by_cases c14 : ao ≥ aj
    ·
     rw [if_pos c14] at H
     have az:=yDl c14
     clear c14
     replace H:=ybi H;obtain ⟨av,A15,H⟩:=H
     have H' := zm H
     clear H
     obtain ⟨ia0,ib0,ic0,id0⟩:=comb_table.inn A13.out
     have hcl0:=(HB.out.cell (zb W0 _ (comb_table.look hbn.out A13.out))).trans (comb_table.look hbn.out A13.out)
     obtain ⟨ia1,ib1,ic1,id1⟩:=comb_table.inn A15.out
     have hcl1:=(HB.out.cell (zb W0 _ (comb_table.look hbn.out A15.out))).trans (comb_table.look hbn.out A15.out)
     go_wp2
     go_loopg [2,10,12] k1 (fun kq v2 v10 v12 w' => ∃ (ah : Int) (aa : Int) (al : Int),v2=.int .u64 ah∧v10=.int .i64 aa∧v12=.int .u64 al∧Aside0 (comb_Vector.l1 kq ac af ah ae aa al=some (r1,r2))∧Aside0 (kq≤k1)∧Aside0 (Kd.R (Kd.int .i64) 3 w' W0.heap.size (fun _=>True) u9 ae)∧Aside0 (Below W0.heap.size W0 w'))
     case atStart=>exact ⟨(IntKind.u64.wrap (ao - aj)),(1),(av),yq,yq,yq,H',⟨Nat.le_refl _⟩,⟨yr ag⟩,⟨yhb⟩⟩
     case round =>
      clear H'
      try clear ay
      try clear az
      obtain ⟨ah,aa,al,rfl,rfl,rfl,HA,HK2,ag,HB⟩:=hrel
      obtain ⟨k2,rfl⟩:=ysu gk (fun h=>by subst h;exact absurd HA.out (by simp [comb_Vector.l1]))
      have H:=HA.out;clear HA
      simp only [comb_Vector.l1] at H
      by_cases c16 : ah ≥ (IntKind.u64.wrap (2 * al))
      ·
       rw [if_pos c16] at H
       have aN:=yDl c16
       clear c16
       replace H:=ybi H;obtain ⟨aw,A17,H⟩:=H
       have H' := zm H
       clear H
       obtain ⟨ia2,ib2,ic2,id2⟩:=comb_table.inn A17.out
       have hcl2:=(HB.out.cell (zb W0 _ (comb_table.look hbn.out A17.out))).trans (comb_table.look hbn.out A17.out)
       go_wp2
       go_roundg k2
       case measure=>exact yom2 HK1 HK2
       case rel=>exact ⟨(IntKind.u64.wrap (ah - (IntKind.u64.wrap (2 * al)))),(wrap64 (aa+1)),(aw),yq,yq,yq,H',⟨yom2 HK1 HK2⟩,⟨yr ag⟩,⟨yhb⟩⟩
      rw [if_neg c16] at H
      have aN:=yGl c16
      clear c16
      replace H:=ybi H;obtain ⟨ai,A18,H⟩:=H
      by_cases c19 : ah ≥ ai
      ·
       rw [if_pos c19] at H
       have aQ:=yDl c19
       clear c19
       replace H:=yif H;obtain ⟨c20,H⟩:=H
       have LMc20:=zm c20;clear c20
       obtain ⟨aA,ap⟩ : ∃ y_ : List Int,y_=(ae ++ [wrap64 (-aa)]):=⟨_,rfl⟩
       replace H : (comb_Vector.l0 k2 (wrap64 (ac - 1)) (wrap64 (af - aa)) (IntKind.u64.wrap (ah - ai)) aA)=some (r1,r2):=yrw ap H
       have aE:=zm ap;clear ap
       have H' := zm H
       clear H
       obtain ⟨ia3,ib3,ic3,id3⟩:=comb_table.inn A18.out
       have hcl3:=(HB.out.cell (zb W0 _ (comb_table.look hbn.out A18.out))).trans (comb_table.look hbn.out A18.out)
       go_wp2_with (first|((with_reducible refine gate_builtin (b:=.append) (xs := #[.tmp 85, .tmp 87]) rfl ?_);at_builtin;refine Kd.R_append (Kd.int .i64) (w0:=W0) W0.heap.size rfl (.tmp 85) (.tmp 87) 55 3 (.int .i64 0) 8 rfl Try.underlying55 info3 rfl (by decide) (by omega) u9 ae (wrap64 (-aa)) [.int .i64 (wrap64 (-aa))] (fun _=>True) (fun _=>False) rfl rfl ?aP (fun _ hk=>hk.elim) ?aF ?aO ?aB ?aS ?aL ?_;(case aP=>exact rfl);(case aB=>exact yhb);(case aF=>exact (fun _ _=>trivial));(case aO=>exact (yr ag));(case aS=>exact (zE yhb));(case aL=>have:=LMc20.out;omega);intro aV w21 ho hb hg hat;rw [← aE.out] at ho;replace HB:=zm (hb);have aG:=zm (ho);clear ag;clear ho hb hg hat))
       go_roundg k2
       case measure=>exact yom2 HK1 HK2
       case rel=>exact ⟨(wrap64 (ac - 1)),(wrap64 (af - aa)),(IntKind.u64.wrap (ah - ai)),(aA),yq,yq,yq,H',⟨yom2 HK1 HK2⟩,⟨yr aG⟩,⟨yhb⟩⟩
      rw [if_neg c19] at H
      have aQ:=yGl c19
      clear c19
      replace H:=yif H;obtain ⟨c22,H⟩:=H
      have LMc22:=zm c22;clear c22
      obtain ⟨aC,aq⟩ : ∃ y_ : List Int,y_=(ae ++ [aa]):=⟨_,rfl⟩
      replace H : (comb_Vector.l0 k2 (wrap64 (ac - 1)) (wrap64 (af - aa)) ah aC)=some (r1,r2):=yrw aq H
      have aH:=zm aq;clear aq
      have H' := zm H
      clear H
      obtain ⟨ia4,ib4,ic4,id4⟩:=comb_table.inn A18.out
      have hcl4:=(HB.out.cell (zb W0 _ (comb_table.look hbn.out A18.out))).trans (comb_table.look hbn.out A18.out)
      go_wp2_with (first|((with_reducible refine gate_builtin (b:=.append) (xs := #[.tmp 85, .tmp 87]) rfl ?_);at_builtin;refine Kd.R_append (Kd.int .i64) (w0:=W0) W0.heap.size rfl (.tmp 85) (.tmp 87) 55 3 (.int .i64 0) 8 rfl Try.underlying55 info3 rfl (by decide) (by omega) u9 ae aa [.int .i64 aa] (fun _=>True) (fun _=>False) rfl rfl ?aP (fun _ hk=>hk.elim) ?aF ?aO ?aB ?aS ?aL ?_;(case aP=>exact rfl);(case aB=>exact yhb);(case aF=>exact (fun _ _=>trivial));(case aO=>exact (yr ag));(case aS=>exact (zE yhb));(case aL=>have:=LMc22.out;omega);intro aW w23 ho hb hg hat;rw [← aH.out] at ho;replace HB:=zm (hb);have aI:=zm (ho);clear ag;clear ho hb hg hat))
      go_roundg k2
      case measure=>exact yom2 HK1 HK2
      case rel=>exact ⟨(wrap64 (ac - 1)),(wrap64 (af - aa)),(ah),(aC),yq,yq,yq,H',⟨yom2 HK1 HK2⟩,⟨yr aI⟩,⟨yhb⟩⟩
    rw [if_neg c14] at H
    have az:=yGl c14
    clear c14
    replace H:=yif H;obtain ⟨c24,H⟩:=H
    have LMc24:=zm c24;clear c24
    obtain ⟨aD,au⟩ : ∃ y_ : List Int,y_=(ae ++ [0]):=⟨_,rfl⟩
    replace H : (comb_Vector.l0 k1 (wrap64 (ac - 1)) af ao aD)=some (r1,r2):=yrw au H
    have aJ:=zm au;clear au
    have H' := zm H
    clear H
    obtain ⟨ia5,ib5,ic5,id5⟩:=comb_table.inn A13.out
    have hcl5:=(HB.out.cell (zb W0 _ (comb_table.look hbn.out A13.out))).trans (comb_table.look hbn.out A13.out)
    go_wp2_with (first|((with_reducible refine gate_builtin (b:=.append) (xs := #[.tmp 85, .tmp 87]) rfl ?_);at_builtin;refine Kd.R_append (Kd.int .i64) (w0:=W0) W0.heap.size rfl (.tmp 85) (.tmp 87) 55 3 (.int .i64 0) 8 rfl Try.underlying55 info3 rfl (by decide) (by omega) u9 ae 0 [.int .i64 0] (fun _=>True) (fun _=>False) rfl rfl ?aP (fun _ hk=>hk.elim) ?aF ?aO ?aB ?aS ?aL ?_;(case aP=>exact rfl);(case aB=>exact yhb);(case aF=>exact (fun _ _=>trivial));(case aO=>exact (yr ag));(case aS=>exact (zE yhb));(case aL=>have:=LMc24.out;omega);intro aX w25 ho hb hg hat;rw [← aJ.out] at ho;replace HB:=zm (hb);have aK:=zm (ho);clear ag;clear ho hb hg hat))
    go_roundg k1
    case measure=>exact yom1 HK1
    case rel=>exact ⟨(wrap64 (ac - 1)),(af),(ao),(aD),yq,yq,yq,H',⟨yom1 HK1⟩,⟨yr aK⟩,⟨yhb⟩⟩
   rw [if_neg c12] at H
   have ay:=yGs c12
   clear c12
   simp only [Option.some.injEq,Prod.mk.injEq] at H
   obtain ⟨rfl,rfl⟩:=H
   go_wp2
   go_ret2
   exact ⟨_,ye,Kd.R_lower (yr ag) (zE hb0),zJ hb0 yhb⟩
 replace c5:=Bool.eq_false_iff.mpr c5
 subst c5
 rw [ynf] at H
 simp only [Option.some.injEq,Prod.mk.injEq] at H
 obtain ⟨rfl,rfl⟩:=H
 go_enter Try.func58,Try.ntmps58
 go_wp2_with (first|((with_reducible refine gate_callee (f:=88) rfl ?_);refine ygl 16 Try.func88 #[.int .i64 a0, .int .i64 a1] ?_;(with_reducible refine (comb_fair.calls a0 a1 false _ A4.out).mono ?_);rintro e w' ⟨rfl,⟨nd,rfl⟩⟩;refine ⟨_,rfl, ?_⟩))
 go_ret2
 exact ⟨_,ye,yn,yhb⟩
def cpack_gains.l0 : Nat→Int→List (List Int)→List (List Int)→Int→Int→Option (Bool)
 | 0,_,_,_,_,_=>none
 | k+1,x0,x1,x7,x8,x9=>if x9 < x8 then (if 0≤x9 then (if x9 < (x7.length : Int) then ((gain_Right.f k (rd_L2 x7 x9)).bind fun ao=>(if ao=true then (cpack_gains.l0 k x0 x1 x7 x8 (wrap64 (x9+1))) else (some false))) else (none)) else (none)) else (some ((x1.length : Int) == x0))
def cpack_gains.f (k : Nat) (a0 : Int) (l1 : List (List Int)) : Option (Bool):=cpack_gains.l0 k a0 l1 l1 (l1.length : Int) 0
theorem cpack_gains.mono_l : ∀ k,(∀ y0 y1 y2 y3 y4,LeO (cpack_gains.l0 k y0 y1 y2 y3 y4) (cpack_gains.l0 (k+1) y0 y1 y2 y3 y4))
 | 0=>fun _ _ _ _ _ r h=>by simp [cpack_gains.l0] at h
 | k+1=>by
  have ih0:=cpack_gains.mono_l k
  ·
   intro y0 y1 y2 y3 y4
   unfold cpack_gains.l0
   repeat' with_reducible first|apply ih0|apply gain_Right.mono|apply yLr|apply yLn|apply yLi|apply yLb|intro _
theorem cpack_gains.mono : ∀ a0 a1 k,LeO (cpack_gains.f k a0 a1) (cpack_gains.f (k+1) a0 a1):=by
 intro a0 a1 k
 have ih0:=cpack_gains.mono_l k
 unfold cpack_gains.f
 repeat' with_reducible first|apply ih0|apply gain_Right.mono|apply yLr|apply yLn|apply yLi|apply yLb|intro _
set_option maxHeartbeats 8000000 in
set_option maxRecDepth 100000 in
theorem cpack_gains.calls (k : Nat) (a0 : Int) (A1 : Option Addr) (c1 : Nat) (l1 : List (List Int)) (r : Bool) (w : World) (hr1 : Kd.C (Kd.slice 3 (Kd.int .i64)) w A1 l1.length l1) (hc1 : l1.length≤c1) (h : cpack_gains.f k a0 l1=some r) :
  Calls Try.prog 42 #[.int .i64 a0, .slice A1 l1.length c1] w fun e w' => e=.returned (.bool r)∧Drawn0 w w' := by
 have HR1:=zm hr1;have HC1:=zm hc1;clear hr1 hc1;have H:=h
 unfold cpack_gains.f at H
 clear h
 have H' := zm H
 clear H
 go_enter Try.func42,Try.ntmps42
 go_wp2
 go_loopg [9] k (fun kq v9 w' => ∃ (aa : Int),v9=.int .i64 aa∧Aside0 (cpack_gains.l0 kq a0 l1 l1 (l1.length : Int) aa=some r)∧Aside0 (kq≤k)∧Drawn0 w w')
 case atStart=>exact ⟨(0),yq,H',⟨Nat.le_refl _⟩,yd⟩
 case round =>
  clear H'
  try clear c1
  obtain ⟨aa,rfl,HA,HK1,⟨m1,rfl⟩⟩:=hrel
  obtain ⟨k1,rfl⟩:=ysu gk (fun h=>by subst h;exact absurd HA.out (by simp [cpack_gains.l0]))
  have H:=HA.out;clear HA
  simp only [cpack_gains.l0] at H
  by_cases c3 : aa < (l1.length : Int)
  ·
   rw [if_pos c3] at H
   have au:=yD c3
   clear c3
   replace H:=yif H;obtain ⟨c4,H⟩:=H
   have av : decide (0≤aa)=true:=decide_eq_true c4
   clear c4
   replace H:=yif H;obtain ⟨c5,H⟩:=H
   have aw : decide (aa < (l1.length : Int))=true:=decide_eq_true c5
   clear c5
   replace H:=ybi H;obtain ⟨ao,A6,H⟩:=H
   by_cases c7 : ao=true
   ·
    subst c7
    rw [if_pos rfl] at H
    have H' := zm H
    clear H
    have ah : 0≤(aa : Int):=yt
    have ai : aa < (l1.length : Int):=yt
    obtain ⟨aq,aj,ak,ap,am,ac,ae⟩:=at_L2 HR1.out aa ah ai
    cases ap
    have af:=zm ae;have ag:=zm ac;clear ae ac
    replace ah:=eq_true ah
    replace ai:=eq_true ai
    go_wp2_with (first|((with_reducible refine gate_callee (f:=72) rfl ?_);refine ygl 14 Try.func72 #[.slice aj (rd_L2 l1 aa).length ak] ?_;(with_reducible refine (gain_Right.calls k1 _ _ (rd_L2 l1 aa) true _ ?al ag.out A6.out).mono ?_);(case al=>exact yce af.out);rintro e w' ⟨rfl,⟨nd,rfl⟩⟩;refine ⟨_,rfl, ?_⟩))
    go_roundg k1
    case measure=>exact yom1 HK1
    case rel=>exact ⟨(wrap64 (aa+1)),yq,H',⟨yom1 HK1⟩,yd⟩
   replace c7:=Bool.eq_false_iff.mpr c7
   subst c7
   rw [ynf] at H
   obtain rfl:=Option.some.inj H
   have ah : 0≤(aa : Int):=yt
   have ai : aa < (l1.length : Int):=yt
   obtain ⟨aq,aj,ak,ap,am,ac,ae⟩:=at_L2 HR1.out aa ah ai
   cases ap
   have af:=zm ae;have ag:=zm ac;clear ae ac
   replace ah:=eq_true ah
   replace ai:=eq_true ai
   go_wp2_with (first|((with_reducible refine gate_callee (f:=72) rfl ?_);refine ygl 14 Try.func72 #[.slice aj (rd_L2 l1 aa).length ak] ?_;(with_reducible refine (gain_Right.calls k1 _ _ (rd_L2 l1 aa) false _ ?al ag.out A6.out).mono ?_);(case al=>exact yce af.out);rintro e w' ⟨rfl,⟨nd,rfl⟩⟩;refine ⟨_,rfl, ?_⟩))
   go_ret
   exact ⟨yq,yd⟩
  rw [if_neg c3] at H
  have au:=yG c3
  clear c3
  obtain rfl:=Option.some.inj H
  go_wp2
  go_ret
  exact ⟨yq,yd⟩
def cpack_of.f (l0 : List (List Int)) (a1 : Int) : Option (List Int):=if a1 < (l0.length : Int) then (if 0≤a1 then (some (rd_L2 l0 a1)) else (none)) else (some ([] : List Int))
set_option maxHeartbeats 8000000 in
set_option maxRecDepth 100000 in
theorem cpack_of.calls (P0_ : Nat→Prop) (A0 : Option Addr) (c0 : Nat) (l0 : List (List Int)) (a1 : Int) (r : List Int) (w : World) (hs0 : Kd.V (Kd.slice 3 (Kd.int .i64)) 55 w w.heap.size (fun k_=>P0_ k_) (.slice A0 l0.length c0) l0) (h : cpack_of.f l0 a1=some r) :
  Calls Try.prog 46 #[.slice A0 l0.length c0, .int .i64 a1] w fun e w' => ∃ v0_ : Value,e=.returned (v0_)∧Kd.V (Kd.int .i64) 3 w' w.heap.size (fun k_=>(P0_ k_∨w.heap.size≤k_)) v0_ r∧Below w.heap.size w w' := by
 have HO0:=zm (show Kd.V (Kd.slice 3 (Kd.int .i64)) 55 w w.heap.size (fun k_=>(P0_ k_∨w.heap.size≤k_)) (.slice A0 l0.length c0) l0 from zy hs0 (fun k_ hk => .inl hk))
 have HB:=zm (Below.refl w.heap.size w);have H:=h
 unfold cpack_of.f at H
 clear h
 by_cases c3 : a1 < (l0.length : Int)
 ·
  rw [if_pos c3] at H
  have ak:=yD c3
  clear c3
  replace H:=yif H;obtain ⟨c4,H⟩:=H
  have aq : decide (0≤a1)=true:=decide_eq_true c4
  clear c4
  obtain rfl:=Option.some.inj H
  have ae : 0≤(a1 : Int):=yt
  have af : a1 < (l0.length : Int):=yt
  obtain ⟨ap,al,am,ao,ag,aa,ac⟩:=at_L2 (Kd.V_reads' HO0.out).2.2 a1 ae af
  cases ao
  obtain ⟨ce925,hce925,hMe925,hcc925⟩:=Kd.V_get HO0.out [] a1 ae (by first|exact af|exact yt|(have e_:=(Kd.V_reads' HO0.out).1;omega))
  obtain ⟨ua925_0,uc925_0,rfl,ul925_0,ge925_0⟩:=Kd.FK_slice_open hMe925
  have hv925_0:=hcc925 0 _ rfl
  rw [Nat.add_zero,show ((Kd.slice 3 (Kd.int .i64))).sz=1 from rfl,Nat.mul_one] at hv925_0
  replace hv925_0:=Option.some.inj (hv925_0.symm.trans ag)
  injection hv925_0 with hva_ hvn_ hvc_
  rw [hva_] at ge925_0
  rw [hvc_] at ul925_0
  have ah:=zm (show Kd.V (Kd.int .i64) 3 _ w.heap.size _ _ (rd_L2 l0 a1) from Kd.V_mk ul925_0 ge925_0)
  clear hva_ hvn_ hvc_ ge925_0 ul925_0 hcc925 hce925;have ai:=zm ac;have aj:=zm aa;clear ac aa
  replace ae:=eq_true ae
  replace af:=eq_true af
  go_enter Try.func46,Try.ntmps46
  go_wp2
  go_ret
  exact ⟨_,ye,yr ah,yhb⟩
 rw [if_neg c3] at H
 have ak:=yG c3
 clear c3
 obtain rfl:=Option.some.inj H
 go_enter Try.func46,Try.ntmps46
 go_wp2
 go_ret
 exact ⟨_,ye,(by first|exact Kd.V_nil _ _ _ _ _|exact zy (Kd.R_V (yn)) (fun k_ hk=>by first|exact ⟨(.inr (hk.1)),hk.2⟩|exact (.inr (hk)))),yhb⟩
def gain_take.f (k : Nat) (ao : Int) (ap : Int) (aj : List Int) (aq : Int) (a1 : Int) (a2 : Bool) : Option (Int × Int × List Int × Int × Int):=if a2=true then ((coder_TakeNum.f k ao ap aj aq 45).bind fun ay=>(some (ay.1,ay.2.1,ay.2.2.1,ay.2.2.2.1,wrap64 (ay.2.2.2.2.1)))) else ((coder_Get.f ao ap aj aq 8).bind fun aH=>((coder_Take.f k ao ap aj aq aH.1 (wrap64 (aH.1+1)) 8).bind fun au=>(if aH.1=7 then ((coder_TakeNum.f k au.1 au.2.1 au.2.2.1 au.2.2.2.1 45).bind fun az=>(some (az.1,az.2.1,az.2.2.1,az.2.2.2.1,wrap64 (az.2.2.2.2.1)))) else (some (au.1,au.2.1,au.2.2.1,au.2.2.2.1,mx 0 (mn (wrap64 ((wrap64 (a1+aH.1)) - 3)) 44))))))
theorem gain_take.mono : ∀ a0 a1 a2 a3 a4 a5 k,LeO (gain_take.f k a0 a1 a2 a3 a4 a5) (gain_take.f (k+1) a0 a1 a2 a3 a4 a5):=by
 intro a0 a1 a2 a3 a4 a5 k
 unfold gain_take.f
 repeat' with_reducible first|apply coder_Take.mono|apply coder_TakeNum.mono|apply yLr|apply yLn|apply yLi|apply yLb|intro _
set_option maxHeartbeats 8000000 in
set_option maxRecDepth 100000 in
theorem gain_take.calls (k : Nat) (ao : Int) (ap : Int) (am : Nat→Prop) (aw : Option Addr) (ax : Nat) (aj : List Int) (aq : Int) (a1 : Int) (a2 : Bool) (r1 : Int) (r2 : Int) (r3 : List Int) (r4 : Int) (r5 : Int) (w : World) (bq : Kd.V (Kd.int .u8) 5 w w.heap.size (fun k_=>am k_) (.slice aw aj.length ax) aj) (h : gain_take.f k ao ap aj aq a1 a2=some (r1,r2,r3,r4,r5)) :
  Calls Try.prog 96 #[.agg #[.int .u64 ao, .int .u32 ap, .slice aw aj.length ax, .int .i64 aq], .int .i64 a1, .bool a2] w fun e w' => ∃ v2_ : Value,e=.returned (.tuple #[.agg #[.int .u64 r1, .int .u32 r2,v2_, .int .i64 r4], .int .i64 r5])∧Kd.V (Kd.int .u8) 5 w' w.heap.size (fun k_=>(am k_∨w.heap.size≤k_)) v2_ r3∧Below w.heap.size w w' := by
 have hu88:=Try.underlying88
 have ae:=zm (show Kd.V (Kd.int .u8) 5 w w.heap.size (fun k_=>(am k_∨w.heap.size≤k_)) (.slice aw aj.length ax) aj from zy bq (fun k_ hk => .inl hk))
 have HB:=zm (Below.refl w.heap.size w);have H:=h
 unfold gain_take.f at H
 clear h
 by_cases c4 : a2=true
 ·
  subst c4
  rw [if_pos rfl] at H
  replace H:=ybi H;obtain ⟨⟨bd,bf,bg,bh,br,bs⟩,A5,H⟩:=H
  try dsimp only at H
  simp only [Option.some.injEq,Prod.mk.injEq] at H
  obtain ⟨rfl,rfl,rfl,rfl,rfl⟩:=H
  go_enter Try.func96,Try.ntmps96
  go_wp2_with (first|((with_reducible refine gate_dst (N:=3) rfl ?_);refine ybx 3 #[.int .u64 ao, .int .u32 ap, .slice aw aj.length ax, .int .i64 aq] 88 ?_;intro af hg w6 hbox hb;replace ae:=yVe ae hg hb;have aa:=zm (hbox);have aY:=ygw hg;have aZ:=ygw hg;replace HB:=ybs hb;clear hb hbox hg)|((with_reducible refine gate_dst (N:=6) rfl ?_);refine ybx 6 #[.int .u64 0, .int .u32 0, .slice none 0 0, .int .i64 0] 88 ?_;intro ag hg w7 hbox hb;replace ae:=yVe ae hg hb;have ac:=zm (hbox);have a7:=ygw hg;have a8:=ygw hg;replace HB:=ybs hb;have ah:=ynl aa hg;have ai:=yng aa hg;replace aa:=ybb aa hb;clear hb hbox hg;have:=ah.out;have:=ai.out;obtain ⟨_,_,_,_,_,_,_,_⟩:=yc4 aa)|((with_reducible refine gate_callee (f:=57) rfl ?_);refine ygl 39 Try.func57 #[.agg #[.int .u64 ao, .int .u32 ap, .slice aw aj.length ax, .int .i64 aq], .int .u64 45] ?_;(with_reducible refine (coder_TakeNum.calls k ao ap (fun k_=>(((am k_∨w.heap.size≤k_)∧k_≠af)∧k_≠ag)) _ _ aj aq 45 bd bf bg bh br bs _ ae.out A5.out).mono ?_);rintro e w10 ⟨bT,rfl,ho0,hb⟩;refine ⟨_,rfl, ?_⟩;replace ae:=yVb ae hb;have aI:=yho (fun k_=>(am k_∨w.heap.size≤k_)∧k_≠af∧k_≠ag) ho0 (fun k_ hk_=>⟨Or.elim hk_ (fun hs_=>hs_.1.1) (fun hn_=>(.inr (Nat.le_trans (zE yhb) hn_))),yoB aa hk_,yoB ac hk_⟩);replace aa:=ybb aa hb;replace ac:=ybb ac hb;replace HB:=ybs hb;(try clear hb);(try clear ho0))|((with_reducible refine gate_dst (N:=10) rfl ?_);refine ybx 10 #[.int .u64 0, .int .u32 0, .slice none 0 0, .int .i64 0] 88 ?_;intro bA hg w11 hbox hb;replace ae:=yVe ae hg hb;replace aI:=yVe aI hg hb;have bo:=zm (hbox);have bB:=ygw hg;have bC:=ygw hg;replace HB:=ybs hb;have aK:=ynl aa hg;have aM:=yng aa hg;replace aa:=ybb aa hb;have aN:=ynl ac hg;have aQ:=yng ac hg;replace ac:=ybb ac hb;clear hb hbox hg;have:=aM.out;have:=aK.out;have:=aQ.out;have:=aN.out;obtain ⟨_,_,_,_,_,_,_,_⟩:=yc4 bo;obtain ⟨bD,bE,bF⟩:=Kd.V_slice aI.out;subst bF;obtain ⟨_,_,_,_,_,_,_,_⟩:=yc4 ac))
  refine bodyPost_ret (results_ct rfl _ _ ag 88 #[.int .u64 bd, .int .u32 bf, .slice bD bg.length bE, .int .i64 bh] (0,0) _ rfl (ykp ac) Try.underlying88 rfl (by kernel_rfl)) rfl ?_
  exact ⟨_,ye,yV0 aI,yhb⟩
 replace c4:=Bool.eq_false_iff.mpr c4
 subst c4
 rw [ynf] at H
 replace H:=ybi H;obtain ⟨⟨al,bi⟩,A17,H⟩:=H
 try dsimp only at H
 replace H:=ybi H;obtain ⟨⟨aA,aC,av,aD,bj⟩,A18,H⟩:=H
 try dsimp only at H
 by_cases c19 : al=7
 ·
  rw [if_pos c19] at H
  obtain ⟨bu,bv⟩:=yE c19
  clear c19
  replace H:=ybi H;obtain ⟨⟨bk,bl,bm,bn,bw,bx⟩,A20,H⟩:=H
  try dsimp only at H
  simp only [Option.some.injEq,Prod.mk.injEq] at H
  obtain ⟨rfl,rfl,rfl,rfl,rfl⟩:=H
  go_enter Try.func96,Try.ntmps96
  go_wp2_with (first|((with_reducible refine gate_dst (N:=3) rfl ?_);refine ybx 3 #[.int .u64 ao, .int .u32 ap, .slice aw aj.length ax, .int .i64 aq] 88 ?_;intro af hg w21 hbox hb;replace ae:=yVe ae hg hb;have aa:=zm (hbox);have aY:=ygw hg;have aZ:=ygw hg;replace HB:=ybs hb;clear hb hbox hg)|((with_reducible refine gate_dst (N:=6) rfl ?_);refine ybx 6 #[.int .u64 0, .int .u32 0, .slice none 0 0, .int .i64 0] 88 ?_;intro ag hg w22 hbox hb;replace ae:=yVe ae hg hb;have ac:=zm (hbox);have a7:=ygw hg;have a8:=ygw hg;replace HB:=ybs hb;have ah:=ynl aa hg;have ai:=yng aa hg;replace aa:=ybb aa hb;clear hb hbox hg;have:=ah.out;have:=ai.out;obtain ⟨_,_,_,_,_,_,_,_⟩:=yc4 aa)|((with_reducible refine gate_callee (f:=54) rfl ?_);refine ygl 17 Try.func54 #[.agg #[.int .u64 ao, .int .u32 ap, .slice aw aj.length ax, .int .i64 aq], .int .i64 8] ?_;(with_reducible refine (coder_Get.calls ao ap _ _ aj aq 8 al bi _ ?a9 ?ba A17.out).mono ?_);(case a9=>exact yce (Kd.V_reads' ae.out).2.2);(case ba=>exact (Kd.V_reads' ae.out).2.1);rintro e w25 ⟨rfl,hb⟩;refine ⟨_,rfl, ?_⟩;replace ae:=yVb ae hb;replace aa:=ybb aa hb;replace ac:=ybb ac hb;replace HB:=ybs hb;(try clear hb);obtain ⟨_,_,_,_,_,_,_,_⟩:=yc4 aa)|((with_reducible refine gate_callee (f:=55) rfl ?_);refine ygl 25 Try.func55 #[.agg #[.int .u64 ao, .int .u32 ap, .slice aw aj.length ax, .int .i64 aq], .int .i64 al, .int .i64 (wrap64 (al+1)), .int .i64 8] ?_;(with_reducible refine (coder_Take.calls k ao ap (fun k_=>(((am k_∨w.heap.size≤k_)∧k_≠af)∧k_≠ag)) _ _ aj aq al (wrap64 (al+1)) 8 aA aC av aD bj _ ae.out A18.out).mono ?_);rintro e w27 ⟨bz,rfl,ho0,hb⟩;refine ⟨_,rfl, ?_⟩;replace ae:=yVb ae hb;have ak:=yho (fun k_=>(am k_∨w.heap.size≤k_)∧k_≠af∧k_≠ag) ho0 (fun k_ hk_=>⟨Or.elim hk_ (fun hs_=>hs_.1.1) (fun hn_=>(.inr (Nat.le_trans (zE yhb) hn_))),yoB aa hk_,yoB ac hk_⟩);replace aa:=ybb aa hb;replace ac:=ybb ac hb;replace HB:=ybs hb;(try clear hb);(try clear ho0);obtain ⟨_,_,_,_,_,_,_,_⟩:=yc4 aa;obtain ⟨bb,bc,bG⟩:=Kd.V_slice ak.out;subst bG)|((with_reducible refine gate_store (t:=88) (p:=3) rfl ?_);refine store_event (t:=88) (p:=3) (v := ?vo_w30) (w1:=((((w27.setCell ⟨af,0,none⟩ (.int .u64 aA)).setCell ⟨af,1,none⟩ (.int .u32 aC)).setCell ⟨af,2,none⟩ (.slice bb av.length bc)).setCell ⟨af,3,none⟩ (.int .i64 aD))) ?hg ?ho ?hn ?hr ?_;(case ho=>rfl);(case hg=>rfl);(case hn=>rfl);(case hr=>first|(go_simp;done)|(go_simp;rfl));intro w30 hw;replace ae : Aside0 (Kd.V (Kd.int .u8) 5 w30 w.heap.size (fun k_=>(am k_∨w.heap.size≤k_)∧k_≠af∧k_≠ag) (.slice aw aj.length ax) aj):=⟨(by rw [hw];exact (yV0 ae))⟩;replace ak : Aside0 (Kd.V (Kd.int .u8) 5 w30 w.heap.size (fun k_=>(am k_∨w.heap.size≤k_)∧k_≠af∧k_≠ag) (.slice bb av.length bc) av):=⟨(by rw [hw];exact (yV0 ak))⟩;replace aa : Aside0 (w30.heap[af]? = some (.cells #[.int .u64 aA, .int .u32 aC, .slice bb av.length bc, .int .i64 aD] 88 (0,0))):=⟨(by rw [hw];exact (ykp aa))⟩;replace ac : Aside0 (w30.heap[ag]? = some (.cells #[.int .u64 0, .int .u32 0, .slice none 0 0, .int .i64 0] 88 (0,0))):=⟨(by rw [hw];exact (yk ac))⟩;replace HB : Aside0 (Below w.heap.size w w30):=⟨(by rw [hw];exact yhb)⟩;clear hw;obtain ⟨_,_,_,_,_,_,_,_⟩:=yc4 aa)|((with_reducible refine gate_callee (f:=57) rfl ?_);refine ygl 39 Try.func57 #[.agg #[.int .u64 aA, .int .u32 aC, .slice bb av.length bc, .int .i64 aD], .int .u64 45] ?_;(with_reducible refine (coder_TakeNum.calls k aA aC (fun k_=>((am k_∨w.heap.size≤k_)∧(k_≠af∧k_≠ag))) _ _ av aD 45 bk bl bm bn bw bx _ ak.out A20.out).mono ?_);rintro e w32 ⟨bU,rfl,ho0,hb⟩;refine ⟨_,rfl, ?_⟩;replace ae:=yVb ae hb;replace ak:=yVb ak hb;have aJ:=yho (fun k_=>(am k_∨w.heap.size≤k_)∧k_≠af∧k_≠ag) ho0 (fun k_ hk_=>⟨Or.elim hk_ (fun hs_=>hs_.1) (fun hn_=>(.inr (Nat.le_trans (zE yhb) hn_))),yoB aa hk_,yoB ac hk_⟩);replace aa:=ybb aa hb;replace ac:=ybb ac hb;replace HB:=ybs hb;(try clear hb);(try clear ho0))|((with_reducible refine gate_dst (N:=10) rfl ?_);refine ybx 10 #[.int .u64 0, .int .u32 0, .slice none 0 0, .int .i64 0] 88 ?_;intro bH hg w33 hbox hb;replace ae:=yVe ae hg hb;replace ak:=yVe ak hg hb;replace aJ:=yVe aJ hg hb;have bp:=zm (hbox);have bI:=ygw hg;have bJ:=ygw hg;replace HB:=ybs hb;have aT:=ynl aa hg;have aU:=yng aa hg;replace aa:=ybb aa hb;have aV:=ynl ac hg;have aW:=yng ac hg;replace ac:=ybb ac hb;clear hb hbox hg;have:=aU.out;have:=aT.out;have:=aW.out;have:=aV.out;obtain ⟨_,_,_,_,_,_,_,_⟩:=yc4 bp;obtain ⟨bK,bL,bM⟩:=Kd.V_slice aJ.out;subst bM;obtain ⟨_,_,_,_,_,_,_,_⟩:=yc4 ac))
  refine bodyPost_ret (results_ct rfl _ _ ag 88 #[.int .u64 bk, .int .u32 bl, .slice bK bm.length bL, .int .i64 bn] (0,0) _ rfl (ykp ac) Try.underlying88 rfl (by kernel_rfl)) rfl ?_
  exact ⟨_,ye,yV0 aJ,yhb⟩
 rw [if_neg c19] at H
 obtain ⟨bu,bv⟩:=yF c19
 obtain ⟨aX,aE⟩ : ∃ j_ : Int,(mn (wrap64 ((wrap64 (a1+al)) - 3)) 44)=j_:=⟨_,rfl⟩
 (first|rw [aE] at H|simp only [aE] at H)
 (try rw [aE] at A17)
 (try rw [aE] at A18)
 (try (have hji39h : aX≤44:=by (rw [← aE];unfold mn;(repeat' split) <;> omega)))
 (try (have hji39g : aX≤64:=by omega))
 have bN : (if 44 < (wrap64 ((wrap64 (a1+al)) - 3)) then 44 else (wrap64 ((wrap64 (a1+al)) - 3)))=aX:=aE
 obtain ⟨bO,aG⟩ : ∃ j_ : Int,(mx 0 (aX))=j_:=⟨_,rfl⟩
 (first|rw [aG] at H|simp only [aG] at H)
 (try rw [aG] at A17)
 (try rw [aG] at A18)
 have bP : (if 0 < (aX) then (aX) else 0)=bO:=aG
 simp only [Option.some.injEq,Prod.mk.injEq] at H
 obtain ⟨rfl,rfl,rfl,rfl,rfl⟩:=H
 go_enter Try.func96,Try.ntmps96
 go_wp2_with (first|((with_reducible refine gate_dst (N:=3) rfl ?_);refine ybx 3 #[.int .u64 ao, .int .u32 ap, .slice aw aj.length ax, .int .i64 aq] 88 ?_;intro af hg w41 hbox hb;replace ae:=yVe ae hg hb;have aa:=zm (hbox);have aY:=ygw hg;have aZ:=ygw hg;replace HB:=ybs hb;clear hb hbox hg)|((with_reducible refine gate_dst (N:=6) rfl ?_);refine ybx 6 #[.int .u64 0, .int .u32 0, .slice none 0 0, .int .i64 0] 88 ?_;intro ag hg w42 hbox hb;replace ae:=yVe ae hg hb;have ac:=zm (hbox);have a7:=ygw hg;have a8:=ygw hg;replace HB:=ybs hb;have ah:=ynl aa hg;have ai:=yng aa hg;replace aa:=ybb aa hb;clear hb hbox hg;have:=ah.out;have:=ai.out;obtain ⟨_,_,_,_,_,_,_,_⟩:=yc4 aa)|((with_reducible refine gate_callee (f:=54) rfl ?_);refine ygl 17 Try.func54 #[.agg #[.int .u64 ao, .int .u32 ap, .slice aw aj.length ax, .int .i64 aq], .int .i64 8] ?_;(with_reducible refine (coder_Get.calls ao ap _ _ aj aq 8 al bi _ ?a9 ?ba A17.out).mono ?_);(case a9=>exact yce (Kd.V_reads' ae.out).2.2);(case ba=>exact (Kd.V_reads' ae.out).2.1);rintro e w45 ⟨rfl,hb⟩;refine ⟨_,rfl, ?_⟩;replace ae:=yVb ae hb;replace aa:=ybb aa hb;replace ac:=ybb ac hb;replace HB:=ybs hb;(try clear hb);obtain ⟨_,_,_,_,_,_,_,_⟩:=yc4 aa)|((with_reducible refine gate_callee (f:=55) rfl ?_);refine ygl 25 Try.func55 #[.agg #[.int .u64 ao, .int .u32 ap, .slice aw aj.length ax, .int .i64 aq], .int .i64 al, .int .i64 (wrap64 (al+1)), .int .i64 8] ?_;(with_reducible refine (coder_Take.calls k ao ap (fun k_=>(((am k_∨w.heap.size≤k_)∧k_≠af)∧k_≠ag)) _ _ aj aq al (wrap64 (al+1)) 8 aA aC av aD bj _ ae.out A18.out).mono ?_);rintro e w47 ⟨bz,rfl,ho0,hb⟩;refine ⟨_,rfl, ?_⟩;replace ae:=yVb ae hb;have ak:=yho (fun k_=>(am k_∨w.heap.size≤k_)∧k_≠af∧k_≠ag) ho0 (fun k_ hk_=>⟨Or.elim hk_ (fun hs_=>hs_.1.1) (fun hn_=>(.inr (Nat.le_trans (zE yhb) hn_))),yoB aa hk_,yoB ac hk_⟩);replace aa:=ybb aa hb;replace ac:=ybb ac hb;replace HB:=ybs hb;(try clear hb);(try clear ho0);obtain ⟨_,_,_,_,_,_,_,_⟩:=yc4 aa;obtain ⟨bQ,bR,bS⟩:=Kd.V_slice ak.out;subst bS;obtain ⟨_,_,_,_,_,_,_,_⟩:=yc4 ac))
 refine bodyPost_ret (results_ct rfl _ _ ag 88 #[.int .u64 aA, .int .u32 aC, .slice bQ av.length bR, .int .i64 aD] (0,0) _ rfl (ykp ac) Try.underlying88 rfl (by kernel_rfl)) rfl ?_
 exact ⟨_,by first|rfl|(simp [errW_none,errW_some] <;> rfl)|(simp only [← aE, ← aG];first|rfl|(simp [errW_none,errW_some] <;> rfl))|(simp [*,errW_none,errW_some] <;> rfl),yV0 ak,yhb⟩
mutual
def gain_Take.j0 : Nat→List Int→Bool→Bool→Int→Int→List Int→Int→Option (Int × Int × List Int × Int × List Int × Int)
 | 0,_,_,_,_,_,_,_=>none
 | k+1,x1,x2,x20,aG,aH,aI,aJ=>if x20=true then ((coder_Take.f k aG aH aI aJ 0 1 1).bind fun bc=>(some (bc.1,bc.2.1,bc.2.2.1,bc.2.2.2.1,([] : List Int),1))) else (gain_Take.l0 k x1 x2 ([] : List Int) 0 aG aH aI aJ)
def gain_Take.l0 : Nat→List Int→Bool→List Int→Int→Int→Int→List Int→Int→Option (Int × Int × List Int × Int × List Int × Int)
 | 0,_,_,_,_,_,_,_,_=>none
 | k+1,x1,x2,x9,x27,aG,aH,aI,aJ=>if x27 < 5 then (if x2=true then ((gain_take.f k aG aH aI aJ 0 x2).bind fun aQ=>(if x9.length < 17592186044416 then (gain_Take.l0 k x1 x2 (x9 ++ [aQ.2.2.2.2]) (wrap64 (x27+1)) aQ.1 aQ.2.1 aQ.2.2.1 aQ.2.2.2.1) else (none))) else (if 0≤x27 then (if x27 < (x1.length : Int) then ((gain_take.f k aG aH aI aJ (rd x1 x27) x2).bind fun aT=>(if x9.length < 17592186044416 then (gain_Take.l0 k x1 x2 (x9 ++ [aT.2.2.2.2]) (wrap64 (x27+1)) aT.1 aT.2.1 aT.2.2.1 aT.2.2.2.1) else (none))) else (none)) else (none))) else (some (aG,aH,aI,aJ,x9,0))
end
def gain_Take.f (k : Nat) (aU : Int) (aV : Int) (aK : List Int) (aW : Int) (l1 : List Int) (a2 : Bool) : Option (Int × Int × List Int × Int × List Int × Int):=if a2=true then (gain_Take.j0 k l1 a2 false aU aV aK aW) else ((gain_Right.f k l1).bind fun bo=>(gain_Take.j0 k l1 a2 (!bo) aU aV aK aW))
theorem gain_Take.mono_l : ∀ k,(∀ y0 y1 y2 y3 y4 y5 y6,LeO (gain_Take.j0 k y0 y1 y2 y3 y4 y5 y6) (gain_Take.j0 (k+1) y0 y1 y2 y3 y4 y5 y6))∧(∀ y0 y1 y2 y3 y4 y5 y6 y7,LeO (gain_Take.l0 k y0 y1 y2 y3 y4 y5 y6 y7) (gain_Take.l0 (k+1) y0 y1 y2 y3 y4 y5 y6 y7))
 | 0=>⟨fun _ _ _ _ _ _ _ r h=>by simp [gain_Take.j0] at h,fun _ _ _ _ _ _ _ _ r h=>by simp [gain_Take.l0] at h⟩
 | k+1=>by
  obtain ⟨ih0,ih1⟩:=gain_Take.mono_l k
  refine ⟨?_, ?_⟩
  ·
   intro y0 y1 y2 y3 y4 y5 y6
   unfold gain_Take.j0
   repeat' with_reducible first|apply ih0|apply ih1|apply coder_Take.mono|apply gain_Right.mono|apply gain_take.mono|apply yLr|apply yLn|apply yLi|apply yLb|intro _
  intro y0 y1 y2 y3 y4 y5 y6 y7
  unfold gain_Take.l0
  repeat' with_reducible first|apply ih0|apply ih1|apply coder_Take.mono|apply gain_Right.mono|apply gain_take.mono|apply yLr|apply yLn|apply yLi|apply yLb|intro _
theorem gain_Take.mono : ∀ a0 a1 a2 a3 a4 a5 k,LeO (gain_Take.f k a0 a1 a2 a3 a4 a5) (gain_Take.f (k+1) a0 a1 a2 a3 a4 a5):=by
 intro a0 a1 a2 a3 a4 a5 k
 obtain ⟨ih0,ih1⟩:=gain_Take.mono_l k
 unfold gain_Take.f
 repeat' with_reducible first|apply ih0|apply ih1|apply coder_Take.mono|apply gain_Right.mono|apply gain_take.mono|apply yLr|apply yLn|apply yLi|apply yLb|intro _
set_option maxHeartbeats 8000000 in
set_option maxRecDepth 100000 in
theorem gain_Take.calls (k : Nat) (aU : Int) (aV : Int) (au : Nat→Prop) (bf : Option Addr) (bg : Nat) (aK : List Int) (aW : Int) (A1 : Option Addr) (c1 : Nat) (l1 : List Int) (a2 : Bool) (r1 : Int) (r2 : Int) (r3 : List Int) (r4 : Int) (r5 : List Int) (r6 : Int) (w : World) (cj : Kd.V (Kd.int .u8) 5 w w.heap.size (fun k_=>au k_) (.slice bf aK.length bg) aK) (hr1 : Kd.C (Kd.int .i64) w A1 l1.length l1) (hc1 : l1.length≤c1) (h : gain_Take.f k aU aV aK aW l1 a2=some (r1,r2,r3,r4,r5,r6)) :
  Calls Try.prog 56 #[.agg #[.int .u64 aU, .int .u32 aV, .slice bf aK.length bg, .int .i64 aW], .slice A1 l1.length c1, .bool a2] w fun e w' => ∃ v2_ v4_ : Value,e=.returned (.tuple #[.agg #[.int .u64 r1, .int .u32 r2,v2_, .int .i64 r4],v4_, .int .i64 r6])∧Kd.V (Kd.int .u8) 5 w' w.heap.size (fun k_=>(au k_∨w.heap.size≤k_)∧some k_≠(v4_ : Value).ownBlock) v2_ r3∧Kd.R (Kd.int .i64) 3 w' w.heap.size (fun k_=>(w.heap.size≤k_)) v4_ r5∧Below w.heap.size w w' := by
 have hu88:=Try.underlying88
 have aY:=zm (show Kd.V (Kd.int .u8) 5 w w.heap.size (fun k_=>(au k_∨w.heap.size≤k_)) (.slice bf aK.length bg) aK from zy cj (fun k_ hk => .inl hk))
 have HR1:=zm hr1;have HC1:=zm hc1;clear hr1 hc1;have HB:=zm (Below.refl w.heap.size w);have H:=h
 unfold gain_Take.f at H
 clear h;have HC4:=zm H;clear H
 go_enter Try.func56,Try.ntmps56
 go_upto_region 1 with (first|((with_reducible refine gate_dst (N:=3) rfl ?_);refine ybx 3 #[.int .u64 aU, .int .u32 aV, .slice bf aK.length bg, .int .i64 aW] 88 ?_;intro ai hg w5 hbox hb;replace aY:=yVe aY hg hb;have aa:=zm (hbox);have co:=ygw hg;have cp:=ygw hg;replace HB:=ybs hb;clear hb hbox hg)|((with_reducible refine gate_dst (N:=6) rfl ?_);refine ybx 6 #[.int .u64 0, .int .u32 0, .slice none 0 0, .int .i64 0] 88 ?_;intro am hg w6 hbox hb;replace aY:=yVe aY hg hb;have ae:=zm (hbox);have cq:=ygw hg;have cr:=ygw hg;replace HB:=ybs hb;have ag:=ynl aa hg;have ah:=yng aa hg;replace aa:=ybb aa hb;clear hb hbox hg))
 (try simp only [Act.put,List.setIfInBounds_toArray,List.set_cons_zero,List.set_cons_succ])
 go_cut [20] (fun v20 wc => ∃ (kq : Nat) (bp : Bool),v20=.bool bp∧Aside0 (gain_Take.j0 kq l1 a2 bp aU aV aK aW=some (r1,r2,r3,r4,r5,r6))∧Aside0 (kq≤k)∧Aside0 (Kd.V (Kd.int .u8) 5 wc w.heap.size (fun k_=>(au k_∨w.heap.size≤k_)∧k_≠ai∧k_≠am) (.slice bf aK.length bg) aK)∧Aside0 (wc.heap[ai]? = some (.cells #[.int .u64 aU, .int .u32 aV,(.slice bf aK.length bg), .int .i64 aW] 88 (0,0)))∧Aside0 (wc.heap[am]? = some (.cells #[.int .u64 0, .int .u32 0,(.slice none 0 0), .int .i64 0] 88 (0,0)))∧Aside0 (Below w.heap.size w wc))
 case first =>
  have H:=HC4.out;clear HC4
  by_cases c7 : a2=true
  ·
   subst c7
   rw [if_pos rfl] at H
   have H' := zm H
   clear H
   go_wp2
   go_meet
   case rel=>exact ⟨_,(false),yq,H',⟨yo⟩,⟨yV0 aY⟩,⟨yk aa⟩,⟨yk ae⟩,⟨yhb⟩⟩
  replace c7:=Bool.eq_false_iff.mpr c7
  subst c7
  rw [ynf] at H
  replace H:=ybi H;obtain ⟨bo,A8,H⟩:=H
  have H' := zm H
  clear H
  go_wp2_with (first|(go_at_call 72;(with_reducible refine (gain_Right.calls k _ _ l1 bo _ ?ck HC1.out A8.out).mono ?_);(case ck=>exact ycb HR1);rintro e w' ⟨rfl,⟨nd,rfl⟩⟩))
  go_meet
  case rel=>exact ⟨_,(!bo),yq,H',⟨yo⟩,⟨yV0 aY⟩,⟨yk aa⟩,⟨yk ae⟩,⟨yhb⟩⟩
 case rest =>
  clear HC4
  try clear c1
  obtain ⟨kq,bp,rfl,HA,HJ3,ac,aa,ae,HB⟩:=hcut
  obtain ⟨kj3,rfl⟩:=ysu kq (fun h=>by subst h;exact absurd HA.out (by simp [gain_Take.j0]))
  have H:=HA.out;clear HA
  simp only [gain_Take.j0] at H
  by_cases c9 : bp=true
  ·
   subst c9
   rw [if_pos rfl] at H
   replace H:=ybi H;obtain ⟨⟨b7,b8,b9,ca,cl⟩,A10,H⟩:=H
   try dsimp only at H
   simp only [Option.some.injEq,Prod.mk.injEq] at H
   obtain ⟨rfl,rfl,rfl,rfl,rfl,rfl⟩:=H
   have:=ag.out
   have:=ah.out
   obtain ⟨bB,bC,bD,bE,bF,bG,bH,bI⟩:=yc4 aa
   go_wp2_with (first|((with_reducible refine gate_callee (f:=55) rfl ?_);refine ygl 23 Try.func55 #[.agg #[.int .u64 aU, .int .u32 aV, .slice bf aK.length bg, .int .i64 aW], .int .i64 0, .int .i64 1, .int .i64 1] ?_;(with_reducible refine (coder_Take.calls kj3 aU aV (fun k_=>((au k_∨w.heap.size≤k_)∧(k_≠ai∧k_≠am))) _ _ aK aW 0 1 1 b7 b8 b9 ca cl _ ac.out A10.out).mono ?_);rintro e w13 ⟨cI,rfl,ho0,hb⟩;refine ⟨_,rfl, ?_⟩;replace ac:=yVb ac hb;have bs:=yho (fun k_=>(au k_∨w.heap.size≤k_)∧k_≠ai∧k_≠am) ho0 (fun k_ hk_=>⟨Or.elim hk_ (fun hs_=>hs_.1) (fun hn_=>(.inr (Nat.le_trans (zE yhb) hn_))),yoB aa hk_,yoB ae hk_⟩);replace aa:=ybb aa hb;replace ae:=ybb ae hb;replace HB:=ybs hb;(try clear hb);(try clear ho0);obtain ⟨bJ,bK,bL,bM,bN,bO,bP,bQ⟩:=yc4 aa;obtain ⟨ct,cu,cv⟩:=Kd.V_slice bs.out;subst cv;obtain ⟨bR,bS,bT,bU,bV,bW,bX,bY⟩:=yc4 ae))
   refine bodyPost_ret (results_ctt rfl _ _ am 88 #[.int .u64 b7, .int .u32 b8, .slice ct b9.length cu, .int .i64 ca] (0,0) _ rfl (ykp ae) Try.underlying88 rfl (by kernel_rfl)) rfl ?_
   exact ⟨_,_,ye,yV0 bs,yn,yhb⟩
  replace c9:=Bool.eq_false_iff.mpr c9
  subst c9
  rw [ynf] at H
  have H' := zm H
  clear H
  go_wp2
  go_loopg [9,27] kj3 (fun kq v9 v27 w' => ∃ (bd : List Int) (aC : Int) (aj : Int) (ak : Int) (af : List Int) (al : Int) (aX : Value),v27=.int .i64 aC∧Aside0 (gain_Take.l0 kq l1 a2 bd aC aj ak af al=some (r1,r2,r3,r4,r5,r6))∧Aside0 (kq≤kj3)∧Aside0 (Kd.R (Kd.int .i64) 3 w' w.heap.size (fun k_=>(w.heap.size≤k_)) v9 bd)∧Aside0 (Kd.V (Kd.int .u8) 5 w' w.heap.size (fun k_=>(au k_∨w.heap.size≤k_)∧some k_≠(v9 : Value).ownBlock∧k_≠ai∧k_≠am) aX af)∧Aside0 (w'.heap[ai]? = some (.cells #[.int .u64 aj, .int .u32 ak,aX, .int .i64 al] 88 (0,0)))∧Aside0 (w'.heap[am]? = some (.cells #[.int .u64 0, .int .u32 0,(.slice none 0 0), .int .i64 0] 88 (0,0)))∧Aside0 (Below w.heap.size w w'))
  case atStart=>exact ⟨(([] : List Int)),(0),(aU),(aV),(aK),(aW),(.slice bf aK.length bg),yq,H',⟨Nat.le_refl _⟩,⟨yn⟩,⟨yV0 ac⟩,⟨yk aa⟩,⟨yk ae⟩,⟨yhb⟩⟩
  case round =>
   clear H'
   try clear bB
   try clear bC
   try clear bD
   try clear bE
   try clear bJ
   try clear bK
   try clear bL
   try clear bM
   try clear bR
   try clear bS
   try clear bT
   try clear bU
   try clear bF
   try clear bG
   try clear bH
   try clear bI
   try clear bN
   try clear bO
   try clear bP
   try clear bQ
   try clear bV
   try clear bW
   try clear bX
   try clear bY
   obtain ⟨bd,aC,aj,ak,af,al,aX,rfl,HA,HK2,aq,ac,aa,ae,HB⟩:=hrel
   obtain ⟨k2,rfl⟩:=ysu gk (fun h=>by subst h;exact absurd HA.out (by simp [gain_Take.l0]))
   have H:=HA.out;clear HA
   simp only [gain_Take.l0] at H
   by_cases c17 : aC < 5
   ·
    rw [if_pos c17] at H
    have cm:=yD c17
    clear c17
    by_cases c18 : a2=true
    ·
     subst c18
     rw [if_pos rfl] at H
     replace H:=ybi H;obtain ⟨⟨aZ,a7,aM,a8,bq⟩,A19,H⟩:=H
     try dsimp only at H
     replace H:=yif H;obtain ⟨c20,H⟩:=H
     have LMc20:=zm c20;clear c20
     obtain ⟨cb,bm⟩ : ∃ y_ : List Int,y_=(bd ++ [bq]):=⟨_,rfl⟩
     replace H : (gain_Take.l0 k2 l1 true cb (wrap64 (aC+1)) aZ a7 aM a8)=some (r1,r2,r3,r4,r5,r6):=yrw bm H
     have cf:=zm bm;clear bm
     have H' := zm H
     clear H
     have:=ag.out
     have:=ah.out
     obtain ⟨_,_,_,_,_,_,_,_⟩:=yc4 aa
     obtain ⟨bZ,b4,cw⟩:=Kd.V_slice ac.out
     subst cw
     try go_wp2_with (first|((with_reducible refine gate_callee (f:=96) rfl ?_);refine ygl 40 Try.func96 #[.agg #[.int .u64 aj, .int .u32 ak, .slice bZ af.length b4, .int .i64 al], .int .i64 0, .bool true] ?_;(with_reducible refine (gain_take.calls k2 aj ak (fun k_=>((au k_∨w.heap.size≤k_)∧(some k_≠(u9 : Value).ownBlock∧(k_≠ai∧k_≠am)))) _ _ af al 0 true aZ a7 aM a8 bq _ ac.out A19.out).mono ?_);rintro e w24 ⟨cJ,rfl,ho0,hb⟩;refine ⟨_,rfl, ?_⟩;replace ac:=yVb ac hb;have aD:=yho (fun k_=>(au k_∨w.heap.size≤k_)∧some k_≠(u9 : Value).ownBlock∧k_≠ai∧k_≠am) ho0 (fun k_ hk_=>⟨Or.elim hk_ (fun hs_=>hs_.1) (fun hn_=>(.inr (Nat.le_trans (zE yhb) hn_))),yoR aq hk_,yoB aa hk_,yoB ae hk_⟩);replace aq:=yRb aq hb;replace aa:=ybb aa hb;replace ae:=ybb ae hb;replace HB:=ybs hb;(try clear hb);(try clear ho0))|((with_reducible refine gate_dst (N:=12) rfl ?_);refine ybx 12 #[.int .u64 0, .int .u32 0, .slice none 0 0, .int .i64 0] 88 ?_;intro av hg w25 hbox hb;replace aq:=yRb aq hb;replace ac:=yVe ac hg hb;replace aD:=yVe aD hg hb;have ao:=zm (hbox);have cx:=ygw hg;have cy:=ygw hg;replace HB:=ybs hb;have ax:=ynl aa hg;have ay:=yng aa hg;replace aa:=ybb aa hb;have bh:=ynl ae hg;have bi:=yng ae hg;replace ae:=ybb ae hb;clear hb hbox hg;have:=ay.out;have:=ax.out;have:=bi.out;have:=bh.out;obtain ⟨_,_,_,_,_,_,_,_⟩:=yc4 ao;obtain ⟨bu,bv,cz⟩:=Kd.V_slice aD.out;subst cz))
     obtain ⟨w30,hw_⟩ : ∃ x,x=((((w25.setCell ⟨av,0,none⟩ (.int .u64 aZ)).setCell ⟨av,1,none⟩ (.int .u32 a7)).setCell ⟨av,2,none⟩ (.slice bu aM.length bv)).setCell ⟨av,3,none⟩ (.int .i64 a8)):=⟨_,rfl⟩
     rw [← hw_]
     replace aq : Aside0 (Kd.R (Kd.int .i64) 3 w30 w.heap.size (fun k_=>(w.heap.size≤k_)) u9 bd):=⟨by rw [hw_];exact (yR1 aq ao)⟩
     replace ac : Aside0 (Kd.V (Kd.int .u8) 5 w30 w.heap.size (fun k_=>(au k_∨w.heap.size≤k_)∧some k_≠(u9 : Value).ownBlock∧k_≠ai∧k_≠am∧k_≠av) (.slice bZ af.length b4) af):=⟨by rw [hw_];exact (yV0 ac)⟩
     replace aD : Aside0 (Kd.V (Kd.int .u8) 5 w30 w.heap.size (fun k_=>(au k_∨w.heap.size≤k_)∧some k_≠(u9 : Value).ownBlock∧k_≠ai∧k_≠am∧k_≠av) (.slice bu aM.length bv) aM):=⟨by rw [hw_];exact (yV0 aD)⟩
     replace aa : Aside0 (w30.heap[ai]? = some (.cells #[.int .u64 aj, .int .u32 ak, .slice bZ af.length b4, .int .i64 al] 88 (0,0))):=⟨by rw [hw_];exact (yk aa)⟩
     replace ae : Aside0 (w30.heap[am]? = some (.cells #[.int .u64 0, .int .u32 0, .slice none 0 0, .int .i64 0] 88 (0,0))):=⟨by rw [hw_];exact (yk ae)⟩
     replace ao : Aside0 (w30.heap[av]? = some (.cells #[.int .u64 aZ, .int .u32 a7, .slice bu aM.length bv, .int .i64 a8] 88 (0,0))):=⟨by rw [hw_];exact (ykp ao)⟩
     replace HB : Aside0 (Below w.heap.size w w30):=⟨by rw [hw_];exact (yhb)⟩
     clear hw_
     replace aq:=zm (zq aq.out)
     replace ac:=zm (zC ac.out)
     replace aD:=zm (zC aD.out)
     replace aa:=zm (zj aa.out)
     replace ae:=zm (zj ae.out)
     replace ao:=zm (zj ao.out)
     replace HB:=zm (zf HB.out)
     refine start_ (n:=7) (S:=fun w' => w'.cell? ⟨av,0,none⟩=some (.int .u64 aZ)∧w'.cell? ⟨av,1,none⟩=some (.int .u32 a7)∧w'.cell? ⟨av,2,none⟩=some (.slice bu aM.length bv)∧w'.cell? ⟨av,3,none⟩=some (.int .i64 a8)) (ds := []) #[false,false,false,false,false,false,false] (by kernel_rfl) rfl rfl ⟨(zs ao.out 0).trans rfl,(zs ao.out 1).trans rfl,(zs ao.out 2).trans rfl,(zs ao.out 3).trans rfl⟩ (fun hHeld => ?_)
     generalize w30.drew=w31 at aq ac aD aa ae ao HB hHeld ⊢
     refine pure_ (i:=1) (N:=some 44) (v := ?_) (a' := ?_) #[false,true,false,false,false,false,false] rfl rfl (by kernel_rfl) (fun _ _ _ h=>h) (Or.inl ⟨by rfl, ?_⟩) ?_ ?_
     rotate_left
     ·
      intro w'
      go_simp
      with_reducible rfl
     rotate_left
     ·
      simp only [Act.put,List.setIfInBounds_toArray,List.set_cons_zero,List.set_cons_succ,i64_w,i32_w]
      rfl
     refine pure_ (i:=2) (N:=some 45) (v := ?_) (a' := ?_) #[false,true,true,false,false,false,false] rfl rfl (by kernel_rfl) (fun _ _ _ h=>h) (Or.inl ⟨by rfl, ?_⟩) ?_ ?_
     rotate_left
     ·
      intro w'
      go_simp
      with_reducible rfl
     rotate_left
     ·
      simp only [Act.put,List.setIfInBounds_toArray,List.set_cons_zero,List.set_cons_succ,i64_w,i32_w]
      rfl
     refine take_ (i:=0) (N:=some 43) (v := ?_) (a' := ?_) #[true,true,true,false,false,false,false] rfl rfl (by kernel_rfl) (fun _ _ _ h=>h) (Or.inl ⟨by rfl, ?_⟩) hHeld ?_ ?_
     rotate_left
     ·
      rintro w' ⟨s0,s1,s2,s3⟩
      go_simp
      with_reducible rfl
     rotate_left
     ·
      simp only [Act.put,List.setIfInBounds_toArray,List.set_cons_zero,List.set_cons_succ,i64_w,i32_w]
      rfl
     refine one_ (i:=3) (N:=some 46) #[true,true,true,true,false,false,false] rfl rfl (by kernel_rfl) (by decide) (fun K hK => ?_)
     refine value_ (w1 := ?_) (v := ?_) (by rfl) rfl ?_ ?_
     rotate_left 2
     ·
      go_simp
      constructor
      ·
       rfl
      rfl
     refine hK.out _ _ ⟨(zs (zi ao.out _) 0).trans rfl,(zs (zi ao.out _) 1).trans rfl,(zs (zi ao.out _) 2).trans rfl,(zs (zi ao.out _) 3).trans rfl⟩ (fun hHeld => ?_)
     clear hK K
     refine ym (some 46) ?_
     refine one_ (i:=4) (N:=some 47) #[true,true,true,true,true,false,false] rfl rfl (by kernel_rfl) (by decide) (fun K hK => ?_)
     refine Kd.R_append_step (Kd.int .i64) (w0:=w) w.heap.size (by rfl) (.tmp 44) (.tmp 46) 55 3 (.int .i64 0) 8 rfl Try.underlying55 info3 rfl (by decide) (by omega) u9 bd bq [.int .i64 bq] (fun k_=>(w.heap.size≤k_)) (fun _=>False) rfl rfl ?aP (fun _ hk=>hk.elim) ?aF ?aO ?aB ?aS ?aL ?_
     (case aP=>exact rfl)
     (case aB=>exact yhb)
     (case aF=>exact (fun k_ hk=>(Nat.le_trans (zE yhb) hk)))
     (case aO=>exact (yr aq))
     (case aS=>exact (zE yhb))
     (case aL=>have:=LMc20.out;omega)
     intro cK w32 ho hb hg hat
     rw [← cf.out] at ho
     replace ac:=zm (Kd.V_afterv (ok:=(fun k_=>(au k_∨w.heap.size≤k_)∧k_≠ai∧k_≠am∧k_≠av)) (yV0 ac) hg hat)
     replace aa:=zm (blk_grown (yk aa) hg (zu aq.out aa.out (by decide)))
     replace ae:=zm (blk_grown (yk ae) hg (zu aq.out ae.out (by decide)))
     replace aD:=zm (Kd.V_afterv (ok:=(fun k_=>(au k_∨w.heap.size≤k_)∧k_≠ai∧k_≠am∧k_≠av)) (yV0 aD) hg hat)
     replace ao:=zm (blk_grown (yk ao) hg (zu aq.out ao.out (by decide)))
     replace HB:=zm (hb)
     have cg:=zm (ho);clear aq ho hb hg hat
     refine hK.out _ _ yH (fun hHeld => ?_)
     clear hK K
     refine ym (some 47) ?_
     refine one_ (i:=5) (N:=none) #[true,true,true,true,true,true,false] rfl rfl (by kernel_rfl) (by decide) (fun K hK => ?_)
     have cP : w32.cell? ⟨ai,0,none⟩=some (.int .u64 aj):=(zs aa.out 0).trans rfl
     have hfs33:=zx aa.out 0
     have:=ah.out
     have:=ay.out
     have:=ag.out
     have:=ax.out
     have cQ : w32.cell? ⟨ai,1,none⟩=some (.int .u32 ak):=(zs aa.out 1).trans rfl
     have hfs34:=zx aa.out 1
     have:=ah.out
     have:=ay.out
     have:=ag.out
     have:=ax.out
     have cR : w32.cell? ⟨ai,2,none⟩=some (.slice bZ af.length b4):=(zs aa.out 2).trans rfl
     have hfs35:=zx aa.out 2
     have:=ah.out
     have:=ay.out
     have:=ag.out
     have:=ax.out
     have cS : w32.cell? ⟨ai,3,none⟩=some (.int .i64 al):=(zs aa.out 3).trans rfl
     have hfs36:=zx aa.out 3
     have:=ah.out
     have:=ay.out
     have:=ag.out
     have:=ax.out
     refine skip_ (w1 := ?_) (by rfl) rfl ?_ ?_
     rotate_left
     ·
      go_simp
      rfl
     refine hK.out _ _ yH (fun hHeld => ?_)
     clear hK K
     refine pure_ (i:=6) (N:=some 9) (v := ?_) (a' := ?_) #[true,true,true,true,true,true,true] rfl rfl (by kernel_rfl) (fun _ _ _ h=>h) (Or.inl ⟨by rfl, ?_⟩) ?_ ?_
     rotate_left
     ·
      intro w'
      go_simp
      with_reducible rfl
     rotate_left
     ·
      simp only [Act.put,List.setIfInBounds_toArray,List.set_cons_zero,List.set_cons_succ,i64_w,i32_w]
      rfl
     refine done_ (by kernel_rfl) ?_
     try go_wp2
     go_roundg k2
     case measure=>exact yom2 HJ3 HK2
     case rel=>exact ⟨(cb),(wrap64 (aC+1)),(aZ),(a7),(aM),(a8),(.slice bu aM.length bv),yq,H',⟨yom2 HJ3 HK2⟩,⟨yR1 cg aa⟩,⟨yV0 aD⟩,⟨ykp aa⟩,⟨yk ae⟩,⟨yhb⟩⟩
    replace c18:=Bool.eq_false_iff.mpr c18
    subst c18
    rw [ynf] at H
    replace H:=yif H;obtain ⟨c37,H⟩:=H
    have cL : decide (0≤aC)=true:=decide_eq_true c37
    clear c37
    replace H:=yif H;obtain ⟨c38,H⟩:=H
    have cM : decide (aC < (l1.length : Int))=true:=decide_eq_true c38
    clear c38
    replace H:=ybi H;obtain ⟨⟨a9,ba,aN,bb,br⟩,A39,H⟩:=H
    try dsimp only at H
    replace H:=yif H;obtain ⟨c40,H⟩:=H
    have LMc40:=zm c40;clear c40
    obtain ⟨ce,bn⟩ : ∃ y_ : List Int,y_=(bd ++ [br]):=⟨_,rfl⟩
    replace H : (gain_Take.l0 k2 l1 false ce (wrap64 (aC+1)) a9 ba aN bb)=some (r1,r2,r3,r4,r5,r6):=yrw bn H
    have ch:=zm bn;clear bn
    have H' := zm H
    clear H
    have bw : 0≤(aC : Int):=yt
    have bx : aC < (l1.length : Int):=yt
    obtain ⟨cA,cn,bj⟩:=Kd.at_int HR1.out aC bw bx
    cases cn
    replace bj:=yhx HB bj
    replace bw:=eq_true bw
    replace bx:=eq_true bx
    have:=ag.out
    have:=ah.out
    obtain ⟨_,_,_,_,_,_,_,_⟩:=yc4 aa
    obtain ⟨b5,b6,cB⟩:=Kd.V_slice ac.out
    subst cB
    try go_wp2_with (first|((with_reducible refine gate_callee (f:=96) rfl ?_);refine ygl 40 Try.func96 #[.agg #[.int .u64 aj, .int .u32 ak, .slice b5 af.length b6, .int .i64 al], .int .i64 (rd l1 aC), .bool false] ?_;(with_reducible refine (gain_take.calls k2 aj ak (fun k_=>((au k_∨w.heap.size≤k_)∧(some k_≠(u9 : Value).ownBlock∧(k_≠ai∧k_≠am)))) _ _ af al (rd l1 aC) false a9 ba aN bb br _ ac.out A39.out).mono ?_);rintro e w44 ⟨cN,rfl,ho0,hb⟩;refine ⟨_,rfl, ?_⟩;replace ac:=yVb ac hb;have aE:=yho (fun k_=>(au k_∨w.heap.size≤k_)∧some k_≠(u9 : Value).ownBlock∧k_≠ai∧k_≠am) ho0 (fun k_ hk_=>⟨Or.elim hk_ (fun hs_=>hs_.1) (fun hn_=>(.inr (Nat.le_trans (zE yhb) hn_))),yoR aq hk_,yoB aa hk_,yoB ae hk_⟩);replace aq:=yRb aq hb;replace aa:=ybb aa hb;replace ae:=ybb ae hb;replace HB:=ybs hb;(try clear hb);(try clear ho0))|((with_reducible refine gate_dst (N:=12) rfl ?_);refine ybx 12 #[.int .u64 0, .int .u32 0, .slice none 0 0, .int .i64 0] 88 ?_;intro aw hg w45 hbox hb;replace aq:=yRb aq hb;replace ac:=yVe ac hg hb;replace aE:=yVe aE hg hb;have ap:=zm (hbox);have cC:=ygw hg;have cD:=ygw hg;replace HB:=ybs hb;have az:=ynl aa hg;have aA:=yng aa hg;replace aa:=ybb aa hb;have bk:=ynl ae hg;have bl:=yng ae hg;replace ae:=ybb ae hb;clear hb hbox hg;have:=aA.out;have:=az.out;have:=bl.out;have:=bk.out;obtain ⟨_,_,_,_,_,_,_,_⟩:=yc4 ap;obtain ⟨bz,bA,cE⟩:=Kd.V_slice aE.out;subst cE))
    obtain ⟨w50,hw_⟩ : ∃ x,x=((((w45.setCell ⟨aw,0,none⟩ (.int .u64 a9)).setCell ⟨aw,1,none⟩ (.int .u32 ba)).setCell ⟨aw,2,none⟩ (.slice bz aN.length bA)).setCell ⟨aw,3,none⟩ (.int .i64 bb)):=⟨_,rfl⟩
    rw [← hw_]
    replace aq : Aside0 (Kd.R (Kd.int .i64) 3 w50 w.heap.size (fun k_=>(w.heap.size≤k_)) u9 bd):=⟨by rw [hw_];exact (yR1 aq ap)⟩
    replace ac : Aside0 (Kd.V (Kd.int .u8) 5 w50 w.heap.size (fun k_=>(au k_∨w.heap.size≤k_)∧some k_≠(u9 : Value).ownBlock∧k_≠ai∧k_≠am∧k_≠aw) (.slice b5 af.length b6) af):=⟨by rw [hw_];exact (yV0 ac)⟩
    replace aE : Aside0 (Kd.V (Kd.int .u8) 5 w50 w.heap.size (fun k_=>(au k_∨w.heap.size≤k_)∧some k_≠(u9 : Value).ownBlock∧k_≠ai∧k_≠am∧k_≠aw) (.slice bz aN.length bA) aN):=⟨by rw [hw_];exact (yV0 aE)⟩
    replace aa : Aside0 (w50.heap[ai]? = some (.cells #[.int .u64 aj, .int .u32 ak, .slice b5 af.length b6, .int .i64 al] 88 (0,0))):=⟨by rw [hw_];exact (yk aa)⟩
    replace ae : Aside0 (w50.heap[am]? = some (.cells #[.int .u64 0, .int .u32 0, .slice none 0 0, .int .i64 0] 88 (0,0))):=⟨by rw [hw_];exact (yk ae)⟩
    replace ap : Aside0 (w50.heap[aw]? = some (.cells #[.int .u64 a9, .int .u32 ba, .slice bz aN.length bA, .int .i64 bb] 88 (0,0))):=⟨by rw [hw_];exact (ykp ap)⟩
    replace HB : Aside0 (Below w.heap.size w w50):=⟨by rw [hw_];exact (yhb)⟩
    clear hw_
    replace aq:=zm (zq aq.out)
    replace ac:=zm (zC ac.out)
    replace aE:=zm (zC aE.out)
    replace aa:=zm (zj aa.out)
    replace ae:=zm (zj ae.out)
    replace ap:=zm (zj ap.out)
    replace HB:=zm (zf HB.out)
    refine start_ (n:=7) (S:=fun w' => w'.cell? ⟨aw,0,none⟩=some (.int .u64 a9)∧w'.cell? ⟨aw,1,none⟩=some (.int .u32 ba)∧w'.cell? ⟨aw,2,none⟩=some (.slice bz aN.length bA)∧w'.cell? ⟨aw,3,none⟩=some (.int .i64 bb)) (ds := []) #[false,false,false,false,false,false,false] (by kernel_rfl) rfl rfl ⟨(zs ap.out 0).trans rfl,(zs ap.out 1).trans rfl,(zs ap.out 2).trans rfl,(zs ap.out 3).trans rfl⟩ (fun hHeld => ?_)
    generalize w50.drew=w51 at aq ac aE aa ae ap HB hHeld ⊢
    refine pure_ (i:=1) (N:=some 44) (v := ?_) (a' := ?_) #[false,true,false,false,false,false,false] rfl rfl (by kernel_rfl) (fun _ _ _ h=>h) (Or.inl ⟨by rfl, ?_⟩) ?_ ?_
    rotate_left
    ·
     intro w'
     go_simp
     with_reducible rfl
    rotate_left
    ·
     simp only [Act.put,List.setIfInBounds_toArray,List.set_cons_zero,List.set_cons_succ,i64_w,i32_w]
     rfl
    refine pure_ (i:=2) (N:=some 45) (v := ?_) (a' := ?_) #[false,true,true,false,false,false,false] rfl rfl (by kernel_rfl) (fun _ _ _ h=>h) (Or.inl ⟨by rfl, ?_⟩) ?_ ?_
    rotate_left
    ·
     intro w'
     go_simp
     with_reducible rfl
    rotate_left
    ·
     simp only [Act.put,List.setIfInBounds_toArray,List.set_cons_zero,List.set_cons_succ,i64_w,i32_w]
     rfl
    refine take_ (i:=0) (N:=some 43) (v := ?_) (a' := ?_) #[true,true,true,false,false,false,false] rfl rfl (by kernel_rfl) (fun _ _ _ h=>h) (Or.inl ⟨by rfl, ?_⟩) hHeld ?_ ?_
    rotate_left
    ·
     rintro w' ⟨s0,s1,s2,s3⟩
     go_simp
     with_reducible rfl
    rotate_left
    ·
     simp only [Act.put,List.setIfInBounds_toArray,List.set_cons_zero,List.set_cons_succ,i64_w,i32_w]
     rfl
    refine one_ (i:=3) (N:=some 46) #[true,true,true,true,false,false,false] rfl rfl (by kernel_rfl) (by decide) (fun K hK => ?_)
    refine value_ (w1 := ?_) (v := ?_) (by rfl) rfl ?_ ?_
    rotate_left 2
    ·
     go_simp
     constructor
     ·
      rfl
     rfl
    refine hK.out _ _ ⟨(zs (zi ap.out _) 0).trans rfl,(zs (zi ap.out _) 1).trans rfl,(zs (zi ap.out _) 2).trans rfl,(zs (zi ap.out _) 3).trans rfl⟩ (fun hHeld => ?_)
    clear hK K
    refine ym (some 46) ?_
    refine one_ (i:=4) (N:=some 47) #[true,true,true,true,true,false,false] rfl rfl (by kernel_rfl) (by decide) (fun K hK => ?_)
    refine Kd.R_append_step (Kd.int .i64) (w0:=w) w.heap.size (by rfl) (.tmp 44) (.tmp 46) 55 3 (.int .i64 0) 8 rfl Try.underlying55 info3 rfl (by decide) (by omega) u9 bd br [.int .i64 br] (fun k_=>(w.heap.size≤k_)) (fun _=>False) rfl rfl ?aP (fun _ hk=>hk.elim) ?aF ?aO ?aB ?aS ?aL ?_
    (case aP=>exact rfl)
    (case aB=>exact yhb)
    (case aF=>exact (fun k_ hk=>(Nat.le_trans (zE yhb) hk)))
    (case aO=>exact (yr aq))
    (case aS=>exact (zE yhb))
    (case aL=>have:=LMc40.out;omega)
    intro cO w52 ho hb hg hat
    rw [← ch.out] at ho
    replace ac:=zm (Kd.V_afterv (ok:=(fun k_=>(au k_∨w.heap.size≤k_)∧k_≠ai∧k_≠am∧k_≠aw)) (yV0 ac) hg hat)
    replace aa:=zm (blk_grown (yk aa) hg (zu aq.out aa.out (by decide)))
    replace ae:=zm (blk_grown (yk ae) hg (zu aq.out ae.out (by decide)))
    replace aE:=zm (Kd.V_afterv (ok:=(fun k_=>(au k_∨w.heap.size≤k_)∧k_≠ai∧k_≠am∧k_≠aw)) (yV0 aE) hg hat)
    replace ap:=zm (blk_grown (yk ap) hg (zu aq.out ap.out (by decide)))
    replace HB:=zm (hb)
    have ci:=zm (ho);clear aq ho hb hg hat
    refine hK.out _ _ yH (fun hHeld => ?_)
    clear hK K
    refine ym (some 47) ?_
    refine one_ (i:=5) (N:=none) #[true,true,true,true,true,true,false] rfl rfl (by kernel_rfl) (by decide) (fun K hK => ?_)
    have cT : w52.cell? ⟨ai,0,none⟩=some (.int .u64 aj):=(zs aa.out 0).trans rfl
    have hfs53:=zx aa.out 0
    have:=ah.out
    have:=aA.out
    have:=ag.out
    have:=az.out
    have cU : w52.cell? ⟨ai,1,none⟩=some (.int .u32 ak):=(zs aa.out 1).trans rfl
    have hfs54:=zx aa.out 1
    have:=ah.out
    have:=aA.out
    have:=ag.out
    have:=az.out
    have cV : w52.cell? ⟨ai,2,none⟩=some (.slice b5 af.length b6):=(zs aa.out 2).trans rfl
    have hfs55:=zx aa.out 2
    have:=ah.out
    have:=aA.out
    have:=ag.out
    have:=az.out
    have cW : w52.cell? ⟨ai,3,none⟩=some (.int .i64 al):=(zs aa.out 3).trans rfl
    have hfs56:=zx aa.out 3
    have:=ah.out
    have:=aA.out
    have:=ag.out
    have:=az.out
    refine skip_ (w1 := ?_) (by rfl) rfl ?_ ?_
    rotate_left
    ·
     go_simp
     rfl
    refine hK.out _ _ yH (fun hHeld => ?_)
    clear hK K
    refine pure_ (i:=6) (N:=some 9) (v := ?_) (a' := ?_) #[true,true,true,true,true,true,true] rfl rfl (by kernel_rfl) (fun _ _ _ h=>h) (Or.inl ⟨by rfl, ?_⟩) ?_ ?_
    rotate_left
    ·
     intro w'
     go_simp
     with_reducible rfl
    rotate_left
    ·
     simp only [Act.put,List.setIfInBounds_toArray,List.set_cons_zero,List.set_cons_succ,i64_w,i32_w]
     rfl
    refine done_ (by kernel_rfl) ?_
    try go_wp2
    go_roundg k2
    case measure=>exact yom2 HJ3 HK2
    case rel=>exact ⟨(ce),(wrap64 (aC+1)),(a9),(ba),(aN),(bb),(.slice bz aN.length bA),yq,H',⟨yom2 HJ3 HK2⟩,⟨yR1 ci aa⟩,⟨yV0 aE⟩,⟨ykp aa⟩,⟨yk ae⟩,⟨yhb⟩⟩
   rw [if_neg c17] at H
   have cm:=yG c17
   clear c17
   simp only [Option.some.injEq,Prod.mk.injEq] at H
   obtain ⟨rfl,rfl,rfl,rfl,rfl,rfl⟩:=H
   have:=ag.out
   have:=ah.out
   obtain ⟨_,_,_,_,_,_,_,_⟩:=yc4 aa
   obtain ⟨_,_,_,_,_,_,_,_⟩:=yc4 ae
   obtain ⟨cF,cG,cH⟩:=Kd.V_slice ac.out
   subst cH
   go_wp2
   refine bodyPost_ret (results_ctt rfl _ _ am 88 #[.int .u64 aj, .int .u32 ak, .slice cF af.length cG, .int .i64 al] (0,0) _ rfl (ykp ae) Try.underlying88 rfl (by kernel_rfl)) rfl ?_
   exact ⟨_,_,ye,yV0 ac,yR1 aq ae,yhb⟩
mutual
def cpack_Read.j0 : Nat→Int→Int→List (List Int)→Bool→Int→Int→List Int→Int→Bool→Option (Bool × (List (List Int)) × (List (List (List Int))) × Int)
 | 0,_,_,_,_,_,_,_,_,_=>none
 | k+1,x0,x1,x3,x65,bp,bq,br,bs,bk=>if x65=true then (some (false,([] : List (List Int)),([] : List (List (List Int))),1)) else (cpack_Read.l0 k x0 x1 x3 x1 0 bp bq br bs bk ([] : List (List Int)))
def cpack_Read.l0 : Nat→Int→Int→List (List Int)→Int→Int→Int→Int→List Int→Int→Bool→List (List Int)→Option (Bool × (List (List Int)) × (List (List (List Int))) × Int)
 | 0,_,_,_,_,_,_,_,_,_,_,_=>none
 | k+1,x0,x1,x3,x67,x68,bp,bq,br,bs,bk,bl=>if x68 < x67 then ((cpack_of.f x3 x68).bind fun bB=>((gain_Take.f k bp bq br bs bB bk).bind fun cj=>(if bl.length < 5864062014805 then (cpack_Read.l0 k x0 x1 x3 x67 (wrap64 (x68+1)) cj.1 cj.2.1 cj.2.2.1 cj.2.2.2.1 bk (bl ++ [cj.2.2.2.2.1])) else (none)))) else ((alloc_Pulses.f k x0 x1 bl).bind fun eQ=>(cpack_Read.l1 k eQ.1 x1 0 bp bq br bs bk bl ([] : List (List (List Int)))))
def cpack_Read.l1 : Nat→List (List Int)→Int→Int→Int→Int→List Int→Int→Bool→List (List Int)→List (List (List Int))→Option (Bool × (List (List Int)) × (List (List (List Int))) × Int)
 | 0,_,_,_,_,_,_,_,_,_,_=>none
 | k+1,x18,x98,x99,bp,bq,br,bs,bk,bl,bD=>if x99 < x98 then (cpack_Read.l2 k x18 x99 ([] : List (List Int)) x98 x99 0 bp bq br bs bk bl bD) else (some (bk,bl,bD,0))
def cpack_Read.l2 : Nat→List (List Int)→Int→List (List Int)→Int→Int→Int→Int→Int→List Int→Int→Bool→List (List Int)→List (List (List Int))→Option (Bool × (List (List Int)) × (List (List (List Int))) × Int)
 | 0,_,_,_,_,_,_,_,_,_,_,_,_,_=>none
 | k+1,x18,x20,x21,x98,x99,ck,bp,bq,br,bs,bk,bl,bD=>if ck < 5 then ((band_Width.f ck).bind fun bF=>(if 0≤bF then (if (bF : Int).toNat≤35184372088832 then (if 0≤x20 then (if x20 < (x18.length : Int) then (if 0≤ck then (if ck < ((rd_L2 x18 x20).length : Int) then (if (rd (rd_L2 x18 x20) ck) > 0 then ((band_Width.f ck).bind fun cl=>((comb_Count.f cl (rd (rd_L2 x18 x20) ck)).bind fun db=>((coder_TakeNum.f k bp bq br bs db.1).bind fun bE=>((band_Width.f ck).bind fun cm=>((comb_Vector.f k cm (rd (rd_L2 x18 x20) ck) bE.2.2.2.2.1).bind fun dc=>(if x21.length < 5864062014805 then (cpack_Read.l2 k x18 x20 (x21 ++ [dc.1]) x98 x99 (wrap64 (ck+1)) bE.1 bE.2.1 bE.2.2.1 bE.2.2.2.1 bk bl bD) else (none))))))) else (if x21.length < 5864062014805 then (cpack_Read.l2 k x18 x20 (x21 ++ [(List.replicate (bF : Int).toNat 0)]) x98 x99 (wrap64 (ck+1)) bp bq br bs bk bl bD) else (none))) else (none)) else (none)) else (none)) else (none)) else (none)) else (none))) else (if bD.length < 5864062014805 then (cpack_Read.l1 k x18 x98 (wrap64 (x99+1)) bp bq br bs bk bl (bD ++ [x21])) else (none))
end
def cpack_Read.f (k : Nat) (a0 : Int) (a1 : Int) (l2 : List Int) (l3 : List (List Int)) : Option (Bool × (List (List Int)) × (List (List (List Int))) × Int):=(alloc_Right.f a0 a1).bind fun dw=>(if dw=true then (if (l2.length : Int)=a0 then ((coder_Open.f l2).bind fun bR=>((coder_Get.f bR.1 bR.2.1 bR.2.2.1 bR.2.2.2 2).bind fun cn=>((coder_Take.f k bR.1 bR.2.1 bR.2.2.1 bR.2.2.2 cn.1 (wrap64 (cn.1+1)) 2).bind fun bS=>(if cn.1=1 then (cpack_Read.j0 k a0 a1 l3 false bS.1 bS.2.1 bS.2.2.1 bS.2.2.2.1 (cn.1 == 1)) else ((cpack_gains.f k a1 l3).bind fun dj=>(cpack_Read.j0 k a0 a1 l3 (!dj) bS.1 bS.2.1 bS.2.2.1 bS.2.2.2.1 (cn.1 == 1))))))) else (some (false,([] : List (List Int)),([] : List (List (List Int))),2))) else (some (false,([] : List (List Int)),([] : List (List (List Int))),1)))
theorem cpack_Read.mono_l : ∀ k,(∀ y0 y1 y2 y3 y4 y5 y6 y7 y8,LeO (cpack_Read.j0 k y0 y1 y2 y3 y4 y5 y6 y7 y8) (cpack_Read.j0 (k+1) y0 y1 y2 y3 y4 y5 y6 y7 y8))∧(∀ y0 y1 y2 y3 y4 y5 y6 y7 y8 y9 y10,LeO (cpack_Read.l0 k y0 y1 y2 y3 y4 y5 y6 y7 y8 y9 y10) (cpack_Read.l0 (k+1) y0 y1 y2 y3 y4 y5 y6 y7 y8 y9 y10))∧(∀ y0 y1 y2 y3 y4 y5 y6 y7 y8 y9,LeO (cpack_Read.l1 k y0 y1 y2 y3 y4 y5 y6 y7 y8 y9) (cpack_Read.l1 (k+1) y0 y1 y2 y3 y4 y5 y6 y7 y8 y9))∧(∀ y0 y1 y2 y3 y4 y5 y6 y7 y8 y9 y10 y11 y12,LeO (cpack_Read.l2 k y0 y1 y2 y3 y4 y5 y6 y7 y8 y9 y10 y11 y12) (cpack_Read.l2 (k+1) y0 y1 y2 y3 y4 y5 y6 y7 y8 y9 y10 y11 y12))
 | 0=>⟨fun _ _ _ _ _ _ _ _ _ r h=>by simp [cpack_Read.j0] at h,fun _ _ _ _ _ _ _ _ _ _ _ r h=>by simp [cpack_Read.l0] at h,fun _ _ _ _ _ _ _ _ _ _ r h=>by simp [cpack_Read.l1] at h,fun _ _ _ _ _ _ _ _ _ _ _ _ _ r h=>by simp [cpack_Read.l2] at h⟩
 | k+1=>by
  obtain ⟨ih0,ih1,ih2,ih3⟩:=cpack_Read.mono_l k
  refine ⟨?_, ?_, ?_, ?_⟩
  ·
   intro y0 y1 y2 y3 y4 y5 y6 y7 y8
   unfold cpack_Read.j0
   repeat' with_reducible first|apply ih0|apply ih1|apply ih2|apply ih3|apply alloc_Pulses.mono|apply coder_Take.mono|apply coder_TakeNum.mono|apply comb_Vector.mono|apply cpack_gains.mono|apply gain_Take.mono|apply yLr|apply yLn|apply yLi|apply yLb|intro _
  ·
   intro y0 y1 y2 y3 y4 y5 y6 y7 y8 y9 y10
   unfold cpack_Read.l0
   repeat' with_reducible first|apply ih0|apply ih1|apply ih2|apply ih3|apply alloc_Pulses.mono|apply coder_Take.mono|apply coder_TakeNum.mono|apply comb_Vector.mono|apply cpack_gains.mono|apply gain_Take.mono|apply yLr|apply yLn|apply yLi|apply yLb|intro _
  ·
   intro y0 y1 y2 y3 y4 y5 y6 y7 y8 y9
   unfold cpack_Read.l1
   repeat' with_reducible first|apply ih0|apply ih1|apply ih2|apply ih3|apply alloc_Pulses.mono|apply coder_Take.mono|apply coder_TakeNum.mono|apply comb_Vector.mono|apply cpack_gains.mono|apply gain_Take.mono|apply yLr|apply yLn|apply yLi|apply yLb|intro _
  intro y0 y1 y2 y3 y4 y5 y6 y7 y8 y9 y10 y11 y12
  unfold cpack_Read.l2
  repeat' with_reducible first|apply ih0|apply ih1|apply ih2|apply ih3|apply alloc_Pulses.mono|apply coder_Take.mono|apply coder_TakeNum.mono|apply comb_Vector.mono|apply cpack_gains.mono|apply gain_Take.mono|apply yLr|apply yLn|apply yLi|apply yLb|intro _
theorem cpack_Read.mono : ∀ a0 a1 a2 a3 k,LeO (cpack_Read.f k a0 a1 a2 a3) (cpack_Read.f (k+1) a0 a1 a2 a3):=by
 intro a0 a1 a2 a3 k
 obtain ⟨ih0,ih1,ih2,ih3⟩:=cpack_Read.mono_l k
 unfold cpack_Read.f
 repeat' with_reducible first|apply ih0|apply ih1|apply ih2|apply ih3|apply alloc_Pulses.mono|apply coder_Take.mono|apply coder_TakeNum.mono|apply comb_Vector.mono|apply cpack_gains.mono|apply gain_Take.mono|apply yLr|apply yLn|apply yLi|apply yLb|intro _
def cpack_Read.T14 : Bool × List (List Nat × List Nat):=(true, [([], []),([], []),([], []),([1,2], [1,2]),([], []),([4], [4]),([0,3,5,3], [0,3,5]),([6], [6]),([7], [7]),([7], [7]),([7], [7]),([], []),([11,8,6,0,1,2,3,4,5,6,7,8,11], [8,11]),([9,12,0,1,2,3,4,5,6,7,8,9,11,12], [9]),([10,13,0,1,2,3,4,5,6,7,8,9,10,11,12,13], [10])])
def cpack_Read.B14 : List Nat := [0,0,0,6,0,16,63,127,255,255,255,0,2559,7167,16383]
theorem cpack_Read.tab14 : rtab .any (opsOf Try.f16 14)=cpack_Read.T14:=by kernel_rfl
theorem cpack_Read.bits14 : waitsOk cpack_Read.T14.2 cpack_Read.B14=true:=by kernel_rfl
def cpack_Read.T15 : Bool × List (List Nat × List Nat):=(true, [([], []),([], []),([1], [1]),([], []),([3], [3]),([2,4], [2,4]),([0,5,0], [0]),([0,1,2,3,4,5,6], []),([7,5,6,0,1,2,3,4,5,6], [5,7])])
def cpack_Read.B15 : List Nat := [0,0,2,0,8,30,63,127,255]
theorem cpack_Read.tab15 : rtab .any (opsOf Try.f16 15)=cpack_Read.T15:=by kernel_rfl
theorem cpack_Read.bits15 : waitsOk cpack_Read.T15.2 cpack_Read.B15=true:=by kernel_rfl
def cpack_Read.T27 : Bool × List (List Nat × List Nat):=(true, [([], []),([0], [0]),([], []),([], []),([2,3], [2,3]),([4], [4]),([], []),([5,6], [5,6]),([7], [7]),([1,8,1], [1,8]),([9], [9]),([10], [10]),([10], [10]),([11,9,0,1,2,3,4,5,6,7,8,9,10,11], [11]),([12,13,0,1,2,3,4,5,6,7,8,9,10,11,12,13], [12])])
def cpack_Read.B27 : List Nat := [0,1,0,0,12,28,0,124,252,511,1023,2047,2047,4095,16383]
theorem cpack_Read.tab27 : rtab .any (opsOf Try.f16 27)=cpack_Read.T27:=by kernel_rfl
theorem cpack_Read.bits27 : waitsOk cpack_Read.T27.2 cpack_Read.B27=true:=by kernel_rfl
def cpack_Read.T30 : Bool × List (List Nat × List Nat):=(true, [([], []),([0], [0]),([], []),([], []),([2,3], [2,3]),([4], [4]),([], []),([5,6], [5,6]),([7], [7]),([], []),([1,8,9,1], [1,8,9]),([10], [10]),([11], [11]),([11], [11]),([12,10,0,1,2,3,4,5,6,7,8,9,10,11,12], [12])])
def cpack_Read.B30 : List Nat := [0,1,0,0,12,28,0,124,252,0,1023,2047,4095,4095,8191]
theorem cpack_Read.tab30 : rtab .any (opsOf Try.f16 30)=cpack_Read.T30:=by kernel_rfl
theorem cpack_Read.bits30 : waitsOk cpack_Read.T30.2 cpack_Read.B30=true:=by kernel_rfl
set_option maxHeartbeats 8000000 in
set_option maxRecDepth 100000 in
theorem cpack_Read.calls (k : Nat) (a0 : Int) (a1 : Int) (A2 : Option Addr) (c2 : Nat) (l2 : List Int) (A3 : Option Addr) (c3 : Nat) (l3 : List (List Int)) (r1 : Bool) (r2 : List (List Int)) (r3 : List (List (List Int))) (r4 : Int) (w : World) (hr2 : Kd.C (Kd.int .u8) w A2 l2.length l2) (hc2 : l2.length≤c2) (hr3 : Kd.C (Kd.slice 3 (Kd.int .i64)) w A3 l3.length l3) (hc3 : l3.length≤c3) (h : cpack_Read.f k a0 a1 l2 l3=some (r1,r2,r3,r4)) :
  Calls Try.prog 16 #[.int .i64 a0, .int .i64 a1, .slice A2 l2.length c2, .slice A3 l3.length c3] w fun e w' => ∃ v1_ v2_ : Value,e=.returned (.tuple #[.agg #[.bool r1,v1_,v2_], .int .i64 r4])∧Kd.S (Kd.slice 3 (Kd.int .i64)) 55 w' w.heap.size (fun _=>True) v1_ r2∧Kd.R (Kd.slice 55 (Kd.slice 3 (Kd.int .i64))) 25 w' w.heap.size (fun k_=>some k_≠(v1_ : Value).ownBlock) v2_ r3∧Below w.heap.size w w' := by
 have hu31:=Try.underlying31;have hu88:=Try.underlying88;have HR2:=zm hr2;have HC2:=zm hc2;clear hr2 hc2;have HR3:=zm hr3;have HC3:=zm hc3;clear hr3 hc3;have HB:=zm (Below.refl w.heap.size w);have H:=h
 unfold cpack_Read.f at H
 clear h
 replace H:=ybi H;obtain ⟨dw,A5,H⟩:=H
 by_cases c6 : dw=true
 ·
  subst c6
  rw [if_pos rfl] at H
  by_cases c7 : (l2.length : Int)=a0
  ·
   rw [if_pos c7] at H
   obtain ⟨fe,ff⟩:=yE c7
   clear c7
   replace H:=ybi H;obtain ⟨⟨cE,cF,co,cG⟩,A8,H⟩:=H
   try dsimp only at H
   replace H:=ybi H;obtain ⟨⟨aV,fg⟩,A9,H⟩:=H
   try dsimp only at H
   replace H:=ybi H;obtain ⟨⟨cp,cq,bZ,cr,fh⟩,A10,H⟩:=H
   try dsimp only at H
   have eR:=zm H;clear H
   go_enter Try.func16,Try.ntmps16
   go_upto_region 9 with (first|((with_reducible refine gate_dst (N:=8) rfl ?_);refine ybx 8 #[.bool false, .slice none 0 0, .slice none 0 0] 31 ?_;intro al hg w12 hbox hb;have ae:=zm (hbox);have dx:=ygw hg;have dy:=ygw hg;replace HB:=ybs hb;clear hb hbox hg)|((with_reducible refine gate_callee (f:=52) rfl ?_);refine ygl 31 Try.func52 #[.int .i64 a0, .int .i64 a1] ?_;(with_reducible refine (alloc_Right.calls a0 a1 true _ A5.out).mono ?_);rintro e w' ⟨rfl,⟨nd,rfl⟩⟩;refine ⟨_,rfl, ?_⟩;(try (rw [drewN_self w12];generalize hq_ : World.drewN w12 _=w12;replace ae:=ykq hq_ ae;replace HB:=ysq hq_;clear hq_)))|((with_reducible refine gate_callee (f:=53) rfl ?_);refine ygl 40 Try.func53 #[.slice A2 l2.length c2] ?_;(with_reducible refine (coder_Open.calls (fun k_=>k_ < w.heap.size) _ _ l2 cE cF co cG _ ?bx A8.out).mono ?_);(case bx=>exact Kd.V_mk HC2.out (Kd.F_below (Kd.C_F (Kd.heap_int .u8) HR2.out) yhb));rintro e w13 ⟨gE,rfl,ho0,hb⟩;refine ⟨_,rfl, ?_⟩;have bA:=yho (fun k_=>k_≠al) ho0 (fun k_ hk_=>yoB ae hk_);replace ae:=ybb ae hb;replace HB:=ybs hb;(try clear hb);(try clear ho0))|((with_reducible refine gate_dst (N:=10) rfl ?_);refine ybx 10 #[.int .u64 0, .int .u32 0, .slice none 0 0, .int .i64 0] 88 ?_;intro aj hg w14 hbox hb;replace bA:=yVe bA hg hb;have af:=zm (hbox);have gm:=ygw hg;have gn:=ygw hg;replace HB:=ybs hb;have bg:=ynl ae hg;have bh:=yng ae hg;replace ae:=ybb ae hb;clear hb hbox hg;have:=bh.out;have:=bg.out;obtain ⟨dU,dV,dW,dX,dY,dZ,d5,d6⟩:=yc4 af;obtain ⟨eS,d7,go⟩:=Kd.V_slice bA.out;subst go)|((with_reducible refine gate_callee (f:=54) rfl ?_);refine ygl 43 Try.func54 #[.agg #[.int .u64 cE, .int .u32 cF, .slice eS co.length d7, .int .i64 cG], .int .i64 2] ?_;(with_reducible refine (coder_Get.calls cE cF _ _ co cG 2 aV fg _ ?bx ?ca A9.out).mono ?_);(case bx=>refine (Kd.V_reads' (e:=5) (base:=w.heap.size) (ok:=fun k_=>(k_≠al∧k_≠aj)) (n:=co.length) (c:=d7) ?_).2.2;exact (yV0 bA));(case ca=>exact (Kd.V_reads' bA.out).2.1);rintro e w18 ⟨rfl,hb⟩;refine ⟨_,rfl, ?_⟩;replace bA:=zm (Kd.V_below (yV0 bA) hb);replace ae:=ybb ae hb;replace af:=zm (zF (g:=aj) (o:=.cells #[.int .u64 cE, .int .u32 cF, .slice eS co.length d7, .int .i64 cG] 88 (0,0)) (ykp af) hb);replace HB:=ybs hb;(try clear hb);obtain ⟨d8,d9,ea,eb,ec,ed,ee,ef⟩:=yc4 af)|((with_reducible refine gate_callee (f:=55) rfl ?_);refine ygl 51 Try.func55 #[.agg #[.int .u64 cE, .int .u32 cF, .slice eS co.length d7, .int .i64 cG], .int .i64 aV, .int .i64 (wrap64 (aV+1)), .int .i64 2] ?_;(with_reducible refine (coder_Take.calls k cE cF (fun k_=>(k_≠al∧k_≠aj)) _ _ co cG aV (wrap64 (aV+1)) 2 cp cq bZ cr fh _ bA.out A10.out).mono ?_);rintro e w20 ⟨gF,rfl,ho0,hb⟩;refine ⟨_,rfl, ?_⟩;replace bA:=yVb bA hb;have ct:=yho (fun k_=>k_≠al∧k_≠aj) ho0 (fun k_ hk_=>⟨yoB ae hk_,yoB af hk_⟩);replace ae:=ybb ae hb;replace af:=ybb af hb;replace HB:=ybs hb;(try clear hb);(try clear ho0);obtain ⟨eg,eh,ei,ej,ek,el,en,eo⟩:=yc4 af;obtain ⟨du,dv,gp⟩:=Kd.V_slice ct.out;subst gp)|((with_reducible refine gate_dst (N:=13) rfl ?_);refine ybx 13 #[.bool false, .slice none 0 0, .slice none 0 0] 31 ?_;intro ak hg w23 hbox hb;replace bA:=zm (Kd.V_below (Kd.V_elderB (yV0 bA) ak (Nat.le_of_eq hg.symm)) hb);replace ct:=zm (Kd.V_below (Kd.V_elderB (yV0 ct) ak (Nat.le_of_eq hg.symm)) hb);have ah:=zm (hbox);have gq:=ygw hg;have gu:=ygw hg;replace HB:=ybs hb;have bi:=ynl ae hg;have bj:=yng ae hg;replace ae:=ybb ae hb;have aM:=zm ((by rw [hg];exact zn (zD (g:=aj) (o:=.cells #[.int .u64 cp, .int .u32 cq, .slice du bZ.length dv, .int .i64 cr] 88 (0,0)) (ykp af)) : aj≠ak));have aN:=zm ((by rw [hg];exact zg (zD (g:=aj) (o:=.cells #[.int .u64 cp, .int .u32 cq, .slice du bZ.length dv, .int .i64 cr] 88 (0,0)) (ykp af)) : ak≠aj));replace af:=zm (zF (g:=aj) (o:=.cells #[.int .u64 cp, .int .u32 cq, .slice du bZ.length dv, .int .i64 cr] 88 (0,0)) (ykp af) hb);clear hb hbox hg;have:=bj.out;have:=bi.out;have:=aN.out;have:=aM.out;obtain ⟨ep,eq,er,es,et,eu⟩:=yc3 ah))
   (try simp only [Act.put,List.setIfInBounds_toArray,List.set_cons_zero,List.set_cons_succ])
   go_cut [65] (fun v65 wc => ∃ (kq : Nat) (cK : Bool),v65=.bool cK∧Aside0 (cpack_Read.j0 kq a0 a1 l3 cK cp cq bZ cr (aV == 1)=some (r1,r2,r3,r4))∧Aside0 (kq≤k)∧Aside0 (Kd.V (Kd.int .u8) 5 wc w.heap.size (fun k_=>k_≠al∧k_≠aj∧k_≠ak) (.slice du bZ.length dv) bZ)∧Aside0 (wc.heap[al]? = some (.cells #[.bool false,(.slice none 0 0),(.slice none 0 0)] 31 (0,0)))∧Aside0 (wc.heap[aj]? = some (.cells #[.int .u64 cp, .int .u32 cq,(.slice du bZ.length dv), .int .i64 cr] 88 (0,0)))∧Aside0 (wc.heap[ak]? = some (.cells #[.bool (aV == 1),(.slice none 0 0),(.slice none 0 0)] 31 (0,0)))∧Aside0 (Below w.heap.size w wc))
   case first =>
    have H:=eR.out;clear eR
    by_cases c27 : aV=1
    ·
     rw [if_pos c27] at H
     obtain ⟨cu,fi⟩:=yE c27
     clear c27
     (first|rw [cu]|(simp only [i64_w,i32_w];rw [cu])|skip)
     have H' := zm H
     clear H
     have:=bj.out
     have:=bi.out
     have:=aN.out
     have:=aM.out
     obtain ⟨_,_,_,_,_,_⟩:=yc3 ah
     go_wp2
     go_meet
     case rel=>exact ⟨_,(false),yq,H',⟨yo⟩,⟨yV0 ct⟩,⟨yk ae⟩,⟨yk af⟩,⟨by rw [cu];(with_reducible repeat (first|refine zh ?_ _|refine zj ?_|refine zi ?_ _));refine zw (cs := #[.bool true, .slice none 0 0, .slice none 0 0]) ?_ 2 _ rfl;(with_reducible repeat (first|refine zh ?_ _|refine zj ?_|refine zi ?_ _));refine zw (cs := #[.bool true, .slice none 0 0, .slice none 0 0]) ?_ 1 _ rfl;(with_reducible repeat (first|refine zh ?_ _|refine zj ?_|refine zi ?_ _));refine zw (cs := #[.bool false, .slice none 0 0, .slice none 0 0]) ?_ 0 _ rfl;(with_reducible repeat (first|refine zh ?_ _|refine zj ?_|refine zi ?_ _));exact ah.out⟩,⟨yhb⟩⟩
    rw [if_neg c27] at H
    obtain ⟨cu,fi⟩:=yF c27
    (first|rw [cu]|(simp only [i64_w,i32_w];rw [cu])|skip)
    replace H:=ybi H;obtain ⟨dj,A31,H⟩:=H
    have H' := zm H
    clear H
    have:=bj.out
    have:=bi.out
    have:=aN.out
    have:=aM.out
    obtain ⟨_,_,_,_,_,_⟩:=yc3 ah
    go_wp2_with (first|(go_at_call 42;(with_reducible refine (cpack_gains.calls k a1 _ _ l3 dj _ ?bx HC3.out A31.out).mono ?_);(case bx=>exact Kd.C_below HR3.out yhb);rintro e w' ⟨rfl,⟨nd,rfl⟩⟩))
    go_meet
    case rel=>exact ⟨_,(!dj),yq,H',⟨yo⟩,⟨yV0 ct⟩,⟨yk ae⟩,⟨yk af⟩,⟨by rw [cu];(with_reducible repeat (first|refine zh ?_ _|refine zj ?_|refine zi ?_ _));refine zw (cs := #[.bool false, .slice none 0 0, .slice none 0 0]) ?_ 2 _ rfl;(with_reducible repeat (first|refine zh ?_ _|refine zj ?_|refine zi ?_ _));refine zw (cs := #[.bool false, .slice none 0 0, .slice none 0 0]) ?_ 1 _ rfl;(with_reducible repeat (first|refine zh ?_ _|refine zj ?_|refine zi ?_ _));refine zw (cs := #[.bool false, .slice none 0 0, .slice none 0 0]) ?_ 0 _ rfl;(with_reducible repeat (first|refine zh ?_ _|refine zj ?_|refine zi ?_ _));exact ah.out⟩,⟨yhb⟩⟩
   case rest =>
    clear eR
    try clear c2
    try clear c3
    try clear fe
    try clear ff
    try clear dU
    try clear dV
    try clear dW
    try clear dX
    try clear d8
    try clear d9
    try clear ea
    try clear eb
    try clear eg
    try clear eh
    try clear ei
    try clear ej
    try clear ep
    try clear eq
    try clear er
    try clear dY
    try clear dZ
    try clear d5
    try clear d6
    try clear ec
    try clear ed
    try clear ee
    try clear ef
    try clear ek
    try clear el
    try clear en
    try clear eo
    try clear es
    try clear et
    try clear eu
    obtain ⟨kq,cK,rfl,HA,cN,ac,ae,af,ah,HB⟩:=hcut
    obtain ⟨fj,rfl⟩:=ysu kq (fun h=>by subst h;exact absurd HA.out (by simp [cpack_Read.j0]))
    have H:=HA.out;clear HA
    simp only [cpack_Read.j0] at H
    by_cases c35 : cK=true
    ·
     subst c35
     rw [if_pos rfl] at H
     simp only [Option.some.injEq,Prod.mk.injEq] at H
     obtain ⟨rfl,rfl,rfl,rfl⟩:=H
     have:=bg.out
     have:=bh.out
     have:=bi.out
     have:=bj.out
     obtain ⟨ev,ew,ey,ez,eA,eB⟩:=yc3 ae
     go_wp2
     refine bodyPost_ret (results_ct rfl _ _ al 31 #[.bool false, .slice none 0 0, .slice none 0 0] (0,0) _ rfl (ykp ae) Try.underlying31 rfl (by kernel_rfl)) rfl ?_
     exact ⟨_,_,ye,yn,yn,yhb⟩
    replace c35:=Bool.eq_false_iff.mpr c35
    subst c35
    rw [ynf] at H
    have H' := zm H
    clear H
    go_wp2
    go_loopg [68] fj (fun kq v68 w' => ∃ (b4 : Int) (aA : Int) (aC : Int) (ap : List Int) (aD : Int) (ag : List (List Int)) (a7 : Value) (am : Value),v68=.int .i64 b4∧Aside0 (cpack_Read.l0 kq a0 a1 l3 a1 b4 aA aC ap aD (aV == 1) ag=some (r1,r2,r3,r4))∧Aside0 (kq≤fj)∧Aside0 (Kd.V (Kd.int .u8) 5 w' w.heap.size (fun k_=>some k_≠(am : Value).ownBlock∧k_≠al∧k_≠aj∧k_≠ak) a7 ap)∧Aside0 (Kd.S (Kd.slice 3 (Kd.int .i64)) 55 w' w.heap.size (fun _=>True) am ag)∧Aside0 (w'.heap[al]? = some (.cells #[.bool false,(.slice none 0 0),(.slice none 0 0)] 31 (0,0)))∧Aside0 (w'.heap[aj]? = some (.cells #[.int .u64 aA, .int .u32 aC,a7, .int .i64 aD] 88 (0,0)))∧Aside0 (w'.heap[ak]? = some (.cells #[.bool (aV == 1),am,(.slice none 0 0)] 31 (0,0)))∧Aside0 (Below w.heap.size w w'))
    case atStart=>exact ⟨(0),(cp),(cq),(bZ),(cr),(([] : List (List Int))),(.slice du bZ.length dv),(.slice none 0 0),yq,H',⟨Nat.le_refl _⟩,⟨yV0 ac⟩,⟨yn⟩,⟨yk ae⟩,⟨yk af⟩,⟨yk ah⟩,⟨yhb⟩⟩
    case round =>
     clear H'
     try clear ev
     try clear ew
     try clear ey
     try clear ez
     try clear eA
     try clear eB
     obtain ⟨b4,aA,aC,ap,aD,ag,a7,am,rfl,HA,HK2,ac,aa,ae,af,ah,HB⟩:=hrel
     obtain ⟨k2,rfl⟩:=ysu gk (fun h=>by subst h;exact absurd HA.out (by simp [cpack_Read.l0]))
     have H:=HA.out;clear HA
     simp only [cpack_Read.l0] at H
     by_cases c39 : b4 < a1
     ·
      rw [if_pos c39] at H
      have eK:=yD c39
      clear c39
      replace H:=ybi H;obtain ⟨bB,A40,H⟩:=H
      replace H:=ybi H;obtain ⟨⟨bT,bU,bG,bV,bH,cH⟩,A41,H⟩:=H
      try dsimp only at H
      replace H:=yif H;obtain ⟨c42,H⟩:=H
      have LMc42:=zm c42;clear c42
      obtain ⟨dz,dd⟩ : ∃ y_ : List (List Int),y_=(ag ++ [bH]):=⟨_,rfl⟩
      replace H : (cpack_Read.l0 k2 a0 a1 l3 a1 (wrap64 (b4+1)) bT bU bG bV (aV == 1) dz)=some (r1,r2,r3,r4):=yrw dd H
      have eT:=zm dd;clear dd
      have H' := zm H
      clear H
      obtain ⟨cf,cg,gv⟩:=Kd.V_slice ac.out
      subst gv
      try go_wp2
      replace ac:=zm (zC ac.out)
      replace aa:=zm (Kd.S_drew aa.out)
      replace ae:=zm (zj ae.out)
      replace af:=zm (zj af.out)
      replace ah:=zm (zj ah.out)
      replace HB:=zm (zf HB.out)
      refine yst (fun w' => w'.cell? ⟨aj,0,none⟩=some (.int .u64 aA)∧w'.cell? ⟨aj,1,none⟩=some (.int .u32 aC)∧w'.cell? ⟨aj,2,none⟩=some (.slice cf ap.length cg)∧w'.cell? ⟨aj,3,none⟩=some (.int .i64 aD)∧w'.cell? ⟨ak,0,none⟩=some (.bool (aV == 1))∧w'.cell? ⟨ak,1,none⟩=some (am)∧w'.cell? ⟨ak,2,none⟩=some (.slice none 0 0)) [] 15 cpack_Read.tab14 cpack_Read.bits14 (fun hHeld HT_ HW_ => ?_)
      generalize wr.drew=w44 at ac aa ae af ah HB hHeld ⊢
      refine yp 1 73 HT_ ?_
      refine yp 2 74 HT_ ?_
      refine yp 4 76 HT_ ?_
      refine yl 0 72 HT_ HW_ hHeld ?_
      refine yl 5 77 HT_ HW_ hHeld ?_
      refine join_ (σ:=Value × Value × Value × Nat) 3 #[true,true,true,true,true,true,true,true,true,true,true,true,false,false,false] (fun s_ => [(75,s_.1),(78, .tuple #[.agg #[.int .u64 bT, .int .u32 bU,s_.2.1, .int .i64 bV],s_.2.2.1, .int .i64 cH]),(15, .pointer (some ⟨s_.2.2.2,0,none⟩)),(71, .tuple #[.agg #[.int .u64 bT, .int .u32 bU,s_.2.1, .int .i64 bV],s_.2.2.1, .int .i64 cH]),(79, .agg #[.int .u64 bT, .int .u32 bU,s_.2.1, .int .i64 bV]),(80,s_.2.2.1),(81, .int .i64 cH)]) (fun s_ w' => (w'.cell? ⟨aj,0,none⟩=some (.int .u64 aA)∧w'.cell? ⟨aj,1,none⟩=some (.int .u32 aC)∧w'.cell? ⟨aj,2,none⟩=some (.slice cf ap.length cg)∧w'.cell? ⟨aj,3,none⟩=some (.int .i64 aD)∧w'.cell? ⟨ak,0,none⟩=some (.bool (aV == 1))∧w'.cell? ⟨ak,1,none⟩=some (am)∧w'.cell? ⟨ak,2,none⟩=some (.slice none 0 0))∧(Kd.V (Kd.int .i64) 3 w' w.heap.size (fun k_=>some k_≠(s_.2.2.1 : Value).ownBlock∧some k_≠(am : Value).ownBlock∧k_≠al∧k_≠aj∧k_≠ak∧k_≠s_.2.2.2) s_.1 bB)∧(Kd.V (Kd.int .u8) 5 w' w.heap.size (fun k_=>some k_≠(s_.2.2.1 : Value).ownBlock∧some k_≠(am : Value).ownBlock∧k_≠al∧k_≠aj∧k_≠ak∧k_≠s_.2.2.2) s_.2.1 bG)∧(Kd.R (Kd.int .i64) 3 w' w.heap.size (fun _=>True) s_.2.2.1 bH)∧(Kd.V (Kd.int .u8) 5 w' w.heap.size (fun k_=>some k_≠(s_.2.2.1 : Value).ownBlock∧some k_≠(am : Value).ownBlock∧k_≠al∧k_≠aj∧k_≠ak∧k_≠s_.2.2.2) (.slice cf ap.length cg) ap)∧(Kd.S (Kd.slice 3 (Kd.int .i64)) 55 w' w.heap.size (fun k_=>some k_≠(s_.2.2.1 : Value).ownBlock) am ag)∧(w'.heap[al]? = some (.cells #[.bool false, .slice none 0 0, .slice none 0 0] 31 (0,0)))∧(w'.heap[aj]? = some (.cells #[.int .u64 aA, .int .u32 aC, .slice cf ap.length cg, .int .i64 aD] 88 (0,0)))∧(w'.heap[ak]? = some (.cells #[.bool (aV == 1),am, .slice none 0 0] 31 (0,0)))∧(w'.heap[s_.2.2.2]? = some (.cells #[.int .u64 0, .int .u32 0, .slice none 0 0, .int .i64 0] 88 (0,0)))∧(w.heap.size≤s_.2.2.2)∧(w.heap.size≤s_.2.2.2)∧(al≠s_.2.2.2)∧(s_.2.2.2≠al)∧(aj≠s_.2.2.2)∧(s_.2.2.2≠aj)∧(ak≠s_.2.2.2)∧(s_.2.2.2≠ak)∧(Below w.heap.size w w')) ?_ ?_
      rotate_left
      ·
       intro hCont
       refine two_ (i:=3) (j:=11) (Ni:=some 75) (Nj:=some 15) #[true,true,true,true,true,true,false,false,false,false,false,false,false,false,false] #[true,true,true,false,true,true,false,false,false,false,false,true,false,false,false] rfl rfl rfl rfl (two_of HT_.out (by kernel_rfl)) (by decide) (by decide) (fun K hK => ?_) (fun K hK => ?_)
       ·
        skip
        refine ygs Try.func46 #[.slice A3 l3.length c3, .int .i64 b4] ?_
        with_reducible refine (cpack_of.calls (fun k_=>k_ < w.heap.size) _ _ l3 b4 bB _ ?bx A40.out).mono ?_
        (case bx=>exact Kd.V_mk HC3.out (Kd.F_below (Kd.C_F (Kd.heap_slice 3 (Kd.heap_int .i64)) HR3.out) yhb))
        rintro e w45 ⟨dk,rfl,ho0,hb⟩
        refine ⟨_,rfl, ?_⟩
        replace ac:=yVb ac hb
        have aJ:=yho (fun k_=>some k_≠(am : Value).ownBlock∧k_≠al∧k_≠aj∧k_≠ak) ho0 (fun k_ hk_=>⟨yoS aa hk_,yoB ae hk_,yoB af hk_,yoB ah hk_⟩)
        replace aa:=ySb aa hb
        replace ae:=ybb ae hb
        replace af:=ybb af hb
        replace ah:=ybb ah hb
        replace HB:=ybs hb
        (try clear hb)
        (try clear ho0)
        obtain ⟨fk,fl,fm⟩:=Kd.V_slice aJ.out
        (first|subst fm|(injection fm with f1_ f2_ f3_;have f4_:=f1_.symm;have f5_:=f3_.symm;clear f1_ f2_ f3_;subst f4_;subst f5_))
        refine hK.out _ _ yH (fun hHeld => ?_)
        clear hK K
        refine ym (some 75) ?_
        refine two_ (i:=6) (j:=11) (Ni:=some 78) (Nj:=some 15) #[true,true,true,true,true,true,true,false,false,false,false,false,false,false,false] #[true,true,true,true,true,true,false,false,false,false,false,true,false,false,false] rfl rfl rfl rfl (two_of HT_.out (by kernel_rfl)) (by decide) (by decide) (fun K hK => ?_) (fun K hK => ?_)
        ·
         skip
         refine ygs Try.func56 #[.agg #[.int .u64 aA, .int .u32 aC, .slice cf ap.length cg, .int .i64 aD], .slice fk bB.length fl, .bool (aV == 1)] ?_
         with_reducible refine (gain_Take.calls k2 aA aC (fun k_=>(some k_≠(am : Value).ownBlock∧(k_≠al∧(k_≠aj∧k_≠ak)))) _ _ ap aD _ _ bB (aV == 1) bT bU bG bV bH cH _ ?bx ?ca ?cO A41.out).mono ?_
         (case bx=>exact ac.out)
         (case ca=>exact yce (Kd.V_reads' aJ.out).2.2)
         (case cO=>exact (Kd.V_reads' aJ.out).2.1)
         rintro e w47 ⟨cv,bw,rfl,ho0,ho1,hb⟩
         refine ⟨_,rfl, ?_⟩
         replace ac:=zm (Kd.V_elder' (yr ac) (Kd.R_base ho1) hb)
         replace aJ:=zm (Kd.V_elder' (yr aJ) (Kd.R_base ho1) hb)
         have bm:=yho (fun k_=>some k_≠(bw : Value).ownBlock∧some k_≠(am : Value).ownBlock∧k_≠al∧k_≠aj∧k_≠ak) ho0 (fun k_ hk_=>⟨hk_.2,Or.elim hk_.1 (fun hs_=>hs_.1) (fun hn_=>(Kd.fresh' (Kd.S_lt (yr aa)) k_ hn_)),Or.elim hk_.1 (fun hs_=>hs_.2.1) (fun hn_=>(Kd.freshB (yk ae) k_ hn_)),Or.elim hk_.1 (fun hs_=>hs_.2.2.1) (fun hn_=>(Kd.freshB (yk af) k_ hn_)),Or.elim hk_.1 (fun hs_=>hs_.2.2.2) (fun hn_=>(Kd.freshB (yk ah) k_ hn_))⟩)
         replace aa:=zm (Kd.S_elder' (yr aa) (Kd.R_base ho1) hb)
         have bn:=zm (Kd.R_lower (zG (ok' := fun k_=>True) ho1 (fun _ hk_=>trivial)) (zE yhb))
         replace ae:=ybb ae hb
         replace af:=ybb af hb
         replace ah:=ybb ah hb
         replace HB:=ybs hb
         (try clear hb)
         (try clear ho0)
         (try clear ho1)
         refine hK.out _ _ yH (fun hHeld => ?_)
         clear hK K
         refine ym (some 78) ?_
         refine yp 7 71 HT_ ?_
         refine yp 8 79 HT_ ?_
         refine yp 9 80 HT_ ?_
         refine yp 10 81 HT_ ?_
         refine yw 11 15 HT_ (fun K hK => ?_)
         refine box_step ?hg (N:=15) ?hd (cs := #[.int .u64 0, .int .u32 0, .slice none 0 0, .int .i64 0]) (t:=88) ?hr ?_;(case hd=>rfl);(case hg=>rfl);(case hr=>first|(go_simp;done)|(go_simp;rfl))
         intro av hg w48 hbox hb
         replace ac:=yVe ac hg hb
         replace aa:=ySb aa hb
         replace aJ:=yVe aJ hg hb
         replace bm:=yVe bm hg hb
         replace bn:=yRb bn hb
         have ay:=zm (hbox)
         have ch:=ygw hg
         have ci:=ygw hg
         replace HB:=ybs hb
         have aY:=ynl ae hg
         have aZ:=yng ae hg
         replace ae:=ybb ae hb
         have aE:=ynl af hg
         have aG:=yng af hg
         replace af:=ybb af hb
         have aW:=ynl ah hg
         have aX:=yng ah hg
         replace ah:=ybb ah hb
         clear hb hbox hg
         refine hK.out _ _ yH (fun hHeld => ?_)
         clear hK K
         refine ym (some 15) ?_
         exact norm_ (by simp only [putAll,Act.put,List.setIfInBounds_toArray,List.set_cons_zero,List.set_cons_succ]) (hCont (.slice fk bB.length fl,cv,bw,av) _ ⟨hHeld,(yV0 aJ),(yV0 bm),(yr bn),(yV0 ac),(yS0 aa),(yk ae),(yk af),(yk ah),(yk ay),ch.out,ci.out,aY.out,aZ.out,aE.out,aG.out,aW.out,aX.out,yhb⟩)
        skip
        refine box_step ?hg (N:=15) ?hd (cs := #[.int .u64 0, .int .u32 0, .slice none 0 0, .int .i64 0]) (t:=88) ?hr ?_;(case hd=>rfl);(case hg=>rfl);(case hr=>first|(go_simp;done)|(go_simp;rfl))
        intro av hg w46 hbox hb
        replace ac:=yVe ac hg hb
        replace aa:=ySb aa hb
        replace aJ:=yVe aJ hg hb
        have ay:=zm (hbox)
        have ch:=ygw hg
        have ci:=ygw hg
        replace HB:=ybs hb
        have aY:=ynl ae hg
        have aZ:=yng ae hg
        replace ae:=ybb ae hb
        have aE:=ynl af hg
        have aG:=yng af hg
        replace af:=ybb af hb
        have aW:=ynl ah hg
        have aX:=yng ah hg
        replace ah:=ybb ah hb
        clear hb hbox hg
        obtain ⟨dA,dB,dC⟩:=Kd.V_slice aJ.out
        (first|subst dC|(injection dC with f1_ f2_ f3_;have f4_:=f1_.symm;have f5_:=f3_.symm;clear f1_ f2_ f3_;subst f4_;subst f5_))
        refine hK.out _ _ yH (fun hHeld => ?_)
        clear hK K
        refine ym (some 15) ?_
        refine yw 6 78 HT_ (fun K hK => ?_)
        refine ygs Try.func56 #[.agg #[.int .u64 aA, .int .u32 aC, .slice cf ap.length cg, .int .i64 aD], .slice dA bB.length dB, .bool (aV == 1)] ?_
        with_reducible refine (gain_Take.calls k2 aA aC (fun k_=>((some k_≠(am : Value).ownBlock∧(k_≠al∧(k_≠aj∧k_≠ak)))∧k_≠av)) _ _ ap aD _ _ bB (aV == 1) bT bU bG bV bH cH _ ?bx ?ca ?cO A41.out).mono ?_
        (case bx=>exact ac.out)
        (case ca=>exact yce (Kd.V_reads' aJ.out).2.2)
        (case cO=>exact (Kd.V_reads' aJ.out).2.1)
        rintro e w48 ⟨cv,bw,rfl,ho0,ho1,hb⟩
        refine ⟨_,rfl, ?_⟩
        replace ac:=zm (Kd.V_elder' (yr ac) (Kd.R_base ho1) hb)
        replace aJ:=zm (Kd.V_elder' (yr aJ) (Kd.R_base ho1) hb)
        have bm:=yho (fun k_=>some k_≠(bw : Value).ownBlock∧some k_≠(am : Value).ownBlock∧k_≠al∧k_≠aj∧k_≠ak∧k_≠av) ho0 (fun k_ hk_=>⟨hk_.2,Or.elim hk_.1 (fun hs_=>hs_.1.1) (fun hn_=>(Kd.fresh' (Kd.S_lt (yr aa)) k_ hn_)),Or.elim hk_.1 (fun hs_=>hs_.1.2.1) (fun hn_=>(Kd.freshB (yk ae) k_ hn_)),Or.elim hk_.1 (fun hs_=>hs_.1.2.2.1) (fun hn_=>(Kd.freshB (yk af) k_ hn_)),Or.elim hk_.1 (fun hs_=>hs_.1.2.2.2) (fun hn_=>(Kd.freshB (yk ah) k_ hn_)),Or.elim hk_.1 (fun hs_=>hs_.2) (fun hn_=>(Kd.freshB (yk ay) k_ hn_))⟩)
        replace aa:=zm (Kd.S_elder' (yr aa) (Kd.R_base ho1) hb)
        have bn:=zm (Kd.R_lower (zG (ok' := fun k_=>True) ho1 (fun _ hk_=>trivial)) (zE yhb))
        replace ae:=ybb ae hb
        replace af:=ybb af hb
        replace ah:=ybb ah hb
        replace ay:=ybb ay hb
        replace HB:=ybs hb
        (try clear hb)
        (try clear ho0)
        (try clear ho1)
        refine hK.out _ _ yH (fun hHeld => ?_)
        clear hK K
        refine ym (some 78) ?_
        refine yp 7 71 HT_ ?_
        refine yp 8 79 HT_ ?_
        refine yp 9 80 HT_ ?_
        refine yp 10 81 HT_ ?_
        exact norm_ (by simp only [putAll,Act.put,List.setIfInBounds_toArray,List.set_cons_zero,List.set_cons_succ]) (hCont (.slice dA bB.length dB,cv,bw,av) _ ⟨hHeld,(yV0 aJ),(yr bm),(yr bn),(yV0 ac),(yS0 aa),(yk ae),(yk af),(yk ah),(yk ay),ch.out,ci.out,aY.out,aZ.out,aE.out,aG.out,aW.out,aX.out,yhb⟩)
       skip
       refine box_step ?hg (N:=15) ?hd (cs := #[.int .u64 0, .int .u32 0, .slice none 0 0, .int .i64 0]) (t:=88) ?hr ?_;(case hd=>rfl);(case hg=>rfl);(case hr=>first|(go_simp;done)|(go_simp;rfl))
       intro av hg w45 hbox hb
       replace ac:=yVe ac hg hb
       replace aa:=ySb aa hb
       have ay:=zm (hbox)
       have ch:=ygw hg
       have ci:=ygw hg
       replace HB:=ybs hb
       have aY:=ynl ae hg
       have aZ:=yng ae hg
       replace ae:=ybb ae hb
       have aE:=ynl af hg
       have aG:=yng af hg
       replace af:=ybb af hb
       have aW:=ynl ah hg
       have aX:=yng ah hg
       replace ah:=ybb ah hb
       clear hb hbox hg
       refine hK.out _ _ yH (fun hHeld => ?_)
       clear hK K
       refine ym (some 15) ?_
       refine yw 3 75 HT_ (fun K hK => ?_)
       refine ygs Try.func46 #[.slice A3 l3.length c3, .int .i64 b4] ?_
       with_reducible refine (cpack_of.calls (fun k_=>k_ < w.heap.size) _ _ l3 b4 bB _ ?bx A40.out).mono ?_
       (case bx=>exact Kd.V_mk HC3.out (Kd.F_below (Kd.C_F (Kd.heap_slice 3 (Kd.heap_int .i64)) HR3.out) yhb))
       rintro e w46 ⟨dk,rfl,ho0,hb⟩
       refine ⟨_,rfl, ?_⟩
       replace ac:=yVb ac hb
       have aJ:=yho (fun k_=>some k_≠(am : Value).ownBlock∧k_≠al∧k_≠aj∧k_≠ak∧k_≠av) ho0 (fun k_ hk_=>⟨yoS aa hk_,yoB ae hk_,yoB af hk_,yoB ah hk_,yoB ay hk_⟩)
       replace aa:=ySb aa hb
       replace ae:=ybb ae hb
       replace af:=ybb af hb
       replace ah:=ybb ah hb
       replace ay:=ybb ay hb
       replace HB:=ybs hb
       (try clear hb)
       (try clear ho0)
       obtain ⟨dA,dB,dC⟩:=Kd.V_slice aJ.out
       (first|subst dC|(injection dC with f1_ f2_ f3_;have f4_:=f1_.symm;have f5_:=f3_.symm;clear f1_ f2_ f3_;subst f4_;subst f5_))
       refine hK.out _ _ yH (fun hHeld => ?_)
       clear hK K
       refine ym (some 75) ?_
       refine yw 6 78 HT_ (fun K hK => ?_)
       refine ygs Try.func56 #[.agg #[.int .u64 aA, .int .u32 aC, .slice cf ap.length cg, .int .i64 aD], .slice dA bB.length dB, .bool (aV == 1)] ?_
       with_reducible refine (gain_Take.calls k2 aA aC (fun k_=>((some k_≠(am : Value).ownBlock∧(k_≠al∧(k_≠aj∧k_≠ak)))∧k_≠av)) _ _ ap aD _ _ bB (aV == 1) bT bU bG bV bH cH _ ?bx ?ca ?cO A41.out).mono ?_
       (case bx=>exact ac.out)
       (case ca=>exact yce (Kd.V_reads' aJ.out).2.2)
       (case cO=>exact (Kd.V_reads' aJ.out).2.1)
       rintro e w48 ⟨cv,bw,rfl,ho0,ho1,hb⟩
       refine ⟨_,rfl, ?_⟩
       replace ac:=zm (Kd.V_elder' (yr ac) (Kd.R_base ho1) hb)
       replace aJ:=zm (Kd.V_elder' (yr aJ) (Kd.R_base ho1) hb)
       have bm:=yho (fun k_=>some k_≠(bw : Value).ownBlock∧some k_≠(am : Value).ownBlock∧k_≠al∧k_≠aj∧k_≠ak∧k_≠av) ho0 (fun k_ hk_=>⟨hk_.2,Or.elim hk_.1 (fun hs_=>hs_.1.1) (fun hn_=>(Kd.fresh' (Kd.S_lt (yr aa)) k_ hn_)),Or.elim hk_.1 (fun hs_=>hs_.1.2.1) (fun hn_=>(Kd.freshB (yk ae) k_ hn_)),Or.elim hk_.1 (fun hs_=>hs_.1.2.2.1) (fun hn_=>(Kd.freshB (yk af) k_ hn_)),Or.elim hk_.1 (fun hs_=>hs_.1.2.2.2) (fun hn_=>(Kd.freshB (yk ah) k_ hn_)),Or.elim hk_.1 (fun hs_=>hs_.2) (fun hn_=>(Kd.freshB (yk ay) k_ hn_))⟩)
       replace aa:=zm (Kd.S_elder' (yr aa) (Kd.R_base ho1) hb)
       have bn:=zm (Kd.R_lower (zG (ok' := fun k_=>True) ho1 (fun _ hk_=>trivial)) (zE yhb))
       replace ae:=ybb ae hb
       replace af:=ybb af hb
       replace ah:=ybb ah hb
       replace ay:=ybb ay hb
       replace HB:=ybs hb
       (try clear hb)
       (try clear ho0)
       (try clear ho1)
       refine hK.out _ _ yH (fun hHeld => ?_)
       clear hK K
       refine ym (some 78) ?_
       refine yp 7 71 HT_ ?_
       refine yp 8 79 HT_ ?_
       refine yp 9 80 HT_ ?_
       refine yp 10 81 HT_ ?_
       exact norm_ (by simp only [putAll,Act.put,List.setIfInBounds_toArray,List.set_cons_zero,List.set_cons_succ]) (hCont (.slice dA bB.length dB,cv,bw,av) _ ⟨hHeld,(yV0 aJ),(yr bm),(yr bn),(yV0 ac),(yS0 aa),(yk ae),(yk af),(yk ah),(yk ay),ch.out,ci.out,aY.out,aZ.out,aE.out,aG.out,aW.out,aX.out,yhb⟩)
      rintro ⟨dk,cv,bw,av⟩ w49 ⟨hS_,h0_,h1_,h2_,h3_,h4_,h5_,h6_,h7_,h8_,h9_,fo,fp,fq,ft,fu,fv,fw,fx⟩
      have n0_ : Aside0 (Kd.V (Kd.int .i64) 3 w49 w.heap.size (fun k_=>some k_≠(bw : Value).ownBlock∧some k_≠(am : Value).ownBlock∧k_≠al∧k_≠aj∧k_≠ak∧k_≠av) dk bB):=⟨h0_⟩
      have n1_ : Aside0 (Kd.V (Kd.int .u8) 5 w49 w.heap.size (fun k_=>some k_≠(bw : Value).ownBlock∧some k_≠(am : Value).ownBlock∧k_≠al∧k_≠aj∧k_≠ak∧k_≠av) cv bG):=⟨h1_⟩
      have n2_ : Aside0 (Kd.R (Kd.int .i64) 3 w49 w.heap.size (fun _=>True) bw bH):=⟨h2_⟩
      have n3_ : Aside0 (Kd.V (Kd.int .u8) 5 w49 w.heap.size (fun k_=>some k_≠(bw : Value).ownBlock∧some k_≠(am : Value).ownBlock∧k_≠al∧k_≠aj∧k_≠ak∧k_≠av) (.slice cf ap.length cg) ap):=⟨h3_⟩
      have n4_ : Aside0 (Kd.S (Kd.slice 3 (Kd.int .i64)) 55 w49 w.heap.size (fun k_=>some k_≠(bw : Value).ownBlock) am ag):=⟨h4_⟩
      have n5_ : Aside0 (w49.heap[al]? = some (.cells #[.bool false, .slice none 0 0, .slice none 0 0] 31 (0,0))):=⟨h5_⟩
      have n6_ : Aside0 (w49.heap[aj]? = some (.cells #[.int .u64 aA, .int .u32 aC, .slice cf ap.length cg, .int .i64 aD] 88 (0,0))):=⟨h6_⟩
      have n7_ : Aside0 (w49.heap[ak]? = some (.cells #[.bool (aV == 1),am, .slice none 0 0] 31 (0,0))):=⟨h7_⟩
      have n8_ : Aside0 (w49.heap[av]? = some (.cells #[.int .u64 0, .int .u32 0, .slice none 0 0, .int .i64 0] 88 (0,0))):=⟨h8_⟩
      have n9_ : Aside0 (w.heap.size≤av):=⟨h9_⟩
      have fy : Aside0 (w.heap.size≤av):=⟨fo⟩
      have fz : Aside0 (al≠av):=⟨fp⟩
      have fA : Aside0 (av≠al):=⟨fq⟩
      have fB : Aside0 (aj≠av):=⟨ft⟩
      have fC : Aside0 (av≠aj):=⟨fu⟩
      have fD : Aside0 (ak≠av):=⟨fv⟩
      have fE : Aside0 (av≠ak):=⟨fw⟩
      have fF : Aside0 (Below w.heap.size w w49):=⟨fx⟩
      clear ac aa ae af ah HB h0_ h1_ h2_ h3_ h4_ h5_ h6_ h7_ h8_ h9_ fo fp fq ft fu fv fw fx;have aJ:=n0_;have bm:=n1_;have bn:=n2_;have ac:=n3_;have aa:=n4_;have ae:=n5_;have af:=n6_;have ah:=n7_;have ay:=n8_;have ch:=n9_;have ci:=fy;have aY:=fz;have aZ:=fA;have aE:=fB;have aG:=fC;have aW:=fD;have aX:=fE;have HB:=fF;clear n0_ n1_ n2_ n3_ n4_ n5_ n6_ n7_ n8_ n9_ fy fz fA fB fC fD fE fF
      have hHeld : w49.cell? ⟨aj,0,none⟩=some (.int .u64 aA)∧w49.cell? ⟨aj,1,none⟩=some (.int .u32 aC)∧w49.cell? ⟨aj,2,none⟩=some (.slice cf ap.length cg)∧w49.cell? ⟨aj,3,none⟩=some (.int .i64 aD)∧w49.cell? ⟨ak,0,none⟩=some (.bool (aV == 1))∧w49.cell? ⟨ak,1,none⟩=some (am)∧w49.cell? ⟨ak,2,none⟩=some (.slice none 0 0):=hS_
      obtain ⟨dD,dE,fG⟩:=Kd.V_slice bm.out
      (first|subst fG|(injection fG with f1_ f2_ f3_;have f4_:=f1_.symm;have f5_:=f3_.symm;clear f1_ f2_ f3_;subst f4_;subst f5_))
      refine norm_ (a' := ?_) ?_ ?_
      rotate_left
      ·
       simp only [putAll,Act.put,List.setIfInBounds_toArray,List.set_cons_zero,List.set_cons_succ]
       rfl
      refine yv 12 HT_ (fun K hK => ?_)
      have gZ : w49.cell? ⟨av,0,none⟩=some (.int .u64 0):=(zs ay.out 0).trans rfl
      have hfs50:=zx ay.out 0
      have:=aY.out
      have:=aE.out
      have:=aW.out
      have:=aZ.out
      have:=aG.out
      have:=aX.out
      have g7 : w49.cell? ⟨av,1,none⟩=some (.int .u32 0):=(zs ay.out 1).trans rfl
      have hfs51:=zx ay.out 1
      have:=aY.out
      have:=aE.out
      have:=aW.out
      have:=aZ.out
      have:=aG.out
      have:=aX.out
      have g8 : w49.cell? ⟨av,2,none⟩=some (.slice none 0 0):=(zs ay.out 2).trans rfl
      have hfs53:=zx ay.out 2
      have:=aY.out
      have:=aE.out
      have:=aW.out
      have:=aZ.out
      have:=aG.out
      have:=aX.out
      have g9 : w49.cell? ⟨av,3,none⟩=some (.int .i64 0):=(zs ay.out 3).trans rfl
      have hfs54:=zx ay.out 3
      have:=aY.out
      have:=aE.out
      have:=aW.out
      have:=aZ.out
      have:=aG.out
      have:=aX.out
      refine skip_ (w1 := ?_) (by rfl) rfl ?_ ?_
      rotate_left
      ·
       go_simp
       rfl
      refine hK.out _ _ yH (fun hHeld => ?_)
      clear hK K
      refine yp 13 16 HT_ ?_
      refine yp 14 17 HT_ ?_
      refine done_ (done_of HT_.out (by kernel_rfl)) ?_
      try go_wp2
      obtain ⟨w55,hw_⟩ : ∃ x,x=((((w49.setCell ⟨av,0,none⟩ (.int .u64 bT)).setCell ⟨av,1,none⟩ (.int .u32 bU)).setCell ⟨av,2,none⟩ (.slice dD bG.length dE)).setCell ⟨av,3,none⟩ (.int .i64 bV)):=⟨_,rfl⟩
      rw [← hw_]
      replace ac : Aside0 (Kd.V (Kd.int .u8) 5 w55 w.heap.size (fun k_=>some k_≠(am : Value).ownBlock∧some k_≠(bw : Value).ownBlock∧k_≠al∧k_≠aj∧k_≠ak∧k_≠av) (.slice cf ap.length cg) ap):=⟨by rw [hw_];exact (yV0 ac)⟩
      replace aa : Aside0 (Kd.S (Kd.slice 3 (Kd.int .i64)) 55 w55 w.heap.size (fun k_=>some k_≠(bw : Value).ownBlock) am ag):=⟨by rw [hw_];exact (yS1 aa ay)⟩
      replace aJ : Aside0 (Kd.V (Kd.int .i64) 3 w55 w.heap.size (fun k_=>some k_≠(am : Value).ownBlock∧some k_≠(bw : Value).ownBlock∧k_≠al∧k_≠aj∧k_≠ak∧k_≠av) dk bB):=⟨by rw [hw_];exact (yV0 aJ)⟩
      replace bm : Aside0 (Kd.V (Kd.int .u8) 5 w55 w.heap.size (fun k_=>some k_≠(am : Value).ownBlock∧some k_≠(bw : Value).ownBlock∧k_≠al∧k_≠aj∧k_≠ak∧k_≠av) (.slice dD bG.length dE) bG):=⟨by rw [hw_];exact (yV0 bm)⟩
      replace bn : Aside0 (Kd.R (Kd.int .i64) 3 w55 w.heap.size (fun _=>True) bw bH):=⟨by rw [hw_];exact (yR1 bn ay)⟩
      replace ae : Aside0 (w55.heap[al]? = some (.cells #[.bool false, .slice none 0 0, .slice none 0 0] 31 (0,0))):=⟨by rw [hw_];exact (yk ae)⟩
      replace af : Aside0 (w55.heap[aj]? = some (.cells #[.int .u64 aA, .int .u32 aC, .slice cf ap.length cg, .int .i64 aD] 88 (0,0))):=⟨by rw [hw_];exact (yk af)⟩
      replace ah : Aside0 (w55.heap[ak]? = some (.cells #[.bool (aV == 1),am, .slice none 0 0] 31 (0,0))):=⟨by rw [hw_];exact (yk ah)⟩
      replace ay : Aside0 (w55.heap[av]? = some (.cells #[.int .u64 bT, .int .u32 bU, .slice dD bG.length dE, .int .i64 bV] 88 (0,0))):=⟨by rw [hw_];exact (ykp ay)⟩
      replace HB : Aside0 (Below w.heap.size w w55):=⟨by rw [hw_];exact (yhb)⟩
      clear hw_
      replace ac:=zm (zC ac.out)
      replace aa:=zm (Kd.S_drew aa.out)
      replace aJ:=zm (zC aJ.out)
      replace bm:=zm (zC bm.out)
      replace bn:=zm (zq bn.out)
      replace ae:=zm (zj ae.out)
      replace af:=zm (zj af.out)
      replace ah:=zm (zj ah.out)
      replace ay:=zm (zj ay.out)
      replace HB:=zm (zf HB.out)
      obtain ⟨dF,dG,fH⟩:=Kd.R_slice bn.out
      (first|subst fH|(injection fH with f1_ f2_ f3_;have f4_:=f1_.symm;have f5_:=f3_.symm;clear f1_ f2_ f3_;subst f4_;subst f5_))
      refine yst (fun w' => w'.cell? ⟨av,0,none⟩=some (.int .u64 bT)∧w'.cell? ⟨av,1,none⟩=some (.int .u32 bU)∧w'.cell? ⟨av,2,none⟩=some (.slice dD bG.length dE)∧w'.cell? ⟨av,3,none⟩=some (.int .i64 bV)∧w'.cell? ⟨ak,0,none⟩=some (.bool (aV == 1))∧w'.cell? ⟨ak,1,none⟩=some (am)∧w'.cell? ⟨ak,2,none⟩=some (.slice none 0 0)) [8] 9 cpack_Read.tab15 cpack_Read.bits15 (fun hHeld HT_ HW_ => ?_)
      generalize w55.drew=w56 at ac aa aJ bm bn ae af ah ay HB hHeld ⊢
      refine yp 1 83 HT_ ?_
      refine yp 3 85 HT_ ?_
      refine yl 0 82 HT_ HW_ hHeld ?_
      refine yl 2 84 HT_ HW_ hHeld ?_
      refine yw 4 86 HT_ (fun K hK => ?_)
      refine value_ (w1 := ?_) (v := ?_) (by rfl) rfl ?_ ?_
      rotate_left 2
      ·
       go_simp
       constructor
       ·
        rfl
       rfl
      refine hK.out _ _ ⟨(zs (zi ay.out _) 0).trans rfl,(zs (zi ay.out _) 1).trans rfl,(zs (zi ay.out _) 2).trans rfl,(zs (zi ay.out _) 3).trans rfl,(zs (zi ah.out _) 0).trans rfl,(zs (zi ah.out _) 1).trans rfl,(zs (zi ah.out _) 2).trans rfl⟩ (fun hHeld => ?_)
      clear hK K
      refine ym (some 86) ?_
      refine yw 5 87 HT_ (fun K hK => ?_)
      refine Kd.S_append_step (Kd.slice 3 (Kd.int .i64)) (w0:=w) w.heap.size (by rfl) (.tmp 84) (.tmp 86) 25 55 (.slice none 0 0) 24 rfl Try.underlying25 info55 rfl (by decide) (by omega) am ag bH [.slice dF bH.length dG] (fun _=>True) (fun k_=>some k_=(.slice dF bH.length dG : Value).ownBlock) rfl rfl ?aP (fun k_ hk_=>((zG (ok' := fun k_=>((fun _=>True)) k_∧some k_≠(am : Value).ownBlock) (Kd.R_apart' (bn.out) (Kd.S_typed aa.out) (by decide)) (fun k_ hk=>⟨trivial,hk.2⟩))).1 k_ hk_.symm) ?aF ?aO ?aB ?aS ?aL ?_
      (case aP=>exact Kd.M_row (zG (Kd.R_tight rfl (zG (ok' := fun k_=>((fun _=>True)) k_∧some k_≠(am : Value).ownBlock) (Kd.R_apart' (bn.out) (Kd.S_typed aa.out) (by decide)) (fun k_ hk=>⟨trivial,hk.2⟩))) (fun _ h_=>h_)))
      (case aB=>exact yhb)
      (case aF=>exact (fun _ _=>trivial))
      (case aO=>exact (yS0 aa))
      (case aS=>exact (zE yhb))
      (case aL=>have:=LMc42.out;omega)
      intro gG w57 ho hb hg hat
      rw [← eT.out] at ho
      replace ac:=zm (Kd.V_afterv (ok:=(fun k_=>some k_≠(.slice dF bH.length dG : Value).ownBlock∧k_≠al∧k_≠aj∧k_≠ak∧k_≠av)) (yV0 ac) hg hat)
      replace ae:=zm (blk_grown (yk ae) hg (Kd.S_ne aa.out ae.out (by decide)))
      replace af:=zm (blk_grown (yk af) hg (Kd.S_ne aa.out af.out (by decide)))
      replace ah:=zm (blk_grown (yk ah) hg (Kd.S_ne aa.out ah.out (by decide)))
      replace aJ:=zm (Kd.V_afterv (ok:=(fun k_=>some k_≠(.slice dF bH.length dG : Value).ownBlock∧k_≠al∧k_≠aj∧k_≠ak∧k_≠av)) (yV0 aJ) hg hat)
      replace bm:=zm (Kd.V_afterv (ok:=(fun k_=>some k_≠(.slice dF bH.length dG : Value).ownBlock∧k_≠al∧k_≠aj∧k_≠ak∧k_≠av)) (yV0 bm) hg hat)
      replace ay:=zm (blk_grown (yk ay) hg (Kd.S_ne aa.out ay.out (by decide)))
      replace HB:=zm (hb)
      have dH:=zm (ho);clear aa bn ho hb hg hat
      obtain ⟨gw,gx,fI⟩:=Kd.S_slice dH.out
      (first|subst fI|(injection fI with f1_ f2_ f3_;have f4_:=f1_.symm;have f5_:=f3_.symm;clear f1_ f2_ f3_;subst f4_;subst f5_))
      refine hK.out _ _ yH (fun hHeld => ?_)
      clear hK K
      refine ym (some 87) ?_
      refine yv 6 HT_ (fun K hK => ?_)
      have hD : w57.cell? ⟨aj,0,none⟩=some (.int .u64 aA):=(zs af.out 0).trans rfl
      have hfs59:=zx af.out 0
      have:=bg.out
      have:=aN.out
      have:=aG.out
      have:=bh.out
      have:=aM.out
      have:=aE.out
      have hH : w57.cell? ⟨aj,1,none⟩=some (.int .u32 aC):=(zs af.out 1).trans rfl
      have hfs60:=zx af.out 1
      have:=bg.out
      have:=aN.out
      have:=aG.out
      have:=bh.out
      have:=aM.out
      have:=aE.out
      have hJ : w57.cell? ⟨aj,2,none⟩=some (.slice cf ap.length cg):=(zs af.out 2).trans rfl
      have hfs61:=zx af.out 2
      have:=bg.out
      have:=aN.out
      have:=aG.out
      have:=bh.out
      have:=aM.out
      have:=aE.out
      have hO : w57.cell? ⟨aj,3,none⟩=some (.int .i64 aD):=(zs af.out 3).trans rfl
      have hfs62:=zx af.out 3
      have:=bg.out
      have:=aN.out
      have:=aG.out
      have:=bh.out
      have:=aM.out
      have:=aE.out
      refine skip_ (w1 := ?_) (by rfl) rfl ?_ ?_
      rotate_left
      ·
       go_simp
       rfl
      refine hK.out _ _ yH (fun hHeld => ?_)
      clear hK K
      refine yp 7 88 HT_ ?_
      refine last_ (i:=8) (N:=none) #[true,true,true,true,true,true,true,true,true] rfl rfl (one_of HT_.out (by kernel_rfl)) (by decide) (fun K hK => ?_)
      have hU : w57.cell? ⟨ak,1,none⟩=some (am):=(zs ah.out 1).trans rfl
      have hfs64:=zx ah.out 1
      have:=bi.out
      have:=aM.out
      have:=aX.out
      have:=bj.out
      have:=aN.out
      have:=aW.out
      refine skip_ (w1 := ?_) (by rfl) rfl ?_ ?_
      rotate_left
      ·
       go_simp
       rfl
      refine hK.out _ _ ?_
      clear hK K
      refine done_ (done_of HT_.out (by kernel_rfl)) ?_
      try go_wp2
      go_roundg k2
      case measure=>exact yom2 cN HK2
      case rel=>exact ⟨(wrap64 (b4+1)),(bT),(bU),(bG),(bV),(dz),(.slice dD bG.length dE),(.slice gw dz.length gx),yq,H',⟨yom2 cN HK2⟩,⟨yV0 bm⟩,⟨yS2 dH af ah⟩,⟨yk ae⟩,⟨ykp af⟩,⟨ykp ah⟩,⟨yhb⟩⟩
     rw [if_neg c39] at H
     have eK:=yG c39
     clear c39
     replace H:=ybi H;obtain ⟨⟨ao,fJ⟩,A65,H⟩:=H
     try dsimp only at H
     have H' := zm H
     clear H
     have:=bj.out
     have:=bi.out
     have:=aN.out
     have:=aM.out
     obtain ⟨eC,eD,eE,eF,eG,eH⟩:=yc3 ah
     obtain ⟨bb,bc,gy⟩:=Kd.S_slice aa.out
     subst gy
     go_wp2_with (first|((with_reducible refine gate_callee (f:=37) rfl ?_);refine ygl 95 Try.func37 #[.int .i64 a0, .int .i64 a1, .slice bb ag.length bc] ?_;(with_reducible refine (alloc_Pulses.calls k2 a0 a1 _ _ ag ao fJ _ ?bx ?ca A65.out).mono ?_);(case bx=>exact yce (Kd.S_reads' aa.out).2.2);(case ca=>exact (Kd.S_reads' aa.out).2.1);rintro e w70 ⟨bQ,rfl,ho0,hb⟩;refine ⟨_,rfl, ?_⟩;replace ac:=zm (Kd.V_elder' (yr ac) (Kd.S_base ho0) hb);have eU:=zm (Kd.S_lower (Kd.S_new' ho0 (Kd.S_lt (yr aa))) (zE yhb));replace aa:=zm (Kd.S_elder' (yr aa) (Kd.S_base ho0) hb);replace ae:=ybb ae hb;replace af:=ybb af hb;replace ah:=ybb ah hb;replace HB:=ybs hb;(try clear hb);(try clear ho0)))
     go_loopg [99] k2 (fun kq v99 w' => ∃ (au : Int) (bL : Int) (bM : Int) (bN : List Int) (bO : Int) (aT : List (List (List Int))) (a7 : Value) (aQ : Value),v99=.int .i64 au∧Aside0 (cpack_Read.l1 kq ao a1 au bL bM bN bO (aV == 1) ag aT=some (r1,r2,r3,r4))∧Aside0 (kq≤k2)∧Aside0 (Kd.S (Kd.slice 3 (Kd.int .i64)) 55 w' w.heap.size (fun k_=>some k_≠((.slice bb ag.length bc) : Value).ownBlock) bQ ao)∧Aside0 (Kd.V (Kd.int .u8) 5 w' w.heap.size (fun k_=>some k_≠(bQ : Value).ownBlock∧some k_≠((.slice bb ag.length bc) : Value).ownBlock∧some k_≠(aQ : Value).ownBlock∧k_≠al∧k_≠aj∧k_≠ak) a7 bN)∧Aside0 (Kd.S (Kd.slice 3 (Kd.int .i64)) 55 w' w.heap.size (fun k_=>some k_≠(bQ : Value).ownBlock) (.slice bb ag.length bc) ag)∧Aside0 (Kd.R (Kd.slice 55 (Kd.slice 3 (Kd.int .i64))) 25 w' w.heap.size (fun k_=>some k_≠(bQ : Value).ownBlock∧some k_≠((.slice bb ag.length bc) : Value).ownBlock) aQ aT)∧Aside0 (w'.heap[al]? = some (.cells #[.bool false,(.slice none 0 0),(.slice none 0 0)] 31 (0,0)))∧Aside0 (w'.heap[aj]? = some (.cells #[.int .u64 bL, .int .u32 bM,a7, .int .i64 bO] 88 (0,0)))∧Aside0 (w'.heap[ak]? = some (.cells #[.bool (aV == 1),(.slice bb ag.length bc),aQ] 31 (0,0)))∧Aside0 (Below w.heap.size w w'))
     case atStart=>exact ⟨(0),(aA),(aC),(ap),(aD),(([] : List (List (List Int)))),(a7),(.slice none 0 0),yq,H',⟨Nat.le_refl _⟩,⟨yS0 eU⟩,⟨yV0 ac⟩,⟨yS0 aa⟩,⟨yn⟩,⟨yk ae⟩,⟨yk af⟩,⟨yk ah⟩,⟨yhb⟩⟩
     case round =>
      clear H'
      try clear eK
      try clear eC
      try clear eD
      try clear eE
      try clear eF
      try clear eG
      try clear eH
      obtain ⟨au,bL,bM,bN,bO,aT,a7,aQ,rfl,HA,HK3,aq,ac,aa,ai,ae,af,ah,HB⟩:=hrel
      obtain ⟨k3,rfl⟩:=ysu gk (fun h=>by subst h;exact absurd HA.out (by simp [cpack_Read.l1]))
      have H:=HA.out;clear HA
      simp only [cpack_Read.l1] at H
      by_cases c71 : au < a1
      ·
       rw [if_pos c71] at H
       have eL:=yD c71
       clear c71
       have H' := zm H
       clear H
       go_wp2
       go_loopg [21,102] k3 (fun kq v21 gz w' => ∃ (bC : List (List Int)) (aw : Int) (a8 : Int) (a9 : Int) (aU : List Int) (ba : Int) (a7 : Value),gz=.int .i64 aw∧Aside0 (cpack_Read.l2 kq ao au bC a1 au aw a8 a9 aU ba (aV == 1) ag aT=some (r1,r2,r3,r4))∧Aside0 (kq≤k3)∧Aside0 (Kd.S (Kd.slice 3 (Kd.int .i64)) 55 w' w.heap.size (fun k_=>some k_≠(v21 : Value).ownBlock∧some k_≠((.slice bb ag.length bc) : Value).ownBlock) bQ ao)∧Aside0 (Kd.S (Kd.slice 3 (Kd.int .i64)) 55 w' w.heap.size (fun k_=>some k_≠(bQ : Value).ownBlock∧some k_≠((.slice bb ag.length bc) : Value).ownBlock) v21 bC)∧Aside0 (Kd.V (Kd.int .u8) 5 w' w.heap.size (fun k_=>some k_≠(bQ : Value).ownBlock∧some k_≠(v21 : Value).ownBlock∧some k_≠((.slice bb ag.length bc) : Value).ownBlock∧some k_≠(aQ : Value).ownBlock∧k_≠al∧k_≠aj∧k_≠ak) a7 aU)∧Aside0 (Kd.S (Kd.slice 3 (Kd.int .i64)) 55 w' w.heap.size (fun k_=>some k_≠(bQ : Value).ownBlock∧some k_≠(v21 : Value).ownBlock) (.slice bb ag.length bc) ag)∧Aside0 (Kd.R (Kd.slice 55 (Kd.slice 3 (Kd.int .i64))) 25 w' w.heap.size (fun k_=>some k_≠(bQ : Value).ownBlock∧some k_≠(v21 : Value).ownBlock∧some k_≠((.slice bb ag.length bc) : Value).ownBlock) aQ aT)∧Aside0 (w'.heap[al]? = some (.cells #[.bool false,(.slice none 0 0),(.slice none 0 0)] 31 (0,0)))∧Aside0 (w'.heap[aj]? = some (.cells #[.int .u64 a8, .int .u32 a9,a7, .int .i64 ba] 88 (0,0)))∧Aside0 (w'.heap[ak]? = some (.cells #[.bool (aV == 1),(.slice bb ag.length bc),aQ] 31 (0,0)))∧Aside0 (Below w.heap.size w w'))
       case atStart=>exact ⟨(([] : List (List Int))),(0),(bL),(bM),(bN),(bO),(a7),yq,H',⟨Nat.le_refl _⟩,⟨yS0 aq⟩,⟨yn⟩,⟨yV0 ac⟩,⟨yS0 aa⟩,⟨yR0 ai⟩,⟨yk ae⟩,⟨yk af⟩,⟨yk ah⟩,⟨yhb⟩⟩
       case round =>
        clear H'
        try clear eL
        obtain ⟨bC,aw,a8,a9,aU,ba,a7,rfl,HA,HK4,aq,az,ac,aa,ai,ae,af,ah,HB⟩:=hrel
        obtain ⟨k4,rfl⟩:=ysu gk (fun h=>by subst h;exact absurd HA.out (by simp [cpack_Read.l2]))
        have H:=HA.out;clear HA
        simp only [cpack_Read.l2] at H
        by_cases c72 : aw < 5
        ·
         rw [if_pos c72] at H
         have fK:=yD c72
         clear c72
         replace H:=ybi H;obtain ⟨bF,A73,H⟩:=H
         replace H:=yif H;obtain ⟨c74,H⟩:=H
         have gH:=eq_true c74
         have gI : decide (0≤bF)=true:=decide_eq_true c74
         clear c74
         replace H:=yif H;obtain ⟨c75,H⟩:=H
         have gJ:=eq_true c75
         have gK : decide ((bF : Int).toNat≤35184372088832)=true:=decide_eq_true c75
         clear c75
         obtain ⟨bW,de⟩ : ∃ y_ : List Int,y_=(List.replicate (bF : Int).toNat 0):=⟨_,rfl⟩
         replace H : (if 0≤au then (if au < (ao.length : Int) then (if 0≤aw then (if aw < ((rd_L2 ao au).length : Int) then (if (rd (rd_L2 ao au) aw) > 0 then ((band_Width.f aw).bind fun cl=>((comb_Count.f cl (rd (rd_L2 ao au) aw)).bind fun db=>((coder_TakeNum.f k4 a8 a9 aU ba db.1).bind fun bE=>((band_Width.f aw).bind fun cm=>((comb_Vector.f k4 cm (rd (rd_L2 ao au) aw) bE.2.2.2.2.1).bind fun dc=>(if bC.length < 5864062014805 then (cpack_Read.l2 k4 ao au (bC ++ [dc.1]) a1 au (wrap64 (aw+1)) bE.1 bE.2.1 bE.2.2.1 bE.2.2.2.1 (aV == 1) ag aT) else (none))))))) else (if bC.length < 5864062014805 then (cpack_Read.l2 k4 ao au (bC ++ [bW]) a1 au (wrap64 (aw+1)) a8 a9 aU ba (aV == 1) ag aT) else (none))) else (none)) else (none)) else (none)) else (none))=some (r1,r2,r3,r4):=yrw de H
         have cL:=zm de;clear de
         replace H:=yif H;obtain ⟨c76,H⟩:=H
         have gL : decide (0≤au)=true:=decide_eq_true c76
         clear c76
         replace H:=yif H;obtain ⟨c77,H⟩:=H
         have gM : decide (au < (ao.length : Int))=true:=decide_eq_true c77
         clear c77
         replace H:=yif H;obtain ⟨c78,H⟩:=H
         have gN : decide (0≤aw)=true:=decide_eq_true c78
         clear c78
         replace H:=yif H;obtain ⟨c79,H⟩:=H
         have gO : decide (aw < ((rd_L2 ao au).length : Int))=true:=decide_eq_true c79
         clear c79
         by_cases c80 : (rd (rd_L2 ao au) aw) > 0
         ·
          rw [if_pos c80] at H
          have fL:=yDs c80
          clear c80
          replace H:=ybi H;obtain ⟨cl,A81,H⟩:=H
          replace H:=ybi H;obtain ⟨⟨dI,fM⟩,A82,H⟩:=H
          try dsimp only at H
          replace H:=ybi H;obtain ⟨⟨cw,cx,b5,cy,dJ,fN⟩,A83,H⟩:=H
          try dsimp only at H
          replace H:=ybi H;obtain ⟨cm,A84,H⟩:=H
          replace H:=ybi H;obtain ⟨⟨bI,fO⟩,A85,H⟩:=H
          try dsimp only at H
          replace H:=yif H;obtain ⟨c86,H⟩:=H
          have LMc86:=zm c86;clear c86
          obtain ⟨eM,df⟩ : ∃ y_ : List (List Int),y_=(bC ++ [bI]):=⟨_,rfl⟩
          replace H : (cpack_Read.l2 k4 ao au eM a1 au (wrap64 (aw+1)) cw cx b5 cy (aV == 1) ag aT)=some (r1,r2,r3,r4):=yrw df H
          have eV:=zm df;clear df
          have H' := zm H
          clear H
          try go_wp2_with (first|((with_reducible refine gate_callee (f:=48) rfl ?_);refine ygl 106 Try.func48 #[.int .i64 aw] ?_;(with_reducible refine (band_Width.calls aw bF _ A73.out).mono ?_);rintro e w87 ⟨rfl,hb⟩;refine ⟨_,rfl, ?_⟩;replace aq:=ySb aq hb;replace az:=ySb az hb;replace ac:=yVb ac hb;replace aa:=ySb aa hb;replace ai:=yRb ai hb;replace ae:=ybb ae hb;replace af:=ybb af hb;replace ah:=ybb ah hb;replace HB:=ybs hb;(try clear hb))|((with_reducible refine gate_dst (N:=107) rfl ?_);refine Kd.R_make (Kd.int .i64) _ 3 rfl (N:=107) rfl 55 _ _ rfl bF rfl rfl Try.underlying55 (.int .i64 0) 8 info3 rfl (by decide) (by omega) 0 (ok:=fun _=>True) (okp:=fun _=>True) rfl (fun _ hk=>hk) trivial (yt) (Nat.le_trans (Nat.mul_le_mul_right _ (yt : bF.toNat≤35184372088832)) (by omega)) (Below.refl _ _) (Nat.le_refl _) ?_;intro bo w88 cD hb hg_ hnew_;clear hg_ hnew_;(first|rw [← cL.out] at cD|(simp only [Int.reduceToNat] at cD;rw [← cL.out] at cD));replace aq:=zm (Kd.S_elder' (yr aq) (Kd.R_base cD) hb);replace az:=zm (Kd.S_elder' (yr az) (Kd.R_base cD) hb);replace ac:=zm (Kd.V_elder' (yr ac) (Kd.R_base cD) hb);replace aa:=zm (Kd.S_elder' (yr aa) (Kd.R_base cD) hb);replace ai:=zm (Kd.R_elder' (yr ai) (Kd.R_base cD) hb);have aK:=zm (Kd.R_lower cD (zE yhb));replace ae:=ybb ae hb;replace af:=ybb af hb;replace ah:=ybb ah hb;replace HB:=ybs hb;clear hb cD;obtain ⟨hX,bJ,gA⟩:=Kd.S_slice aq.out;subst gA;have cb : 0≤(au : Int):=yt;have ce : au < (ao.length : Int):=yt;obtain ⟨aH,eI,dl,dK,cz,bX,bY⟩:=at_L2 (Kd.S_reads' aq.out).2.2 au cb ce;cases dK;obtain ⟨ce1185,hce1185,hMe1185,hcc1185⟩:=Kd.S_get aq.out [] au cb (by first|exact ce|exact yt|(have e_:=(Kd.S_reads' aq.out).1;omega));obtain ⟨ve1185_0,rfl,ge1185_0⟩:=hMe1185;have hv1185_0:=hcc1185 0 _ rfl;rw [Nat.add_zero,show ((Kd.slice 3 (Kd.int .i64))).sz=1 from rfl,Nat.mul_one] at hv1185_0;replace hv1185_0:=Option.some.inj (hv1185_0.symm.trans cz);rw [hv1185_0] at ge1185_0;have ax:=zm (show Kd.R (Kd.int .i64) 3 _ _ _ _ (rd_L2 ao au) from ge1185_0);clear hv1185_0 ge1185_0;clear hcc1185 hce1185;have bd:=zm bY;have dL:=zm bX;clear bY bX;replace cb:=eq_true cb;replace ce:=eq_true ce;obtain ⟨dM,dN,dO,fP,fQ⟩:=yai bd aw;cases dN))
          replace aq:=zm (Kd.S_drew aq.out)
          replace az:=zm (Kd.S_drew az.out)
          replace ac:=zm (zC ac.out)
          replace aa:=zm (Kd.S_drew aa.out)
          replace ai:=zm (zq ai.out)
          replace aK:=zm (zq aK.out)
          replace ax:=zm (zq ax.out)
          replace ae:=zm (zj ae.out)
          replace af:=zm (zj af.out)
          replace ah:=zm (zj ah.out)
          replace bd:=zm (Kd.C_drew bd.out)
          replace HB:=zm (zf HB.out)
          have dm : 0≤(au : Int):=yt
          have dp : au < (ao.length : Int):=yt
          obtain ⟨eW,gj,dq,fR,cP,cQ,cR⟩:=at_L2 (Kd.S_reads' aq.out).2.2 au dm dp
          obtain rfl : aH=eW:=(by injection fR)
          obtain ⟨ce1188,hce1188,hMe1188,hcc1188⟩:=Kd.S_get aq.out [] au dm (by first|exact dp|exact yt|(have e_:=(Kd.S_reads' aq.out).1;omega))
          obtain ⟨ve1188_0,rfl,ge1188_0⟩:=hMe1188
          have hv1188_0:=hcc1188 0 _ rfl
          rw [Nat.add_zero,show ((Kd.slice 3 (Kd.int .i64))).sz=1 from rfl,Nat.mul_one] at hv1188_0
          replace hv1188_0:=Option.some.inj (hv1188_0.symm.trans cP)
          rw [hv1188_0] at ge1188_0
          have aI:=zm (show Kd.R (Kd.int .i64) 3 _ _ _ _ (rd_L2 ao au) from ge1188_0)
          clear hv1188_0 ge1188_0 hcc1188 hce1188;have bu:=zm cR;have fS:=zm cQ;clear cR cQ
          replace dm:=eq_true dm
          replace dp:=eq_true dp
          obtain ⟨dg,fT,dP,gP,gQ⟩:=yai bu aw
          cases fT
          refine yst (fun w' => w'.cell? (aH.add (au).toNat)=some (.slice (some dg) (rd_L2 ao au).length dq)∧w'.cell? (dg.add (aw).toNat)=some (.int .i64 (rd (rd_L2 ao au) aw))) [] 15 cpack_Read.tab27 cpack_Read.bits27 (fun hHeld HT_ HW_ => ?_)
          generalize w88.drew=w91 at aq az ac aa ai aK ax ae af ah bd HB aI bu cP dP hHeld ⊢
          refine yp 0 117 HT_ ?_
          refine yp 2 119 HT_ ?_
          refine yp 3 120 HT_ ?_
          refine yp 4 121 HT_ ?_
          refine yp 6 123 HT_ ?_
          refine yl 5 122 HT_ HW_ hHeld ?_
          refine yp 7 124 HT_ ?_
          refine yl 8 125 HT_ HW_ hHeld ?_
          refine yw 1 118 HT_ (fun K hK => ?_)
          refine ygs Try.func48 #[.int .i64 aw] ?_
          with_reducible refine (band_Width.calls aw cl _ A81.out).mono ?_
          rintro e w92 ⟨rfl,hb⟩
          have eX:=yhs hb hHeld.1
          have eY:=yhs hb hHeld.2
          refine ⟨_,rfl, ?_⟩
          replace aq:=ySb aq hb
          replace az:=ySb az hb
          replace ac:=yVb ac hb
          replace aa:=ySb aa hb
          replace ai:=yRb ai hb
          replace aK:=yRb aK hb
          replace ax:=yRb ax hb
          replace aI:=yRb aI hb
          replace ae:=ybb ae hb
          replace af:=ybb af hb
          replace ah:=ybb ah hb
          replace bd:=yCb bd hb
          replace bu:=yCb bu hb
          replace HB:=ybs hb
          (try clear hb)
          refine hK.out _ _ yH (fun hHeld => ?_)
          clear hK K
          refine ym (some 118) ?_
          refine yw 9 126 HT_ (fun K hK => ?_)
          refine ygs Try.func47 #[.int .i64 cl, .int .i64 (rd (rd_L2 ao au) aw)] ?_
          with_reducible refine (comb_Count.calls cl (rd (rd_L2 ao au) aw) dI fM _ A82.out).mono ?_
          rintro e w93 ⟨rfl,hb⟩
          have eX:=yhs hb hHeld.1
          have eY:=yhs hb hHeld.2
          refine ⟨_,rfl, ?_⟩
          replace aq:=ySb aq hb
          replace az:=ySb az hb
          replace ac:=yVb ac hb
          replace aa:=ySb aa hb
          replace ai:=yRb ai hb
          replace aK:=yRb aK hb
          replace ax:=yRb ax hb
          replace aI:=yRb aI hb
          replace ae:=ybb ae hb
          replace af:=ybb af hb
          replace ah:=ybb ah hb
          replace bd:=yCb bd hb
          replace bu:=yCb bu hb
          replace HB:=ybs hb
          (try clear hb)
          refine hK.out _ _ yH (fun hHeld => ?_)
          clear hK K
          refine ym (some 126) ?_
          refine yp 10 116 HT_ ?_
          refine yp 11 127 HT_ ?_
          refine yp 12 128 HT_ ?_
          refine yp 13 24 HT_ ?_
          refine yp 14 25 HT_ ?_
          refine done_ (done_of HT_.out (by kernel_rfl)) ?_
          have:=bh.out
          have:=bg.out
          have:=aM.out
          have:=aN.out
          obtain ⟨_,_,_,_,_,_,_,_⟩:=yc4 af
          obtain ⟨fU,fV,gB⟩:=Kd.V_slice ac.out
          subst gB
          try go_wp2_with (first|((with_reducible refine gate_callee (f:=57) rfl ?_);refine ygl 132 Try.func57 #[.agg #[.int .u64 a8, .int .u32 a9, .slice fU aU.length fV, .int .i64 ba], .int .u64 dI] ?_;(with_reducible refine (coder_TakeNum.calls k4 a8 a9 (fun k_=>((some k_≠(.slice (some aH) ao.length bJ : Value).ownBlock∧(some k_≠(u21 : Value).ownBlock∧(some k_≠(.slice bb ag.length bc : Value).ownBlock∧(some k_≠(aQ : Value).ownBlock∧(k_≠al∧(k_≠aj∧k_≠ak))))))∧some k_≠(bo : Value).ownBlock)) _ _ aU ba dI cw cx b5 cy dJ fN _ ac.out A83.out).mono ?_);rintro e w98 ⟨gR,rfl,ho0,hb⟩;refine ⟨_,rfl, ?_⟩;replace ac:=yVb ac hb;replace ax:=yRb ax hb;replace aI:=yRb aI hb;have bv:=yho (fun k_=>some k_≠(.slice (some aH) ao.length bJ : Value).ownBlock∧some k_≠(u21 : Value).ownBlock∧some k_≠(.slice bb ag.length bc : Value).ownBlock∧some k_≠(aQ : Value).ownBlock∧some k_≠(bo : Value).ownBlock∧k_≠al∧k_≠aj∧k_≠ak) ho0 (fun k_ hk_=>⟨yoS aq hk_,yoS az hk_,yoS aa hk_,yoR ai hk_,yoR aK hk_,yoB ae hk_,yoB af hk_,yoB ah hk_⟩);replace aq:=ySb aq hb;replace az:=ySb az hb;replace aa:=ySb aa hb;replace ai:=yRb ai hb;replace aK:=yRb aK hb;replace ae:=ybb ae hb;replace af:=ybb af hb;replace ah:=ybb ah hb;replace bd:=yCb bd hb;replace bu:=yCb bu hb;replace HB:=ybs hb;(try clear hb);(try clear ho0))|((with_reducible refine gate_dst (N:=26) rfl ?_);refine ybx 26 #[.int .u64 0, .int .u32 0, .slice none 0 0, .int .i64 0] 88 ?_;intro bP hg w99 hbox hb;replace aq:=ySb aq hb;replace az:=ySb az hb;replace ac:=yVe ac hg hb;replace aa:=ySb aa hb;replace ai:=yRb ai hb;replace aK:=yRb aK hb;replace ax:=yRb ax hb;replace aI:=yRb aI hb;replace bv:=yVe bv hg hb;replace bd:=yCb bd hb;replace bu:=yCb bu hb;have bf:=zm (hbox);have gC:=ygw hg;have gD:=ygw hg;replace HB:=ybs hb;have cS:=ynl ae hg;have cT:=yng ae hg;replace ae:=ybb ae hb;have cU:=ynl af hg;have cV:=yng af hg;replace af:=ybb af hb;have cW:=ynl ah hg;have cX:=yng ah hg;replace ah:=ybb ah hb;clear hb hbox hg;have:=cT.out;have:=cS.out;have:=cV.out;have:=cU.out;have:=cX.out;have:=cW.out;obtain ⟨_,_,_,_,_,_,_,_⟩:=yc4 bf;obtain ⟨cI,cJ,fW⟩:=Kd.V_slice bv.out;subst fW;obtain ⟨_,_,_,_,_,_,_,_⟩:=yc4 af))
          obtain ⟨b9,hw_⟩ : ∃ x,x=((((((((w99.setCell ⟨bP,0,none⟩ (.int .u64 cw)).setCell ⟨bP,1,none⟩ (.int .u32 cx)).setCell ⟨bP,2,none⟩ (.slice cI b5.length cJ)).setCell ⟨bP,3,none⟩ (.int .i64 cy)).setCell ⟨aj,0,none⟩ (.int .u64 cw)).setCell ⟨aj,1,none⟩ (.int .u32 cx)).setCell ⟨aj,2,none⟩ (.slice cI b5.length cJ)).setCell ⟨aj,3,none⟩ (.int .i64 cy)):=⟨_,rfl⟩
          rw [← hw_]
          replace aq : Aside0 (Kd.S (Kd.slice 3 (Kd.int .i64)) 55 b9 w.heap.size (fun k_=>some k_≠(u21 : Value).ownBlock∧some k_≠(.slice bb ag.length bc : Value).ownBlock∧some k_≠(bo : Value).ownBlock) (.slice (some aH) ao.length bJ) ao):=⟨by rw [hw_];exact (yS2 aq bf af)⟩
          replace az : Aside0 (Kd.S (Kd.slice 3 (Kd.int .i64)) 55 b9 w.heap.size (fun k_=>some k_≠(.slice (some aH) ao.length bJ : Value).ownBlock∧some k_≠(.slice bb ag.length bc : Value).ownBlock∧some k_≠(bo : Value).ownBlock) u21 bC):=⟨by rw [hw_];exact (yS2 az bf af)⟩
          replace ac : Aside0 (Kd.V (Kd.int .u8) 5 b9 w.heap.size (fun k_=>some k_≠(.slice (some aH) ao.length bJ : Value).ownBlock∧some k_≠(u21 : Value).ownBlock∧some k_≠(.slice bb ag.length bc : Value).ownBlock∧some k_≠(aQ : Value).ownBlock∧some k_≠(bo : Value).ownBlock∧k_≠al∧k_≠aj∧k_≠ak∧k_≠bP) (.slice fU aU.length fV) aU):=⟨by rw [hw_];exact (yV0 ac)⟩
          replace aa : Aside0 (Kd.S (Kd.slice 3 (Kd.int .i64)) 55 b9 w.heap.size (fun k_=>some k_≠(.slice (some aH) ao.length bJ : Value).ownBlock∧some k_≠(u21 : Value).ownBlock∧some k_≠(bo : Value).ownBlock) (.slice bb ag.length bc) ag):=⟨by rw [hw_];exact (yS2 aa bf af)⟩
          replace ai : Aside0 (Kd.R (Kd.slice 55 (Kd.slice 3 (Kd.int .i64))) 25 b9 w.heap.size (fun k_=>some k_≠(.slice (some aH) ao.length bJ : Value).ownBlock∧some k_≠(u21 : Value).ownBlock∧some k_≠(.slice bb ag.length bc : Value).ownBlock∧some k_≠(bo : Value).ownBlock) aQ aT):=⟨by rw [hw_];exact (yR2 ai bf af)⟩
          replace aK : Aside0 (Kd.R (Kd.int .i64) 3 b9 w.heap.size (fun _=>True) bo bW):=⟨by rw [hw_];exact (yR2 aK bf af)⟩
          replace ax : Aside0 (Kd.R (Kd.int .i64) 3 b9 w.heap.size (fun k_=>some k_≠(.slice (some aH) ao.length bJ : Value).ownBlock∧some k_≠(u21 : Value).ownBlock∧some k_≠(.slice bb ag.length bc : Value).ownBlock∧some k_≠(bo : Value).ownBlock) (.slice (some dM) (rd_L2 ao au).length dl) (rd_L2 ao au)):=⟨by rw [hw_];exact (yR2 ax bf af)⟩
          replace aI : Aside0 (Kd.R (Kd.int .i64) 3 b9 w.heap.size (fun k_=>some k_≠(.slice (some aH) ao.length bJ : Value).ownBlock∧some k_≠(u21 : Value).ownBlock∧some k_≠(.slice bb ag.length bc : Value).ownBlock∧some k_≠(bo : Value).ownBlock) (.slice (some dg) (rd_L2 ao au).length dq) (rd_L2 ao au)):=⟨by rw [hw_];exact (yR2 aI bf af)⟩
          replace bv : Aside0 (Kd.V (Kd.int .u8) 5 b9 w.heap.size (fun k_=>some k_≠(.slice (some aH) ao.length bJ : Value).ownBlock∧some k_≠(u21 : Value).ownBlock∧some k_≠(.slice bb ag.length bc : Value).ownBlock∧some k_≠(aQ : Value).ownBlock∧some k_≠(bo : Value).ownBlock∧k_≠al∧k_≠aj∧k_≠ak∧k_≠bP) (.slice cI b5.length cJ) b5):=⟨by rw [hw_];exact (yV0 bv)⟩
          replace ae : Aside0 (b9.heap[al]? = some (.cells #[.bool false, .slice none 0 0, .slice none 0 0] 31 (0,0))):=⟨by rw [hw_];exact (yk ae)⟩
          replace af : Aside0 (b9.heap[aj]? = some (.cells #[.int .u64 cw, .int .u32 cx, .slice cI b5.length cJ, .int .i64 cy] 88 (0,0))):=⟨by rw [hw_];exact (ykp af)⟩
          replace ah : Aside0 (b9.heap[ak]? = some (.cells #[.bool (aV == 1), .slice bb ag.length bc,aQ] 31 (0,0))):=⟨by rw [hw_];exact (yk ah)⟩
          replace bf : Aside0 (b9.heap[bP]? = some (.cells #[.int .u64 cw, .int .u32 cx, .slice cI b5.length cJ, .int .i64 cy] 88 (0,0))):=⟨by rw [hw_];exact (ykp bf)⟩
          replace HB : Aside0 (Below w.heap.size w b9):=⟨by rw [hw_];exact (yhb)⟩
          clear hw_
          replace aq:=zm (Kd.S_drew aq.out)
          replace az:=zm (Kd.S_drew az.out)
          replace ac:=zm (zC ac.out)
          replace aa:=zm (Kd.S_drew aa.out)
          replace ai:=zm (zq ai.out)
          replace aK:=zm (zq aK.out)
          replace ax:=zm (zq ax.out)
          replace aI:=zm (zq aI.out)
          replace bv:=zm (zC bv.out)
          replace ae:=zm (zj ae.out)
          replace af:=zm (zj af.out)
          replace ah:=zm (zj ah.out)
          replace bf:=zm (zj bf.out)
          replace HB:=zm (zf HB.out)
          have dr : 0≤(au : Int):=yt
          have dt : au < (ao.length : Int):=yt
          obtain ⟨eZ,gl,eJ,fX,cY,cZ,da⟩:=at_L2 (Kd.S_reads' aq.out).2.2 au dr dt
          obtain rfl : aH=eZ:=(by injection fX)
          obtain ⟨ce1202,hce1202,hMe1202,hcc1202⟩:=Kd.S_get aq.out [] au dr (by first|exact dt|exact yt|(have e_:=(Kd.S_reads' aq.out).1;omega))
          obtain ⟨ve1202_0,rfl,ge1202_0⟩:=hMe1202
          have hv1202_0:=hcc1202 0 _ rfl
          rw [Nat.add_zero,show ((Kd.slice 3 (Kd.int .i64))).sz=1 from rfl,Nat.mul_one] at hv1202_0
          replace hv1202_0:=Option.some.inj (hv1202_0.symm.trans cY)
          rw [hv1202_0] at ge1202_0
          have bz:=zm (show Kd.R (Kd.int .i64) 3 _ _ _ _ (rd_L2 ao au) from ge1202_0)
          clear hv1202_0 ge1202_0 hcc1202 hce1202;have bK:=zm da;have fY:=zm cZ;clear da cZ
          replace dr:=eq_true dr
          replace dt:=eq_true dt
          obtain ⟨dQ,fZ,dR,gS,gT⟩:=yai bK aw
          cases fZ
          refine yst (fun w' => w'.cell? (aH.add (au).toNat)=some (.slice (some dQ) (rd_L2 ao au).length eJ)∧w'.cell? (dQ.add (aw).toNat)=some (.int .i64 (rd (rd_L2 ao au) aw))) [] 15 cpack_Read.tab30 cpack_Read.bits30 (fun hHeld HT_ HW_ => ?_)
          generalize b9.drew=hY at aq az ac aa ai aK ax aI bv ae af ah bf HB bz bK cY dR hHeld ⊢
          refine yp 0 138 HT_ ?_
          refine yp 2 140 HT_ ?_
          refine yp 3 141 HT_ ?_
          refine yp 4 142 HT_ ?_
          refine yp 6 144 HT_ ?_
          refine yp 9 147 HT_ ?_
          refine yl 5 143 HT_ HW_ hHeld ?_
          refine yp 7 145 HT_ ?_
          refine yl 8 146 HT_ HW_ hHeld ?_
          refine yw 1 139 HT_ (fun K hK => ?_)
          refine ygs Try.func48 #[.int .i64 aw] ?_
          with_reducible refine (band_Width.calls aw cm _ A84.out).mono ?_
          rintro e ia ⟨rfl,hb⟩
          have eX:=yhs hb hHeld.1
          have eY:=yhs hb hHeld.2
          refine ⟨_,rfl, ?_⟩
          replace aq:=ySb aq hb
          replace az:=ySb az hb
          replace ac:=yVb ac hb
          replace aa:=ySb aa hb
          replace ai:=yRb ai hb
          replace aK:=yRb aK hb
          replace ax:=yRb ax hb
          replace aI:=yRb aI hb
          replace bv:=yVb bv hb
          replace bz:=yRb bz hb
          replace ae:=ybb ae hb
          replace af:=ybb af hb
          replace ah:=ybb ah hb
          replace bf:=ybb bf hb
          replace bK:=yCb bK hb
          replace HB:=ybs hb
          (try clear hb)
          refine hK.out _ _ yH (fun hHeld => ?_)
          clear hK K
          refine ym (some 139) ?_
          refine yw 10 148 HT_ (fun K hK => ?_)
          refine ygs Try.func58 #[.int .i64 cm, .int .i64 (rd (rd_L2 ao au) aw), .int .u64 dJ] ?_
          with_reducible refine (comb_Vector.calls k4 cm (rd (rd_L2 ao au) aw) dJ bI fO _ A85.out).mono ?_
          rintro e ib ⟨gU,rfl,ho0,hb⟩
          have eX:=yhs hb hHeld.1
          have eY:=yhs hb hHeld.2
          refine ⟨_,rfl, ?_⟩
          replace aq:=zm (Kd.S_elder' (yr aq) (Kd.R_base ho0) hb)
          replace az:=zm (Kd.S_elder' (yr az) (Kd.R_base ho0) hb)
          replace ac:=zm (Kd.V_elder' (yr ac) (Kd.R_base ho0) hb)
          replace aa:=zm (Kd.S_elder' (yr aa) (Kd.R_base ho0) hb)
          replace ai:=zm (Kd.R_elder' (yr ai) (Kd.R_base ho0) hb)
          replace bv:=zm (Kd.V_elder' (yr bv) (Kd.R_base ho0) hb)
          have cM:=zm (Kd.R_lower (Kd.R_new' (Kd.R_new' (Kd.R_new' (Kd.R_new' ho0 (Kd.R_lt (yr aK))) (Kd.R_lt (yr ax))) (Kd.R_lt (yr aI))) (Kd.R_lt (yr bz))) (zE yhb))
          replace aK:=zm (Kd.R_elder' (yr aK) (Kd.R_base ho0) hb)
          replace ax:=zm (Kd.R_elder' (yr ax) (Kd.R_base ho0) hb)
          replace aI:=zm (Kd.R_elder' (yr aI) (Kd.R_base ho0) hb)
          replace bz:=zm (Kd.R_elder' (yr bz) (Kd.R_base ho0) hb)
          replace ae:=ybb ae hb
          replace af:=ybb af hb
          replace ah:=ybb ah hb
          replace bf:=ybb bf hb
          replace bK:=yCb bK hb
          replace HB:=ybs hb
          (try clear hb)
          (try clear ho0)
          refine hK.out _ _ yH (fun hHeld => ?_)
          clear hK K
          refine ym (some 148) ?_
          refine yp 11 137 HT_ ?_
          refine yp 12 149 HT_ ?_
          refine yp 13 150 HT_ ?_
          refine yp 14 23 HT_ ?_
          refine done_ (done_of HT_.out (by kernel_rfl)) ?_
          obtain ⟨b6,b7,f5⟩:=Kd.R_slice cM.out
          subst f5
          try go_wp2_with (first|((with_reducible refine gate_builtin (b:=.append) (xs := #[.tmp 151, .tmp 153]) rfl ?_);at_builtin;refine Kd.S_append (Kd.slice 3 (Kd.int .i64)) (w0:=w) w.heap.size rfl (.tmp 151) (.tmp 153) 25 55 (.slice none 0 0) 24 rfl Try.underlying25 info55 rfl (by decide) (by omega) u21 bC bI [.slice b6 bI.length b7] (fun k_=>some k_≠(.slice (some aH) ao.length bJ : Value).ownBlock∧some k_≠(.slice bb ag.length bc : Value).ownBlock∧some k_≠(bo : Value).ownBlock) (fun k_=>some k_=(.slice b6 bI.length b7 : Value).ownBlock) rfl rfl ?aP (fun k_ hk_=>((zG (ok' := fun k_=>((fun k_=>some k_≠(.slice (some aH) ao.length bJ : Value).ownBlock∧some k_≠(.slice bb ag.length bc : Value).ownBlock∧some k_≠(bo : Value).ownBlock)) k_∧some k_≠(u21 : Value).ownBlock) (Kd.R_apart' (Kd.R_apart' (Kd.R_apart' (cM.out) (Kd.S_typed aq.out) (by decide)) (Kd.S_typed aa.out) (by decide)) (Kd.S_typed az.out) (by decide)) (fun k_ hk=>⟨⟨hk.1.1.2,⟨hk.1.2,hk.1.1.1.1.1.1.2⟩⟩,hk.2⟩))).1 k_ hk_.symm) ?aF ?aO ?aB ?aS ?aL ?_;(case aP=>exact Kd.M_row (zG (Kd.R_tight rfl (zG (ok' := fun k_=>((fun k_=>some k_≠(.slice (some aH) ao.length bJ : Value).ownBlock∧some k_≠(.slice bb ag.length bc : Value).ownBlock∧some k_≠(bo : Value).ownBlock)) k_∧some k_≠(u21 : Value).ownBlock) (Kd.R_apart' (Kd.R_apart' (Kd.R_apart' (cM.out) (Kd.S_typed aq.out) (by decide)) (Kd.S_typed aa.out) (by decide)) (Kd.S_typed az.out) (by decide)) (fun k_ hk=>⟨⟨hk.1.1.2,⟨hk.1.2,hk.1.1.1.1.1.1.2⟩⟩,hk.2⟩))) (fun _ h_=>h_)));(case aB=>exact yhb);(case aF=>exact (fun k_ hk=>⟨Kd.fresh' (Kd.S_lt (yr aq)) k_ hk,Kd.fresh' (Kd.S_lt (yr aa)) k_ hk,Kd.fresh' (Kd.R_lt (yr aK)) k_ hk⟩));(case aO=>exact (yS0 az));(case aS=>exact (zE yhb));(case aL=>have:=LMc86.out;omega);intro gV ic ho hb hg hat;rw [← eV.out] at ho;replace aq:=zm (Kd.S_after (ok:=(fun k_=>some k_≠(.slice bb ag.length bc : Value).ownBlock∧some k_≠(bo : Value).ownBlock∧some k_≠(.slice b6 bI.length b7 : Value).ownBlock)) (yS0 aq) hg hat);replace ac:=zm (Kd.V_afterv (ok:=(fun k_=>some k_≠(.slice (some aH) ao.length bJ : Value).ownBlock∧some k_≠(.slice bb ag.length bc : Value).ownBlock∧some k_≠(aQ : Value).ownBlock∧some k_≠(bo : Value).ownBlock∧some k_≠(.slice b6 bI.length b7 : Value).ownBlock∧k_≠al∧k_≠aj∧k_≠ak∧k_≠bP)) (yV0 ac) hg hat);replace aa:=zm (Kd.S_after (ok:=(fun k_=>some k_≠(.slice (some aH) ao.length bJ : Value).ownBlock∧some k_≠(bo : Value).ownBlock∧some k_≠(.slice b6 bI.length b7 : Value).ownBlock)) (yS0 aa) hg hat);replace ai:=zm (Kd.R_after (ok:=(fun k_=>some k_≠(.slice (some aH) ao.length bJ : Value).ownBlock∧some k_≠(.slice bb ag.length bc : Value).ownBlock∧some k_≠(bo : Value).ownBlock∧some k_≠(.slice b6 bI.length b7 : Value).ownBlock)) (yR0 ai) hg hat);replace ae:=zm (blk_grown (yk ae) hg (Kd.S_ne az.out ae.out (by decide)));replace af:=zm (blk_grown (yk af) hg (Kd.S_ne az.out af.out (by decide)));replace ah:=zm (blk_grown (yk ah) hg (Kd.S_ne az.out ah.out (by decide)));replace aK:=zm (Kd.R_over' (yr aK) (Kd.S_typed (yr az)) (by decide) hg);replace ax:=zm (Kd.R_after (ok:=(fun k_=>some k_≠(.slice (some aH) ao.length bJ : Value).ownBlock∧some k_≠(.slice bb ag.length bc : Value).ownBlock∧some k_≠(bo : Value).ownBlock∧some k_≠(.slice b6 bI.length b7 : Value).ownBlock)) (yR0 ax) hg hat);replace aI:=zm (Kd.R_after (ok:=(fun k_=>some k_≠(.slice (some aH) ao.length bJ : Value).ownBlock∧some k_≠(.slice bb ag.length bc : Value).ownBlock∧some k_≠(bo : Value).ownBlock∧some k_≠(.slice b6 bI.length b7 : Value).ownBlock)) (yR0 aI) hg hat);replace bv:=zm (Kd.V_afterv (ok:=(fun k_=>some k_≠(.slice (some aH) ao.length bJ : Value).ownBlock∧some k_≠(.slice bb ag.length bc : Value).ownBlock∧some k_≠(aQ : Value).ownBlock∧some k_≠(bo : Value).ownBlock∧some k_≠(.slice b6 bI.length b7 : Value).ownBlock∧k_≠al∧k_≠aj∧k_≠ak∧k_≠bP)) (yV0 bv) hg hat);replace bf:=zm (blk_grown (yk bf) hg (Kd.S_ne az.out bf.out (by decide)));replace bz:=zm (Kd.R_after (ok:=(fun k_=>some k_≠(.slice (some aH) ao.length bJ : Value).ownBlock∧some k_≠(.slice bb ag.length bc : Value).ownBlock∧some k_≠(bo : Value).ownBlock∧some k_≠(.slice b6 bI.length b7 : Value).ownBlock)) (yR0 bz) hg hat);replace HB:=zm (hb);have e8:=zm (ho);clear az;clear cM;clear ho hb hg hat))
          go_roundg k4
          case measure=>exact yom4 cN HK2 HK3 HK4
          case rel=>exact ⟨(eM),(wrap64 (aw+1)),(cw),(cx),(b5),(cy),(.slice cI b5.length cJ),yq,H',⟨yom4 cN HK2 HK3 HK4⟩,⟨yS0 aq⟩,⟨yS0 e8⟩,⟨yV0 bv⟩,⟨yS0 aa⟩,⟨yR0 ai⟩,⟨yk ae⟩,⟨yk af⟩,⟨yk ah⟩,⟨yhb⟩⟩
         rw [if_neg c80] at H
         have fL:=yGs c80
         clear c80
         replace H:=yif H;obtain ⟨f6,H⟩:=H
         have LMc112:=zm f6;clear f6
         obtain ⟨eN,dh⟩ : ∃ y_ : List (List Int),y_=(bC ++ [bW]):=⟨_,rfl⟩
         replace H : (cpack_Read.l2 k4 ao au eN a1 au (wrap64 (aw+1)) a8 a9 aU ba (aV == 1) ag aT)=some (r1,r2,r3,r4):=yrw dh H
         have e9:=zm dh;clear dh
         have H' := zm H
         clear H
         go_wp2_with (first|((with_reducible refine gate_callee (f:=48) rfl ?_);refine ygl 106 Try.func48 #[.int .i64 aw] ?_;(with_reducible refine (band_Width.calls aw bF _ A73.out).mono ?_);rintro e ie ⟨rfl,hb⟩;refine ⟨_,rfl, ?_⟩;replace aq:=ySb aq hb;replace az:=ySb az hb;replace ac:=yVb ac hb;replace aa:=ySb aa hb;replace ai:=yRb ai hb;replace ae:=ybb ae hb;replace af:=ybb af hb;replace ah:=ybb ah hb;replace HB:=ybs hb;(try clear hb))|((with_reducible refine gate_dst (N:=107) rfl ?_);refine Kd.R_make (Kd.int .i64) _ 3 rfl (N:=107) rfl 55 _ _ rfl bF rfl rfl Try.underlying55 (.int .i64 0) 8 info3 rfl (by decide) (by omega) 0 (ok:=fun _=>True) (okp:=fun _=>True) rfl (fun _ hk=>hk) trivial (yt) (Nat.le_trans (Nat.mul_le_mul_right _ (yt : bF.toNat≤35184372088832)) (by omega)) (Below.refl _ _) (Nat.le_refl _) ?_;intro bo ig b8 hb hg_ hnew_;clear hg_ hnew_;(first|rw [← cL.out] at b8|(simp only [Int.reduceToNat] at b8;rw [← cL.out] at b8));replace aq:=zm (Kd.S_elder' (yr aq) (Kd.R_base b8) hb);replace az:=zm (Kd.S_elder' (yr az) (Kd.R_base b8) hb);replace ac:=zm (Kd.V_elder' (yr ac) (Kd.R_base b8) hb);replace aa:=zm (Kd.S_elder' (yr aa) (Kd.R_base b8) hb);replace ai:=zm (Kd.R_elder' (yr ai) (Kd.R_base b8) hb);have aK:=zm (Kd.R_lower b8 (zE yhb));replace ae:=ybb ae hb;replace af:=ybb af hb;replace ah:=ybb ah hb;replace HB:=ybs hb;clear hb b8;obtain ⟨gW,cA,f7⟩:=Kd.S_slice aq.out;subst f7;have cb : 0≤(au : Int):=yt;have ce : au < (ao.length : Int):=yt;obtain ⟨aH,eI,dl,dK,cz,bX,bY⟩:=at_L2 (Kd.S_reads' aq.out).2.2 au cb ce;cases dK;obtain ⟨ce1185,hce1185,hMe1185,hcc1185⟩:=Kd.S_get aq.out [] au cb (by first|exact ce|exact yt|(have e_:=(Kd.S_reads' aq.out).1;omega));obtain ⟨ve1185_0,rfl,ge1185_0⟩:=hMe1185;have hv1185_0:=hcc1185 0 _ rfl;rw [Nat.add_zero,show ((Kd.slice 3 (Kd.int .i64))).sz=1 from rfl,Nat.mul_one] at hv1185_0;replace hv1185_0:=Option.some.inj (hv1185_0.symm.trans cz);rw [hv1185_0] at ge1185_0;have ax:=zm (show Kd.R (Kd.int .i64) 3 _ _ _ _ (rd_L2 ao au) from ge1185_0);clear hv1185_0 ge1185_0;clear hcc1185 hce1185;have bd:=zm bY;have dL:=zm bX;clear bY bX;replace cb:=eq_true cb;replace ce:=eq_true ce;obtain ⟨dM,dN,dO,fP,fQ⟩:=yai bd aw;cases dN;obtain ⟨cB,cC,f8⟩:=Kd.R_slice aK.out;subst f8)|((with_reducible refine gate_builtin (b:=.append) (xs := #[.tmp 151, .tmp 153]) rfl ?_);at_builtin;refine Kd.S_append (Kd.slice 3 (Kd.int .i64)) (w0:=w) w.heap.size rfl (.tmp 151) (.tmp 153) 25 55 (.slice none 0 0) 24 rfl Try.underlying25 info55 rfl (by decide) (by omega) u21 bC bW [.slice cB bW.length cC] (fun k_=>some k_≠(.slice (some aH) ao.length cA : Value).ownBlock∧some k_≠(.slice bb ag.length bc : Value).ownBlock) (fun k_=>some k_=(.slice cB bW.length cC : Value).ownBlock) rfl rfl ?aP (fun k_ hk_=>((zG (ok' := fun k_=>((fun k_=>some k_≠(.slice (some aH) ao.length cA : Value).ownBlock∧some k_≠(.slice bb ag.length bc : Value).ownBlock)) k_∧some k_≠(u21 : Value).ownBlock) (Kd.R_apart' (Kd.R_apart' (Kd.R_apart' (aK.out) (Kd.S_typed aq.out) (by decide)) (Kd.S_typed aa.out) (by decide)) (Kd.S_typed az.out) (by decide)) (fun k_ hk=>⟨⟨hk.1.1.2,hk.1.2⟩,hk.2⟩))).1 k_ hk_.symm) ?aF ?aO ?aB ?aS ?aL ?_;(case aP=>exact Kd.M_row (zG (Kd.R_tight rfl (zG (ok' := fun k_=>((fun k_=>some k_≠(.slice (some aH) ao.length cA : Value).ownBlock∧some k_≠(.slice bb ag.length bc : Value).ownBlock)) k_∧some k_≠(u21 : Value).ownBlock) (Kd.R_apart' (Kd.R_apart' (Kd.R_apart' (aK.out) (Kd.S_typed aq.out) (by decide)) (Kd.S_typed aa.out) (by decide)) (Kd.S_typed az.out) (by decide)) (fun k_ hk=>⟨⟨hk.1.1.2,hk.1.2⟩,hk.2⟩))) (fun _ h_=>h_)));(case aB=>exact yhb);(case aF=>exact (fun k_ hk=>⟨Kd.fresh' (Kd.S_lt (yr aq)) k_ hk,Kd.fresh' (Kd.S_lt (yr aa)) k_ hk⟩));(case aO=>exact (yS0 az));(case aS=>exact (zE yhb));(case aL=>have:=LMc112.out;omega);intro gX ii ho hb hg hat;rw [← e9.out] at ho;replace aq:=zm (Kd.S_after (ok:=(fun k_=>some k_≠(.slice bb ag.length bc : Value).ownBlock∧some k_≠(.slice cB bW.length cC : Value).ownBlock)) (yS0 aq) hg hat);replace ac:=zm (Kd.V_afterv (ok:=(fun k_=>some k_≠(.slice (some aH) ao.length cA : Value).ownBlock∧some k_≠(.slice bb ag.length bc : Value).ownBlock∧some k_≠(aQ : Value).ownBlock∧some k_≠(.slice cB bW.length cC : Value).ownBlock∧k_≠al∧k_≠aj∧k_≠ak)) (yV0 ac) hg hat);replace aa:=zm (Kd.S_after (ok:=(fun k_=>some k_≠(.slice (some aH) ao.length cA : Value).ownBlock∧some k_≠(.slice cB bW.length cC : Value).ownBlock)) (yS0 aa) hg hat);replace ai:=zm (Kd.R_after (ok:=(fun k_=>some k_≠(.slice (some aH) ao.length cA : Value).ownBlock∧some k_≠(.slice bb ag.length bc : Value).ownBlock∧some k_≠(.slice cB bW.length cC : Value).ownBlock)) (yR0 ai) hg hat);replace ae:=zm (blk_grown (yk ae) hg (Kd.S_ne az.out ae.out (by decide)));replace af:=zm (blk_grown (yk af) hg (Kd.S_ne az.out af.out (by decide)));replace ah:=zm (blk_grown (yk ah) hg (Kd.S_ne az.out ah.out (by decide)));replace ax:=zm (Kd.R_after (ok:=(fun k_=>some k_≠(.slice (some aH) ao.length cA : Value).ownBlock∧some k_≠(.slice bb ag.length bc : Value).ownBlock∧some k_≠(.slice cB bW.length cC : Value).ownBlock)) (yR0 ax) hg hat);replace HB:=zm (hb);have fa:=zm (ho);clear az;clear aK;clear ho hb hg hat))
         go_roundg k4
         case measure=>exact yom4 cN HK2 HK3 HK4
         case rel=>exact ⟨(eN),(wrap64 (aw+1)),(a8),(a9),(aU),(ba),(a7),yq,H',⟨yom4 cN HK2 HK3 HK4⟩,⟨yS0 aq⟩,⟨yr fa⟩,⟨yV0 ac⟩,⟨yS0 aa⟩,⟨yR0 ai⟩,⟨yk ae⟩,⟨yk af⟩,⟨yk ah⟩,⟨yhb⟩⟩
        rw [if_neg c72] at H
        have fK:=yG c72
        clear c72
        replace H:=yif H;obtain ⟨f9,H⟩:=H
        have LMc119:=zm f9;clear f9
        obtain ⟨dS,di⟩ : ∃ y_ : List (List (List Int)),y_=(aT ++ [bC]):=⟨_,rfl⟩
        replace H : (cpack_Read.l1 k4 ao a1 (wrap64 (au+1)) a8 a9 aU ba (aV == 1) ag dS)=some (r1,r2,r3,r4):=yrw di H
        have fb:=zm di;clear di
        have H' := zm H
        clear H
        have:=bj.out
        have:=bi.out
        have:=aN.out
        have:=aM.out
        obtain ⟨_,_,_,_,_,_⟩:=yc3 ah
        obtain ⟨eO,eP,ga⟩:=Kd.S_slice az.out
        subst ga
        go_wp2_with (first|((with_reducible refine gate_builtin (b:=.append) (xs := #[.tmp 157, .tmp 159]) rfl ?_);at_builtin;refine Kd.R_append (Kd.slice 55 (Kd.slice 3 (Kd.int .i64))) (w0:=w) w.heap.size rfl (.tmp 157) (.tmp 159) 29 25 (.slice none 0 0) 24 rfl Try.underlying29 info25 rfl (by decide) (by omega) aQ aT bC [.slice eO bC.length eP] (fun k_=>some k_≠(bQ : Value).ownBlock∧some k_≠(.slice bb ag.length bc : Value).ownBlock) (fun k_=>((fun k_=>some k_≠(bQ : Value).ownBlock∧some k_≠(.slice bb ag.length bc : Value).ownBlock)) k_∧some k_≠(aQ : Value).ownBlock) rfl rfl ?aP (fun _ hk=>hk) ?aF ?aO ?aB ?aS ?aL ?_;(case aP=>exact Kd.M_row (zG (Kd.R_apart' ((Kd.S_R az.out)) (Kd.R_typed ai.out) (by decide)) (fun k_ hk=>⟨⟨hk.1.1,hk.1.2⟩,hk.2⟩)));(case aB=>exact yhb);(case aF=>exact (fun k_ hk=>⟨Kd.fresh' (Kd.S_lt (yr aq)) k_ hk,Kd.fresh' (Kd.S_lt (yr aa)) k_ hk⟩));(case aO=>exact (yR0 ai));(case aS=>exact (zE yhb));(case aL=>have:=LMc119.out;omega);intro gY ij ho hb hg hat;rw [← fb.out] at ho;replace aq:=zm (Kd.S_over' (yr aq) (Kd.R_typed (yr ai)) (by decide) hg);replace ac:=zm (Kd.V_afterv (ok:=(fun k_=>some k_≠(bQ : Value).ownBlock∧some k_≠(.slice eO bC.length eP : Value).ownBlock∧some k_≠(.slice bb ag.length bc : Value).ownBlock∧k_≠al∧k_≠aj∧k_≠ak)) (yV0 ac) hg hat);replace aa:=zm (Kd.S_over' (yr aa) (Kd.R_typed (yr ai)) (by decide) hg);replace ae:=zm (blk_grown (yk ae) hg (zu ai.out ae.out (by decide)));replace af:=zm (blk_grown (yk af) hg (zu ai.out af.out (by decide)));replace ah:=zm (blk_grown (yk ah) hg (zu ai.out ah.out (by decide)));replace HB:=zm (hb);have dT:=zm (ho);clear ai;clear az;clear ho hb hg hat;obtain ⟨gc,ge,gf⟩:=Kd.R_slice dT.out;subst gf;obtain ⟨_,_,_,_,_,_⟩:=yc3 ah))
        go_roundg k4
        case measure=>exact yom4 cN HK2 HK3 HK4
        case rel=>exact ⟨(wrap64 (au+1)),(a8),(a9),(aU),(ba),(dS),(a7),(.slice gc dS.length ge),yq,H',⟨yom4 cN HK2 HK3 HK4⟩,⟨yS1 aq ah⟩,⟨yV0 ac⟩,⟨yS1 aa ah⟩,⟨yR1 dT ah⟩,⟨yk ae⟩,⟨yk af⟩,⟨ykp ah⟩,⟨yhb⟩⟩
      rw [if_neg c71] at H
      have eL:=yG c71
      clear c71
      simp only [Option.some.injEq,Prod.mk.injEq] at H
      obtain ⟨rfl,rfl,rfl,rfl⟩:=H
      have:=bj.out
      have:=bi.out
      have:=aN.out
      have:=aM.out
      obtain ⟨_,_,_,_,_,_⟩:=yc3 ah
      have:=bg.out
      have:=bh.out
      obtain ⟨_,_,_,_,_,_⟩:=yc3 ae
      obtain ⟨gg,gh,gi⟩:=Kd.R_slice ai.out
      subst gi
      go_wp2
      refine bodyPost_ret (results_ct rfl _ _ al 31 #[.bool (aV == 1), .slice bb ag.length bc, .slice gg aT.length gh] (0,0) _ rfl (ykp ae) Try.underlying31 rfl (by kernel_rfl)) rfl ?_
      exact ⟨_,_,ye,yS1 aa ae,yR1 ai ae,yhb⟩
  rw [if_neg c7] at H
  obtain ⟨fe,ff⟩:=yF c7
  simp only [Option.some.injEq,Prod.mk.injEq] at H
  obtain ⟨rfl,rfl,rfl,rfl⟩:=H
  go_enter Try.func16,Try.ntmps16
  go_wp2_with (first|((with_reducible refine gate_dst (N:=8) rfl ?_);refine ybx 8 #[.bool false, .slice none 0 0, .slice none 0 0] 31 ?_;intro al hg fc hbox hb;have ae:=zm (hbox);have dx:=ygw hg;have dy:=ygw hg;replace HB:=ybs hb;clear hb hbox hg)|((with_reducible refine gate_callee (f:=52) rfl ?_);refine ygl 31 Try.func52 #[.int .i64 a0, .int .i64 a1] ?_;(with_reducible refine (alloc_Right.calls a0 a1 true _ A5.out).mono ?_);rintro e w' ⟨rfl,⟨nd,rfl⟩⟩;refine ⟨_,rfl, ?_⟩;(try (rw [drewN_self fc];generalize hq_ : World.drewN fc _=fc;replace ae:=ykq hq_ ae;replace HB:=ysq hq_;clear hq_));obtain ⟨_,_,_,_,_,_⟩:=yc3 ae))
  refine bodyPost_ret (results_ct rfl _ _ al 31 #[.bool false, .slice none 0 0, .slice none 0 0] (0,0) _ rfl (ykp ae) Try.underlying31 rfl (by kernel_rfl)) rfl ?_
  exact ⟨_,_,ye,yn,yn,yhb⟩
 replace c6:=Bool.eq_false_iff.mpr c6
 subst c6
 rw [ynf] at H
 simp only [Option.some.injEq,Prod.mk.injEq] at H
 obtain ⟨rfl,rfl,rfl,rfl⟩:=H
 go_enter Try.func16,Try.ntmps16
 go_wp2_with (first|((with_reducible refine gate_dst (N:=8) rfl ?_);refine ybx 8 #[.bool false, .slice none 0 0, .slice none 0 0] 31 ?_;intro al hg fd hbox hb;have ae:=zm (hbox);have dx:=ygw hg;have dy:=ygw hg;replace HB:=ybs hb;clear hb hbox hg)|((with_reducible refine gate_callee (f:=52) rfl ?_);refine ygl 31 Try.func52 #[.int .i64 a0, .int .i64 a1] ?_;(with_reducible refine (alloc_Right.calls a0 a1 false _ A5.out).mono ?_);rintro e w' ⟨rfl,⟨nd,rfl⟩⟩;refine ⟨_,rfl, ?_⟩;(try (rw [drewN_self fd];generalize hq_ : World.drewN fd _=fd;replace ae:=ykq hq_ ae;replace HB:=ysq hq_;clear hq_));obtain ⟨_,_,_,_,_,_⟩:=yc3 ae))
 refine bodyPost_ret (results_ct rfl _ _ al 31 #[.bool false, .slice none 0 0, .slice none 0 0] (0,0) _ rfl (ykp ae) Try.underlying31 rfl (by kernel_rfl)) rfl ?_
 exact ⟨_,_,ye,yn,yn,yhb⟩
def comb_size.f (a0 : Int) : Option (Int):=if a0 < (-12) then (some 13) else (if a0 > 12 then (some 13) else (some (mx a0 (wrap64 (-a0)))))
set_option maxHeartbeats 8000000 in
set_option maxRecDepth 100000 in
theorem comb_size.calls (a0 : Int) (r : Int) (w : World) (h : comb_size.f a0=some r) :
  Calls Try.prog 91 #[.int .i64 a0] w fun e w' => e=.returned (.int .i64 r)∧Below w.heap.size w w' := by
 have HB:=zm (Below.refl w.heap.size w);have H:=h
 unfold comb_size.f at H
 clear h
 by_cases c2 : a0 < (-12)
 ·
  rw [if_pos c2] at H
  have ac:=yD c2
  clear c2
  obtain rfl:=Option.some.inj H
  go_enter Try.func91,Try.ntmps91
  go_wp2
  go_ret
  exact ⟨ye,yhb⟩
 rw [if_neg c2] at H
 have ac:=yG c2
 clear c2
 by_cases c3 : a0 > 12
 ·
  rw [if_pos c3] at H
  have ae:=yDs c3
  clear c3
  obtain rfl:=Option.some.inj H
  go_enter Try.func91,Try.ntmps91
  go_wp2
  go_ret
  exact ⟨ye,yhb⟩
 rw [if_neg c3] at H
 have ae:=yGs c3
 clear c3
 obtain ⟨ji4,aa⟩ : ∃ j_ : Int,(mx a0 (wrap64 (-a0)))=j_:=⟨_,rfl⟩
 (first|rw [aa] at H|simp only [aa] at H)
 have af : (if a0 < (wrap64 (-a0)) then (wrap64 (-a0)) else a0)=ji4:=aa
 obtain rfl:=Option.some.inj H
 go_enter Try.func91,Try.ntmps91
 go_wp2
 go_ret
 exact ⟨by first|rfl|(simp [errW_none,errW_some] <;> rfl)|(simp only [← aa];first|rfl|(simp [errW_none,errW_some] <;> rfl))|(simp [*,errW_none,errW_some] <;> rfl),yhb⟩
mutual
def comb_Index.j0 : Nat→List Int→Bool→Option (Int × Int)
 | 0,_,_=>none
 | k+1,x0,x21=>if x21=true then (some (0,1)) else (comb_Index.l0 k x0 0 x0 (x0.length : Int) 0)
def comb_Index.l0 : Nat→List Int→Int→List Int→Int→Int→Option (Int × Int)
 | 0,_,_,_,_,_=>none
 | k+1,x0,x4,x22,x23,x24=>if x24 < x23 then (if 0≤x24 then (if x24 < (x22.length : Int) then ((comb_size.f (rd x22 x24)).bind fun aw=>(comb_Index.l0 k x0 (wrap64 (x4+aw)) x22 x23 (wrap64 (x24+1)))) else (none)) else (none)) else (if x4 > 12 then (some (0,1)) else (comb_Index.l1 k x0 x4 0 x0 (x0.length : Int) 0))
def comb_Index.l1 : Nat→List Int→Int→Int→List Int→Int→Int→Option (Int × Int)
 | 0,_,_,_,_,_,_=>none
 | k+1,x0,x4,x8,x36,x37,x38=>if x38 < x37 then (if 0≤x38 then (if x38 < (x36.length : Int) then ((comb_size.f (rd x36 x38)).bind fun af=>(if af > 0 then ((comb_table.f (wrap64 ((wrap64 ((x0.length : Int) - x38)) - 1)) x4).bind fun aE=>(comb_Index.j3 k x0 x4 (IntKind.u64.wrap (x8+aE)) (rd x36 x38) (wrap64 ((wrap64 ((x0.length : Int) - x38)) - 1)) af x36 x37 x38)) else (comb_Index.j3 k x0 x4 x8 (rd x36 x38) (wrap64 ((wrap64 ((x0.length : Int) - x38)) - 1)) af x36 x37 x38))) else (none)) else (none)) else (some (x8,0))
def comb_Index.j3 : Nat→List Int→Int→Int→Int→Int→Int→List Int→Int→Int→Option (Int × Int)
 | 0,_,_,_,_,_,_,_,_,_=>none
 | k+1,x0,x4,x8,x10,x11,x12,x36,x37,x38=>comb_Index.l2 k x0 x4 x8 x10 x11 x12 1 x36 x37 x38
def comb_Index.l2 : Nat→List Int→Int→Int→Int→Int→Int→Int→List Int→Int→Int→Option (Int × Int)
 | 0,_,_,_,_,_,_,_,_,_,_=>none
 | k+1,x0,x4,x8,x10,x11,x12,x13,x36,x37,x38=>if x13 < x12 then ((comb_table.f x11 (wrap64 (x4 - x13))).bind fun aG=>(comb_Index.l2 k x0 x4 (IntKind.u64.wrap (x8+(IntKind.u64.wrap (2 * aG)))) x10 x11 x12 (wrap64 (x13+1)) x36 x37 x38)) else (if x10 < 0 then ((comb_table.f x11 (wrap64 (x4 - x12))).bind fun aH=>(comb_Index.l1 k x0 (wrap64 (x4 - x12)) (IntKind.u64.wrap (x8+aH)) x36 x37 (wrap64 (x38+1)))) else (comb_Index.l1 k x0 (wrap64 (x4 - x12)) x8 x36 x37 (wrap64 (x38+1))))
end
def comb_Index.f (k : Nat) (l0 : List Int) : Option (Int × Int):=if (l0.length : Int) < 1 then (comb_Index.j0 k l0 true) else (comb_Index.j0 k l0 (decide ((l0.length : Int) > 16)))
theorem comb_Index.mono_l : ∀ k,(∀ y0 y1,LeO (comb_Index.j0 k y0 y1) (comb_Index.j0 (k+1) y0 y1))∧(∀ y0 y1 y2 y3 y4,LeO (comb_Index.l0 k y0 y1 y2 y3 y4) (comb_Index.l0 (k+1) y0 y1 y2 y3 y4))∧(∀ y0 y1 y2 y3 y4 y5,LeO (comb_Index.l1 k y0 y1 y2 y3 y4 y5) (comb_Index.l1 (k+1) y0 y1 y2 y3 y4 y5))∧(∀ y0 y1 y2 y3 y4 y5 y6 y7 y8,LeO (comb_Index.j3 k y0 y1 y2 y3 y4 y5 y6 y7 y8) (comb_Index.j3 (k+1) y0 y1 y2 y3 y4 y5 y6 y7 y8))∧(∀ y0 y1 y2 y3 y4 y5 y6 y7 y8 y9,LeO (comb_Index.l2 k y0 y1 y2 y3 y4 y5 y6 y7 y8 y9) (comb_Index.l2 (k+1) y0 y1 y2 y3 y4 y5 y6 y7 y8 y9))
 | 0=>⟨fun _ _ r h=>by simp [comb_Index.j0] at h,fun _ _ _ _ _ r h=>by simp [comb_Index.l0] at h,fun _ _ _ _ _ _ r h=>by simp [comb_Index.l1] at h,fun _ _ _ _ _ _ _ _ _ r h=>by simp [comb_Index.j3] at h,fun _ _ _ _ _ _ _ _ _ _ r h=>by simp [comb_Index.l2] at h⟩
 | k+1=>by
  obtain ⟨ih0,ih1,ih2,ih3,ih4⟩:=comb_Index.mono_l k
  refine ⟨?_, ?_, ?_, ?_, ?_⟩
  ·
   intro y0 y1
   unfold comb_Index.j0
   repeat' with_reducible first|apply ih0|apply ih1|apply ih2|apply ih3|apply ih4|apply yLr|apply yLn|apply yLi|apply yLb|intro _
  ·
   intro y0 y1 y2 y3 y4
   unfold comb_Index.l0
   repeat' with_reducible first|apply ih0|apply ih1|apply ih2|apply ih3|apply ih4|apply yLr|apply yLn|apply yLi|apply yLb|intro _
  ·
   intro y0 y1 y2 y3 y4 y5
   unfold comb_Index.l1
   repeat' with_reducible first|apply ih0|apply ih1|apply ih2|apply ih3|apply ih4|apply yLr|apply yLn|apply yLi|apply yLb|intro _
  ·
   intro y0 y1 y2 y3 y4 y5 y6 y7 y8
   unfold comb_Index.j3
   repeat' with_reducible first|apply ih0|apply ih1|apply ih2|apply ih3|apply ih4|apply yLr|apply yLn|apply yLi|apply yLb|intro _
  intro y0 y1 y2 y3 y4 y5 y6 y7 y8 y9
  unfold comb_Index.l2
  repeat' with_reducible first|apply ih0|apply ih1|apply ih2|apply ih3|apply ih4|apply yLr|apply yLn|apply yLi|apply yLb|intro _
theorem comb_Index.mono : ∀ a0 k,LeO (comb_Index.f k a0) (comb_Index.f (k+1) a0):=by
 intro a0 k
 obtain ⟨ih0,ih1,ih2,ih3,ih4⟩:=comb_Index.mono_l k
 unfold comb_Index.f
 repeat' with_reducible first|apply ih0|apply ih1|apply ih2|apply ih3|apply ih4|apply yLr|apply yLn|apply yLi|apply yLb|intro _
set_option maxHeartbeats 8000000 in
set_option maxRecDepth 100000 in
theorem comb_Index.calls (k : Nat) (A0 : Option Addr) (c0 : Nat) (l0 : List Int) (r1 : Int) (r2 : Int) (w : World) (hr0 : Kd.C (Kd.int .i64) w A0 l0.length l0) (hc0 : l0.length≤c0) (h : comb_Index.f k l0=some (r1,r2)) :
  Calls Try.prog 49 #[.slice A0 l0.length c0] w fun e w' => e=.returned (.tuple #[.int .u64 r1, .int .i64 r2])∧Below w.heap.size w w' := by
 have HR0:=zm hr0;have HC0:=zm hc0;clear hr0 hc0;have HB:=zm (Below.refl w.heap.size w);have H:=h
 unfold comb_Index.f at H
 clear h;have HC2:=zm H;clear H
 go_enter Try.func49,Try.ntmps49
 go_upto_region 1 with (fail)
 go_cut [21] (fun v21 wc => ∃ (kq : Nat) (al : Bool),v21=.bool al∧Aside0 (comb_Index.j0 kq l0 al=some (r1,r2))∧Aside0 (kq≤k)∧Aside0 (Below w.heap.size w wc))
 case first =>
  have H:=HC2.out;clear HC2
  by_cases c3 : (l0.length : Int) < 1
  ·
   rw [if_pos c3] at H
   have aq:=yD c3
   have aU : decide (l0.length < 1)=true:=decide_eq_true (by omega)
   clear c3
   (first|rw [aq]|(simp only [i64_w,i32_w];rw [aq])|skip)
   have H' := zm H
   clear H
   go_wp2
   go_meet
   case rel=>exact ⟨_,(true),yq,H',⟨yo⟩,⟨yhb⟩⟩
  rw [if_neg c3] at H
  have aq:=yG c3
  have aU : decide (l0.length < 1)=false:=decide_eq_false (by omega)
  clear c3
  (first|rw [aq]|(simp only [i64_w,i32_w];rw [aq])|skip)
  have H' := zm H
  clear H
  go_wp2
  go_meet
  case rel=>exact ⟨_,(decide ((l0.length : Int) > 16)),yq,H',⟨yo⟩,⟨yhb⟩⟩
 case rest =>
  clear HC2
  obtain ⟨kq,al,rfl,HA,HJ1,HB⟩:=hcut
  obtain ⟨kj1,rfl⟩:=ysu kq (fun h=>by subst h;exact absurd HA.out (by simp [comb_Index.j0]))
  have H:=HA.out;clear HA
  simp only [comb_Index.j0] at H
  by_cases c4 : al=true
  ·
   subst c4
   rw [if_pos rfl] at H
   simp only [Option.some.injEq,Prod.mk.injEq] at H
   obtain ⟨rfl,rfl⟩:=H
   go_wp2
   go_ret2
   exact ⟨ye,yhb⟩
  replace c4:=Bool.eq_false_iff.mpr c4
  subst c4
  rw [ynf] at H
  have H' := zm H
  clear H
  go_wp2
  go_loopg [4,24] kj1 (fun kq v4 v24 w' => ∃ (aj : Int) (ac : Int),v4=.int .i64 aj∧v24=.int .i64 ac∧Aside0 (comb_Index.l0 kq l0 aj l0 (l0.length : Int) ac=some (r1,r2))∧Aside0 (kq≤kj1)∧Aside0 (Below w.heap.size w w'))
  case atStart=>exact ⟨(0),(0),yq,yq,H',⟨Nat.le_refl _⟩,⟨yhb⟩⟩
  case round =>
   clear H'
   obtain ⟨aj,ac,rfl,rfl,HA,HK2,HB⟩:=hrel
   obtain ⟨k2,rfl⟩:=ysu gk (fun h=>by subst h;exact absurd HA.out (by simp [comb_Index.l0]))
   have H:=HA.out;clear HA
   simp only [comb_Index.l0] at H
   by_cases c5 : ac < (l0.length : Int)
   ·
    rw [if_pos c5] at H
    have aJ:=yD c5
    clear c5
    replace H:=yif H;obtain ⟨c6,H⟩:=H
    have aV : decide (0≤ac)=true:=decide_eq_true c6
    clear c6
    replace H:=yif H;obtain ⟨c7,H⟩:=H
    have aW : decide (ac < (l0.length : Int))=true:=decide_eq_true c7
    clear c7
    replace H:=ybi H;obtain ⟨aw,A8,H⟩:=H
    have H' := zm H
    clear H
    have ax : 0≤(ac : Int):=yt
    have ay : ac < (l0.length : Int):=yt
    obtain ⟨aZ,aX,ag⟩:=Kd.at_int HR0.out ac ax ay
    cases aX
    replace ag:=yhx HB ag
    replace ax:=eq_true ax
    replace ay:=eq_true ay
    go_wp2_with (first|((with_reducible refine gate_callee (f:=91) rfl ?_);refine ygl 30 Try.func91 #[.int .i64 (rd l0 ac)] ?_;(with_reducible refine (comb_size.calls (rd l0 ac) aw _ A8.out).mono ?_);rintro e w9 ⟨rfl,hb⟩;refine ⟨_,rfl, ?_⟩;replace HB:=ybs hb;(try clear hb)))
    go_roundg k2
    case measure=>exact yom2 HJ1 HK2
    case rel=>exact ⟨(wrap64 (aj+aw)),(wrap64 (ac+1)),yq,yq,H',⟨yom2 HJ1 HK2⟩,⟨yhb⟩⟩
   rw [if_neg c5] at H
   have aJ:=yG c5
   clear c5
   by_cases c10 : aj > 12
   ·
    rw [if_pos c10] at H
    have aC:=yDs c10
    clear c10
    simp only [Option.some.injEq,Prod.mk.injEq] at H
    obtain ⟨rfl,rfl⟩:=H
    go_wp2
    go_ret2
    exact ⟨ye,yhb⟩
   rw [if_neg c10] at H
   have aC:=yGs c10
   clear c10
   obtain ⟨a9,au⟩ : ∃ y_ : List Int,y_=(([0] : List Int)):=⟨_,rfl⟩
   replace H : (comb_Index.l1 k2 l0 aj 0 l0 (l0.length : Int) 0)=some (r1,r2):=yrw au H
   have a7:=zm au;clear au
   have H' := zm H
   clear H
   obtain ⟨Z,hz,HZs⟩:=comb_table.zsize
   go_wp2_with (first|((with_reducible refine gate_callee (f:=89) rfl ?_);refine goesL_ (some 35) rfl rfl Try.func89 (by kernel_rfl) rfl #[] rfl (by first|rfl|simp) ?_;(with_reducible refine (comb_table.made _).mono ?_);rintro e w5 ⟨rfl,hb5⟩;refine ⟨_,rfl, ?_⟩;have hst:=run_storeCells_new (P:=Try.prog) w5 130 Z (ABl (comb_table.T 16)) comb_table.size16 HZs.out (ABl_one _);have n1_:=zm (ze (zJ yhb hb5) (.cells (ABl (comb_table.T 16)) 130));clear HB;have HB:=n1_;clear n1_;have hbn:=zm (blk_new w5 (.cells (ABl (comb_table.T 16)) 130))))
   have hb0:=HB.out
   obtain ⟨W0,hW0⟩ : ∃ W0,W0=w5.alloc (.cells (ABl (comb_table.T 16)) 130):=⟨_,rfl⟩
   rw [← hW0] at hb0 hbn
   rw [← hW0]
   clear hW0 HB hst hz HZs
   generalize w5.heap.size=B at hbn ⊢
   replace HR0:=zm (Kd.C_below HR0.out hb0)
   have HB:=zm (Below.refl W0.heap.size W0)
   go_loopg [4,8,38] k2 (fun kq v4 v8 v38 w' => ∃ (ak : Int) (av : Int) (aa : Int),v4=.int .i64 ak∧v8=.int .u64 av∧v38=.int .i64 aa∧Aside0 (comb_Index.l1 kq l0 ak av l0 (l0.length : Int) aa=some (r1,r2))∧Aside0 (kq≤k2)∧Aside0 (Below W0.heap.size W0 w'))
   case atStart=>exact ⟨(aj),(0),(0),yq,yq,yq,H',⟨Nat.le_refl _⟩,⟨yhb⟩⟩
   case round =>
    clear H'
    try clear aJ
    try clear aV
    try clear aW
    try clear aC
    try clear ag
    try clear ax
    try clear ay
    obtain ⟨ak,av,aa,rfl,rfl,rfl,HA,HK3,HB⟩:=hrel
    obtain ⟨k3,rfl⟩:=ysu gk (fun h=>by subst h;exact absurd HA.out (by simp [comb_Index.l1]))
    have H:=HA.out;clear HA
    simp only [comb_Index.l1] at H
    by_cases c13 : aa < (l0.length : Int)
    ·
     rw [if_pos c13] at H
     have aD:=yD c13
     clear c13
     replace H:=yif H;obtain ⟨c14,H⟩:=H
     have aK : decide (0≤aa)=true:=decide_eq_true c14
     clear c14
     replace H:=yif H;obtain ⟨c15,H⟩:=H
     have aM : decide (aa < (l0.length : Int))=true:=decide_eq_true c15
     clear c15
     replace H:=ybi H;obtain ⟨af,A16,H⟩:=H
     have aI:=zm H;clear H
     have az : 0≤(aa : Int):=yt
     have aA : aa < (l0.length : Int):=yt
     obtain ⟨a8,aY,ae⟩:=Kd.at_int HR0.out aa az aA
     cases aY
     replace ae:=(HB.out.cell (zb W0 _ ae)).trans ae
     replace az:=eq_true az
     replace aA:=eq_true aA
     go_upto_if 51 with (first|((with_reducible refine gate_callee (f:=91) rfl ?_);refine ygl 49 Try.func91 #[.int .i64 (rd l0 aa)] ?_;(with_reducible refine (comb_size.calls (rd l0 aa) af _ A16.out).mono ?_);rintro e w18 ⟨rfl,hb⟩;refine ⟨_,rfl, ?_⟩;replace HB:=ybs hb;(try clear hb)))
     (try simp only [Act.put,List.setIfInBounds_toArray,List.set_cons_zero,List.set_cons_succ])
     go_cut [8] (fun v8 wc => ∃ (kq : Nat) (am : Int),v8=.int .u64 am∧Aside0 (comb_Index.j3 kq l0 ak am (rd l0 aa) (wrap64 ((wrap64 ((l0.length : Int) - aa)) - 1)) af l0 (l0.length : Int) aa=some (r1,r2))∧Aside0 (kq≤k3)∧Aside0 (Below W0.heap.size W0 wc))
     case first =>
      have H:=aI.out;clear aI
      by_cases c19 : af > 0
      ·
       rw [if_pos c19] at H
       have ah:=yDs c19
       clear c19
       (first|rw [ah]|(simp only [i64_w,i32_w];rw [ah])|skip)
       replace H:=ybi H;obtain ⟨aE,A20,H⟩:=H
       have H' := zm H
       clear H
       obtain ⟨ia0,ib0,ic0,id0⟩:=comb_table.inn A20.out
       have hcl0:=(HB.out.cell (zb W0 _ (comb_table.look hbn.out A20.out))).trans (comb_table.look hbn.out A20.out)
       go_wp2
       go_meet
       case rel=>exact ⟨_,(IntKind.u64.wrap (av+aE)),yq,H',⟨yom3 HJ1 HK2 HK3⟩,⟨yhb⟩⟩
      rw [if_neg c19] at H
      have ah:=yGs c19
      clear c19
      (first|rw [ah]|(simp only [i64_w,i32_w];rw [ah])|skip)
      have H' := zm H
      clear H
      go_wp2
      go_meet
      case rel=>exact ⟨_,(av),yq,H',⟨yom3 HJ1 HK2 HK3⟩,⟨yhb⟩⟩
     case rest =>
      clear aI
      try clear aD
      try clear aK
      try clear aM
      try clear ae
      try clear az
      try clear aA
      obtain ⟨kq,am,rfl,HA,ao,HB⟩:=hcut
      obtain ⟨aN,rfl⟩:=ysu kq (fun h=>by subst h;exact absurd HA.out (by simp [comb_Index.j3]))
      have H:=HA.out;clear HA
      simp only [comb_Index.j3] at H
      have H' := zm H
      clear H
      go_wp2
      go_loopg [8,13] aN (fun kq v8 v13 w' => ∃ (ap : Int) (ai : Int),v8=.int .u64 ap∧v13=.int .i64 ai∧Aside0 (comb_Index.l2 kq l0 ak ap (rd l0 aa) (wrap64 ((wrap64 ((l0.length : Int) - aa)) - 1)) af ai l0 (l0.length : Int) aa=some (r1,r2))∧Aside0 (kq≤aN)∧Aside0 (Below W0.heap.size W0 w'))
      case atStart=>exact ⟨(am),(1),yq,yq,H',⟨Nat.le_refl _⟩,⟨yhb⟩⟩
      case round =>
       clear H'
       obtain ⟨ap,ai,rfl,rfl,HA,HK5,HB⟩:=hrel
       obtain ⟨k5,rfl⟩:=ysu gk (fun h=>by subst h;exact absurd HA.out (by simp [comb_Index.l2]))
       have H:=HA.out;clear HA
       simp only [comb_Index.l2] at H
       by_cases c21 : ai < af
       ·
        rw [if_pos c21] at H
        have aQ:=yD c21
        clear c21
        replace H:=ybi H;obtain ⟨aG,A22,H⟩:=H
        have H' := zm H
        clear H
        obtain ⟨ia1,ib1,ic1,id1⟩:=comb_table.inn A22.out
        have hcl1:=(HB.out.cell (zb W0 _ (comb_table.look hbn.out A22.out))).trans (comb_table.look hbn.out A22.out)
        go_wp2
        go_roundg k5
        case measure=>exact yom5 HJ1 HK2 HK3 ao HK5
        case rel=>exact ⟨(IntKind.u64.wrap (ap+(IntKind.u64.wrap (2 * aG)))),(wrap64 (ai+1)),yq,yq,H',⟨yom5 HJ1 HK2 HK3 ao HK5⟩,⟨yhb⟩⟩
       rw [if_neg c21] at H
       have aQ:=yG c21
       clear c21
       by_cases c23 : (rd l0 aa) < 0
       ·
        rw [if_pos c23] at H
        have aT:=yD c23
        clear c23
        replace H:=ybi H;obtain ⟨aH,A24,H⟩:=H
        have H' := zm H
        clear H
        obtain ⟨ia2,ib2,ic2,id2⟩:=comb_table.inn A24.out
        have hcl2:=(HB.out.cell (zb W0 _ (comb_table.look hbn.out A24.out))).trans (comb_table.look hbn.out A24.out)
        go_wp2
        go_roundg k5
        case measure=>exact yom5 HJ1 HK2 HK3 ao HK5
        case rel=>exact ⟨(wrap64 (ak - af)),(IntKind.u64.wrap (ap+aH)),(wrap64 (aa+1)),yq,yq,yq,H',⟨yom5 HJ1 HK2 HK3 ao HK5⟩,⟨yhb⟩⟩
       rw [if_neg c23] at H
       have aT:=yG c23
       clear c23
       have H' := zm H
       clear H
       go_wp2
       go_roundg k5
       case measure=>exact yom5 HJ1 HK2 HK3 ao HK5
       case rel=>exact ⟨(wrap64 (ak - af)),(ap),(wrap64 (aa+1)),yq,yq,yq,H',⟨yom5 HJ1 HK2 HK3 ao HK5⟩,⟨yhb⟩⟩
    rw [if_neg c13] at H
    have aD:=yG c13
    clear c13
    simp only [Option.some.injEq,Prod.mk.injEq] at H
    obtain ⟨rfl,rfl⟩:=H
    go_wp2
    go_ret2
    exact ⟨ye,zJ hb0 yhb⟩
mutual
def cpack_pulses.j0 : Nat→List Int→Int→Bool→Option (Bool)
 | 0,_,_,_=>none
 | k+1,x0,x2,x23=>if x23=true then (some false) else (cpack_pulses.l0 k x2 x0 (x0.length : Int) 0)
def cpack_pulses.l0 : Nat→Int→List Int→Int→Int→Option (Bool)
 | 0,_,_,_,_=>none
 | k+1,x2,x24,x25,x26=>if x26 < x25 then (if 0≤x26 then (if x26 < (x24.length : Int) then (cpack_pulses.l0 k (wrap64 (x2 - (mx (rd x24 x26) (wrap64 (-(rd x24 x26)))))) x24 x25 (wrap64 (x26+1))) else (none)) else (none)) else (some (x2 == 0))
end
def cpack_pulses.f (k : Nat) (l0 : List Int) (a1 : Int) (a2 : Int) : Option (Bool):=(comb_Index.f k l0).bind fun ak=>(if ak.2=0 then (cpack_pulses.j0 k l0 a2 ((l0.length : Int) != a1)) else (cpack_pulses.j0 k l0 a2 true))
theorem cpack_pulses.mono_l : ∀ k,(∀ y0 y1 y2,LeO (cpack_pulses.j0 k y0 y1 y2) (cpack_pulses.j0 (k+1) y0 y1 y2))∧(∀ y0 y1 y2 y3,LeO (cpack_pulses.l0 k y0 y1 y2 y3) (cpack_pulses.l0 (k+1) y0 y1 y2 y3))
 | 0=>⟨fun _ _ _ r h=>by simp [cpack_pulses.j0] at h,fun _ _ _ _ r h=>by simp [cpack_pulses.l0] at h⟩
 | k+1=>by
  obtain ⟨ih0,ih1⟩:=cpack_pulses.mono_l k
  refine ⟨?_, ?_⟩
  ·
   intro y0 y1 y2
   unfold cpack_pulses.j0
   repeat' with_reducible first|apply ih0|apply ih1|apply comb_Index.mono|apply yLr|apply yLn|apply yLi|apply yLb|intro _
  intro y0 y1 y2 y3
  unfold cpack_pulses.l0
  repeat' with_reducible first|apply ih0|apply ih1|apply comb_Index.mono|apply yLr|apply yLn|apply yLi|apply yLb|intro _
theorem cpack_pulses.mono : ∀ a0 a1 a2 k,LeO (cpack_pulses.f k a0 a1 a2) (cpack_pulses.f (k+1) a0 a1 a2):=by
 intro a0 a1 a2 k
 obtain ⟨ih0,ih1⟩:=cpack_pulses.mono_l k
 unfold cpack_pulses.f
 repeat' with_reducible first|apply ih0|apply ih1|apply comb_Index.mono|apply yLr|apply yLn|apply yLi|apply yLb|intro _
set_option maxHeartbeats 8000000 in
set_option maxRecDepth 100000 in
theorem cpack_pulses.calls (k : Nat) (A0 : Option Addr) (c0 : Nat) (l0 : List Int) (a1 : Int) (a2 : Int) (r : Bool) (w : World) (hr0 : Kd.C (Kd.int .i64) w A0 l0.length l0) (hc0 : l0.length≤c0) (h : cpack_pulses.f k l0 a1 a2=some r) :
  Calls Try.prog 59 #[.slice A0 l0.length c0, .int .i64 a1, .int .i64 a2] w fun e w' => e=.returned (.bool r)∧Below w.heap.size w w' := by
 have HR0:=zm hr0;have HC0:=zm hc0;clear hr0 hc0;have HB:=zm (Below.refl w.heap.size w);have H:=h
 unfold cpack_pulses.f at H
 clear h
 replace H:=ybi H;obtain ⟨⟨ap,al⟩,A4,H⟩:=H
 try dsimp only at H
 have HC5:=zm H;clear H
 go_enter Try.func59,Try.ntmps59
 go_upto_region 2 with (first|((with_reducible refine gate_callee (f:=49) rfl ?_);refine ygl 13 Try.func49 #[.slice A0 l0.length c0] ?_;(with_reducible refine (comb_Index.calls k _ _ l0 ap al _ ?am HC0.out A4.out).mono ?_);(case am=>exact yce HR0.out);rintro e w6 ⟨rfl,hb⟩;refine ⟨_,rfl, ?_⟩;replace HB:=ybs hb;(try clear hb)))
 (try simp only [Act.put,List.setIfInBounds_toArray,List.set_cons_zero,List.set_cons_succ])
 go_cut [23] (fun v23 wc => ∃ (kq : Nat) (ac : Bool),v23=.bool ac∧Aside0 (cpack_pulses.j0 kq l0 a2 ac=some r)∧Aside0 (kq≤k)∧Aside0 (Below w.heap.size w wc))
 case first =>
  have H:=HC5.out;clear HC5
  by_cases c7 : al=0
  ·
   rw [if_pos c7] at H
   obtain ⟨ag,aq⟩:=yE c7
   clear c7
   (first|rw [ag]|(simp only [i64_w,i32_w];rw [ag])|skip)
   have H' := zm H
   clear H
   go_wp2
   go_meet
   case rel=>exact ⟨_,(((l0.length : Int) != a1)),yq,H',⟨yo⟩,⟨yhb⟩⟩
  rw [if_neg c7] at H
  obtain ⟨ag,aq⟩:=yF c7
  (first|rw [ag]|(simp only [i64_w,i32_w];rw [ag])|skip)
  have H' := zm H
  clear H
  go_wp2
  go_meet
  case rel=>exact ⟨_,(true),yq,H',⟨yo⟩,⟨yhb⟩⟩
 case rest =>
  clear HC5
  obtain ⟨kq,ac,rfl,HA,HJ4,HB⟩:=hcut
  obtain ⟨kj4,rfl⟩:=ysu kq (fun h=>by subst h;exact absurd HA.out (by simp [cpack_pulses.j0]))
  have H:=HA.out;clear HA
  simp only [cpack_pulses.j0] at H
  by_cases c8 : ac=true
  ·
   subst c8
   rw [if_pos rfl] at H
   obtain rfl:=Option.some.inj H
   go_wp2
   go_ret
   exact ⟨ye,yhb⟩
  replace c8:=Bool.eq_false_iff.mpr c8
  subst c8
  rw [ynf] at H
  have H' := zm H
  clear H
  go_wp2
  go_loopg [2,26] kj4 (fun kq v2 v26 w' => ∃ (ah : Int) (aa : Int),v2=.int .i64 ah∧v26=.int .i64 aa∧Aside0 (cpack_pulses.l0 kq ah l0 (l0.length : Int) aa=some r)∧Aside0 (kq≤kj4)∧Aside0 (Below w.heap.size w w'))
  case atStart=>exact ⟨(a2),(0),yq,yq,H',⟨Nat.le_refl _⟩,⟨yhb⟩⟩
  case round =>
   clear H'
   obtain ⟨ah,aa,rfl,rfl,HA,HK2,HB⟩:=hrel
   obtain ⟨k2,rfl⟩:=ysu gk (fun h=>by subst h;exact absurd HA.out (by simp [cpack_pulses.l0]))
   have H:=HA.out;clear HA
   simp only [cpack_pulses.l0] at H
   by_cases c9 : aa < (l0.length : Int)
   ·
    rw [if_pos c9] at H
    have au:=yD c9
    clear c9
    replace H:=yif H;obtain ⟨c10,H⟩:=H
    have ax : decide (0≤aa)=true:=decide_eq_true c10
    clear c10
    replace H:=yif H;obtain ⟨c11,H⟩:=H
    have ay : decide (aa < (l0.length : Int))=true:=decide_eq_true c11
    clear c11
    obtain ⟨ao,ae⟩ : ∃ j_ : Int,(mx (rd l0 aa) (wrap64 (-(rd l0 aa))))=j_:=⟨_,rfl⟩
    (first|rw [ae] at H|simp only [ae] at H)
    have av : (if (rd l0 aa) < (wrap64 (-(rd l0 aa))) then (wrap64 (-(rd l0 aa))) else (rd l0 aa))=ao:=ae
    have H' := zm H
    clear H
    have ai : 0≤(aa : Int):=yt
    have aj : aa < (l0.length : Int):=yt
    obtain ⟨az,aw,af⟩:=Kd.at_int HR0.out aa ai aj
    cases aw
    replace af:=yhx HB af
    replace ai:=eq_true ai
    replace aj:=eq_true aj
    go_wp2
    go_roundg k2
    case measure=>exact yom2 HJ4 HK2
    case rel=>exact ⟨(wrap64 (ah - (ao))),(wrap64 (aa+1)),(by first|rfl|(simp;done)|(simp only [← ae] <;> (first|rfl|simp))|(simp [*];done)),yq,H',⟨yom2 HJ4 HK2⟩,⟨yhb⟩⟩
   rw [if_neg c9] at H
   have au:=yG c9
   clear c9
   obtain rfl:=Option.some.inj H
   go_wp2
   go_ret
   exact ⟨ye,yhb⟩
mutual
def cpack_Right.j0 : Nat→List (List Int)→Bool→Bool→List (List Int)→List (List (List Int))→Option (Bool)
 | 0,_,_,_,_,_=>none
 | k+1,x7,x29,bV,bW,aY=>if x29=true then (some false) else (cpack_Right.l0 k x7 aY (aY.length : Int) 0)
def cpack_Right.l0 : Nat→List (List Int)→List (List (List Int))→Int→Int→Option (Bool)
 | 0,_,_,_,_=>none
 | k+1,x7,x31,x32,x33=>if x33 < x32 then (if 0≤x33 then (if x33 < (x31.length : Int) then (if ((rd_L4 x31 x33).length : Int)=5 then (cpack_Right.l1 k x7 x33 x31 x32 x33 (rd_L4 x31 x33) ((rd_L4 x31 x33).length : Int) 0) else (some false)) else (none)) else (none)) else (some true)
def cpack_Right.l1 : Nat→List (List Int)→Int→List (List (List Int))→Int→Int→List (List Int)→Int→Int→Option (Bool)
 | 0,_,_,_,_,_,_,_,_=>none
 | k+1,x7,x9,x31,x32,x33,x41,x42,x43=>if x43 < x42 then (if 0≤x43 then (if x43 < (x41.length : Int) then ((band_Width.f x43).bind fun aH=>(if 0≤x9 then (if x9 < (x7.length : Int) then (if x43 < ((rd_L2 x7 x9).length : Int) then ((cpack_pulses.f k (rd_L2 x41 x43) aH (rd (rd_L2 x7 x9) x43)).bind fun bu=>(if bu=true then (cpack_Right.l1 k x7 x9 x31 x32 x33 x41 x42 (wrap64 (x43+1))) else (some false))) else (none)) else (none)) else (none))) else (none)) else (none)) else (cpack_Right.l0 k x7 x31 x32 (wrap64 (x33+1)))
end
def cpack_Right.f (k : Nat) (a0 : Int) (a1 : Int) (ay : Bool) (al : List (List Int)) (af : List (List (List Int))) : Option (Bool):=(alloc_Pulses.f k a0 a1 al).bind fun a8=>(if a8.2=0 then (cpack_Right.j0 k a8.1 ((af.length : Int) != a1) ay al af) else (cpack_Right.j0 k a8.1 true ay al af))
theorem cpack_Right.mono_l : ∀ k,(∀ y0 y1 y2 y3 y4,LeO (cpack_Right.j0 k y0 y1 y2 y3 y4) (cpack_Right.j0 (k+1) y0 y1 y2 y3 y4))∧(∀ y0 y1 y2 y3,LeO (cpack_Right.l0 k y0 y1 y2 y3) (cpack_Right.l0 (k+1) y0 y1 y2 y3))∧(∀ y0 y1 y2 y3 y4 y5 y6 y7,LeO (cpack_Right.l1 k y0 y1 y2 y3 y4 y5 y6 y7) (cpack_Right.l1 (k+1) y0 y1 y2 y3 y4 y5 y6 y7))
 | 0=>⟨fun _ _ _ _ _ r h=>by simp [cpack_Right.j0] at h,fun _ _ _ _ r h=>by simp [cpack_Right.l0] at h,fun _ _ _ _ _ _ _ _ r h=>by simp [cpack_Right.l1] at h⟩
 | k+1=>by
  obtain ⟨ih0,ih1,ih2⟩:=cpack_Right.mono_l k
  refine ⟨?_, ?_, ?_⟩
  ·
   intro y0 y1 y2 y3 y4
   unfold cpack_Right.j0
   repeat' with_reducible first|apply ih0|apply ih1|apply ih2|apply alloc_Pulses.mono|apply cpack_pulses.mono|apply yLr|apply yLn|apply yLi|apply yLb|intro _
  ·
   intro y0 y1 y2 y3
   unfold cpack_Right.l0
   repeat' with_reducible first|apply ih0|apply ih1|apply ih2|apply alloc_Pulses.mono|apply cpack_pulses.mono|apply yLr|apply yLn|apply yLi|apply yLb|intro _
  intro y0 y1 y2 y3 y4 y5 y6 y7
  unfold cpack_Right.l1
  repeat' with_reducible first|apply ih0|apply ih1|apply ih2|apply alloc_Pulses.mono|apply cpack_pulses.mono|apply yLr|apply yLn|apply yLi|apply yLb|intro _
theorem cpack_Right.mono : ∀ a0 a1 a2 a3 a4 k,LeO (cpack_Right.f k a0 a1 a2 a3 a4) (cpack_Right.f (k+1) a0 a1 a2 a3 a4):=by
 intro a0 a1 a2 a3 a4 k
 obtain ⟨ih0,ih1,ih2⟩:=cpack_Right.mono_l k
 unfold cpack_Right.f
 repeat' with_reducible first|apply ih0|apply ih1|apply ih2|apply alloc_Pulses.mono|apply cpack_pulses.mono|apply yLr|apply yLn|apply yLi|apply yLb|intro _
def cpack_Right.T12 : Bool × List (List Nat × List Nat):=(true, [([], []),([], []),([1], [1]),([], []),([], []),([3,4], [3,4]),([5], [5]),([], []),([6,7], [6,7]),([8], [8]),([0,2,9,2], [0,2,9]),([10], [10])])
def cpack_Right.B12 : List Nat := [0,0,2,0,0,24,56,0,248,504,1023,2047]
theorem cpack_Right.tab12 : rtab .any (opsOf Try.f17 12)=cpack_Right.T12:=by kernel_rfl
theorem cpack_Right.bits12 : waitsOk cpack_Right.T12.2 cpack_Right.B12=true:=by kernel_rfl
set_option maxHeartbeats 8000000 in
set_option maxRecDepth 100000 in
theorem cpack_Right.calls (k : Nat) (a0 : Int) (a1 : Int) (ay : Bool) (aN : Option Addr) (aQ : Nat) (al : List (List Int)) (a9 : Option Addr) (a7 : Nat) (af : List (List (List Int))) (r : Bool) (w : World) (hr2_1 : Kd.C (Kd.slice 3 (Kd.int .i64)) w aN al.length al) (hc2_1 : al.length≤aQ) (hr2_2 : Kd.C (Kd.slice 55 (Kd.slice 3 (Kd.int .i64))) w a9 af.length af) (hc2_2 : af.length≤a7) (h : cpack_Right.f k a0 a1 ay al af=some r) :
  Calls Try.prog 17 #[.int .i64 a0, .int .i64 a1, .agg #[.bool ay, .slice aN al.length aQ, .slice a9 af.length a7]] w fun e w' => e=.returned (.bool r)∧Below w.heap.size w w' := by
 have hu31:=Try.underlying31;have bM:=zm hr2_1;have bN:=zm hc2_1;clear hr2_1 hc2_1;have bn:=zm hr2_2;have b4:=zm hc2_2;clear hr2_2 hc2_2;have HB:=zm (Below.refl w.heap.size w);have H:=h
 unfold cpack_Right.f at H
 clear h
 replace H:=ybi H;obtain ⟨⟨aj,bO⟩,A4,H⟩:=H
 try dsimp only at H
 have HC5:=zm H;clear H
 go_enter Try.func17,Try.ntmps17
 go_upto_region 2 with (first|((with_reducible refine gate_dst (N:=5) rfl ?_);(try (refine gate_guard (by rfl) ?_;dsimp only));refine ybx 5 #[.bool ay, .slice aN al.length aQ, .slice a9 af.length a7] 31 ?_;intro ba hg w6 hbox hb;have ae:=zm (hbox);have b5:=ygw hg;have b6:=ygw hg;replace HB:=ybs hb;clear hb hbox hg;obtain ⟨bv,bw,bx,bz,bA,bB⟩:=yc3 ae)|((with_reducible refine gate_callee (f:=37) rfl ?_);refine ygl 18 Try.func37 #[.int .i64 a0, .int .i64 a1, .slice aN al.length aQ] ?_;(with_reducible refine (alloc_Pulses.calls k a0 a1 _ _ al aj bO _ ?aI bN.out A4.out).mono ?_);(case aI=>exact ycb bM);rintro e w8 ⟨bC,rfl,ho0,hb⟩;refine ⟨_,rfl, ?_⟩;have bo:=zm (Kd.S_lower ho0 (zE yhb));replace ae:=ybb ae hb;replace HB:=ybs hb;(try clear hb);(try clear ho0)))
 (try simp only [Act.put,List.setIfInBounds_toArray,List.set_cons_zero,List.set_cons_succ])
 go_cut [29] (fun v29 wc => ∃ (kq : Nat) (aZ : Bool),v29=.bool aZ∧Aside0 (cpack_Right.j0 kq aj aZ ay al af=some r)∧Aside0 (kq≤k)∧Aside0 (Kd.S (Kd.slice 3 (Kd.int .i64)) 55 wc w.heap.size (fun _=>True) bC aj)∧Aside0 (wc.heap[ba]? = some (.cells #[.bool ay,(.slice aN al.length aQ),(.slice a9 af.length a7)] 31 (0,0)))∧Aside0 (Below w.heap.size w wc))
 case first =>
  have H:=HC5.out;clear HC5
  by_cases c9 : bO=0
  ·
   rw [if_pos c9] at H
   obtain ⟨bb,bX⟩:=yE c9
   clear c9
   (first|rw [bb]|(simp only [i64_w,i32_w];rw [bb])|skip)
   have H' := zm H
   clear H
   obtain ⟨_,_,_,_,_,_⟩:=yc3 ae
   go_wp2
   go_meet
   case rel=>exact ⟨_,(((af.length : Int) != a1)),yq,H',⟨yo⟩,⟨yr bo⟩,⟨yk ae⟩,⟨yhb⟩⟩
  rw [if_neg c9] at H
  obtain ⟨bb,bX⟩:=yF c9
  (first|rw [bb]|(simp only [i64_w,i32_w];rw [bb])|skip)
  have H' := zm H
  clear H
  go_wp2
  go_meet
  case rel=>exact ⟨_,(true),yq,H',⟨yo⟩,⟨yr bo⟩,⟨yk ae⟩,⟨yhb⟩⟩
 case rest =>
  clear HC5
  try clear bv
  try clear bw
  try clear bx
  try clear bz
  try clear bA
  try clear bB
  obtain ⟨kq,aZ,rfl,HA,HJ4,ai,ae,HB⟩:=hcut
  obtain ⟨kj4,rfl⟩:=ysu kq (fun h=>by subst h;exact absurd HA.out (by simp [cpack_Right.j0]))
  have H:=HA.out;clear HA
  simp only [cpack_Right.j0] at H
  by_cases c11 : aZ=true
  ·
   subst c11
   rw [if_pos rfl] at H
   obtain rfl:=Option.some.inj H
   go_wp2
   go_ret
   exact ⟨ye,yhb⟩
  replace c11:=Bool.eq_false_iff.mpr c11
  subst c11
  rw [ynf] at H
  have H' := zm H
  clear H
  obtain ⟨bf,bg,bh,bi,bj,bk⟩:=yc3 ae
  go_wp2
  go_loopg [33] kj4 (fun kq v33 w' => ∃ (aa : Int),v33=.int .i64 aa∧Aside0 (cpack_Right.l0 kq aj af (af.length : Int) aa=some r)∧Aside0 (kq≤kj4)∧Aside0 (Kd.S (Kd.slice 3 (Kd.int .i64)) 55 w' w.heap.size (fun _=>True) bC aj)∧Aside0 (w'.heap[ba]? = some (.cells #[.bool ay,(.slice aN al.length aQ),(.slice a9 af.length a7)] 31 (0,0)))∧Aside0 (Below w.heap.size w w'))
  case atStart=>exact ⟨(0),yq,H',⟨Nat.le_refl _⟩,⟨yr ai⟩,⟨yk ae⟩,⟨yhb⟩⟩
  case round =>
   clear H'
   try clear bf
   try clear bg
   try clear bh
   try clear bi
   try clear bj
   try clear bk
   obtain ⟨aa,rfl,HA,HK2,ai,ae,HB⟩:=hrel
   obtain ⟨k2,rfl⟩:=ysu gk (fun h=>by subst h;exact absurd HA.out (by simp [cpack_Right.l0]))
   have H:=HA.out;clear HA
   simp only [cpack_Right.l0] at H
   by_cases c13 : aa < (af.length : Int)
   ·
    rw [if_pos c13] at H
    have bp:=yD c13
    clear c13
    replace H:=yif H;obtain ⟨c14,H⟩:=H
    have bP : decide (0≤aa)=true:=decide_eq_true c14
    clear c14
    replace H:=yif H;obtain ⟨c15,H⟩:=H
    have bQ : decide (aa < (af.length : Int))=true:=decide_eq_true c15
    clear c15
    by_cases c16 : ((rd_L4 af aa).length : Int)=5
    ·
     rw [if_pos c16] at H
     obtain ⟨bq,br⟩:=yE c16
     clear c16
     have H' := zm H
     clear H
     have aJ : 0≤(aa : Int):=yt
     have aK : aa < (af.length : Int):=yt
     obtain ⟨bs,bD,bE,bF,ak,am,ao⟩:=at_L4 bn.out aa aJ aK
     cases bF
     replace ak:=yhx HB ak
     have az:=zm ao;have bl:=zm am;clear ao am
     replace aJ:=eq_true aJ
     replace aK:=eq_true aK
     go_wp2
     go_loopg [43] k2 (fun kq v43 w' => ∃ (ac : Int),v43=.int .i64 ac∧Aside0 (cpack_Right.l1 kq aj aa af (af.length : Int) aa (rd_L4 af aa) ((rd_L4 af aa).length : Int) ac=some r)∧Aside0 (kq≤k2)∧Aside0 (Kd.S (Kd.slice 3 (Kd.int .i64)) 55 w' w.heap.size (fun _=>True) bC aj)∧Aside0 (w'.heap[ba]? = some (.cells #[.bool ay,(.slice aN al.length aQ),(.slice (some bs) af.length a7)] 31 (0,0)))∧Aside0 (Below w.heap.size w w'))
     case atStart=>exact ⟨(0),yq,H',⟨Nat.le_refl _⟩,⟨yr ai⟩,⟨yk ae⟩,⟨yhb⟩⟩
     case round =>
      clear H'
      try clear bp
      try clear bP
      try clear bQ
      try clear bq
      try clear br
      try clear ak
      try clear aJ
      try clear aK
      obtain ⟨ac,rfl,HA,HK3,ai,ae,HB⟩:=hrel
      obtain ⟨k3,rfl⟩:=ysu gk (fun h=>by subst h;exact absurd HA.out (by simp [cpack_Right.l1]))
      have H:=HA.out;clear HA
      simp only [cpack_Right.l1] at H
      by_cases c17 : ac < ((rd_L4 af aa).length : Int)
      ·
       rw [if_pos c17] at H
       have bR:=yD c17
       clear c17
       replace H:=yif H;obtain ⟨c18,H⟩:=H
       have b7 : decide (0≤ac)=true:=decide_eq_true c18
       clear c18
       replace H:=yif H;obtain ⟨c19,H⟩:=H
       have b8 : decide (ac < ((rd_L4 af aa).length : Int))=true:=decide_eq_true c19
       clear c19
       replace H:=ybi H;obtain ⟨aH,A20,H⟩:=H
       replace H:=yif H;obtain ⟨c21,H⟩:=H
       have b9 : decide (0≤aa)=true:=decide_eq_true c21
       clear c21
       replace H:=yif H;obtain ⟨c22,H⟩:=H
       have ca : decide (aa < (aj.length : Int))=true:=decide_eq_true c22
       clear c22
       replace H:=yif H;obtain ⟨c23,H⟩:=H
       have cb : decide (ac < ((rd_L2 aj aa).length : Int))=true:=decide_eq_true c23
       clear c23
       replace H:=ybi H;obtain ⟨bu,A24,H⟩:=H
       by_cases c25 : bu=true
       ·
        subst c25
        rw [if_pos rfl] at H
        have H' := zm H
        clear H
        have aT : 0≤(ac : Int):=yt
        have aU : ac < ((rd_L4 af aa).length : Int):=yt
        obtain ⟨bS,aV,aW,bG,ap,aq,au⟩:=at_L2 az.out ac aT aU
        cases bG
        replace ap:=yhx HB ap
        have aA:=zm au;have aC:=zm aq;clear au aq
        replace aT:=eq_true aT
        replace aU:=eq_true aU
        try go_wp2
        replace ai:=zm (Kd.S_drew ai.out)
        replace ae:=zm (zj ae.out)
        replace HB:=zm (zf HB.out)
        obtain ⟨ce,cf,bT⟩:=Kd.S_slice ai.out
        (first|subst bT|(injection bT with f1_ f2_ f3_;have f4_:=f1_.symm;have f5_:=f3_.symm;clear f1_ f2_ f3_;subst f4_;subst f5_))
        have aD : 0≤(aa : Int):=yt
        have aE : aa < (aj.length : Int):=yt
        obtain ⟨bc,bH,aX,bI,av,aw,ax⟩:=at_L2 (Kd.S_reads' ai.out).2.2 aa aD aE
        cases bI
        obtain ⟨ce292,hce292,hMe292,hcc292⟩:=Kd.S_get ai.out [] aa aD (by first|exact aE|exact yt|(have e_:=(Kd.S_reads' ai.out).1;omega))
        obtain ⟨ve292_0,rfl,ge292_0⟩:=hMe292
        have hv292_0:=hcc292 0 _ rfl
        rw [Nat.add_zero,show ((Kd.slice 3 (Kd.int .i64))).sz=1 from rfl,Nat.mul_one] at hv292_0
        replace hv292_0:=Option.some.inj (hv292_0.symm.trans av)
        rw [hv292_0] at ge292_0
        have ah:=zm (show Kd.R (Kd.int .i64) 3 _ _ _ _ (rd_L2 aj aa) from ge292_0)
        clear hv292_0 ge292_0 hcc292 hce292;have ag:=zm ax;have bm:=zm aw;clear ax aw
        replace aD:=eq_true aD
        replace aE:=eq_true aE
        obtain ⟨aM,bJ,aG,bY,bZ⟩:=yai ag ac
        cases bJ
        refine yst (fun w' => w'.cell? (bc.add (aa).toNat)=some (.slice (some aM) (rd_L2 aj aa).length aX)∧w'.cell? (aM.add (ac).toNat)=some (.int .i64 (rd (rd_L2 aj aa) ac))) [] 12 cpack_Right.tab12 cpack_Right.bits12 (fun hHeld HT_ HW_ => ?_)
        generalize wr.drew=w26 at ai ae HB ah ag av aG hHeld ⊢
        refine yp 0 48 HT_ ?_
        refine yp 1 49 HT_ ?_
        refine yp 3 51 HT_ ?_
        refine yp 4 52 HT_ ?_
        refine yp 5 53 HT_ ?_
        refine yp 7 55 HT_ ?_
        refine yl 6 54 HT_ HW_ hHeld ?_
        refine yp 8 56 HT_ ?_
        refine yl 9 57 HT_ HW_ hHeld ?_
        refine yw 2 50 HT_ (fun K hK => ?_)
        refine ygs Try.func48 #[.int .i64 ac] ?_
        with_reducible refine (band_Width.calls ac aH _ A20.out).mono ?_
        rintro e w28 ⟨rfl,hb⟩
        have bK:=yhs hb hHeld.1
        have bL:=yhs hb hHeld.2
        refine ⟨_,rfl, ?_⟩
        replace ai:=ySb ai hb
        replace ah:=yRb ah hb
        replace ae:=ybb ae hb
        replace ag:=yCb ag hb
        replace HB:=ybs hb
        (try clear hb)
        refine hK.out _ _ yH (fun hHeld => ?_)
        clear hK K
        refine ym (some 50) ?_
        refine yw 10 58 HT_ (fun K hK => ?_)
        refine ygs Try.func59 #[.slice aV (rd_L2 (rd_L4 af aa) ac).length aW, .int .i64 aH, .int .i64 (rd (rd_L2 aj aa) ac)] ?_
        with_reducible refine (cpack_pulses.calls k3 _ _ (rd_L2 (rd_L4 af aa) ac) aH (rd (rd_L2 aj aa) ac) true _ ?aI ?bd A24.out).mono ?_
        (case aI=>exact ycb aA)
        (case bd=>exact aC.out)
        rintro e w29 ⟨rfl,hb⟩
        have bK:=yhs hb hHeld.1
        have bL:=yhs hb hHeld.2
        refine ⟨_,rfl, ?_⟩
        replace ai:=ySb ai hb
        replace ah:=yRb ah hb
        replace ae:=ybb ae hb
        replace ag:=yCb ag hb
        replace HB:=ybs hb
        (try clear hb)
        refine hK.out _ _ yH (fun hHeld => ?_)
        clear hK K
        refine ym (some 58) ?_
        refine yp 11 59 HT_ ?_
        refine done_ (done_of HT_.out (by kernel_rfl)) ?_
        try go_wp2
        go_roundg k3
        case measure=>exact yom3 HJ4 HK2 HK3
        case rel=>exact ⟨(wrap64 (ac+1)),yq,H',⟨yom3 HJ4 HK2 HK3⟩,⟨yr ai⟩,⟨yk ae⟩,⟨yhb⟩⟩
       replace c25:=Bool.eq_false_iff.mpr c25
       subst c25
       rw [ynf] at H
       obtain rfl:=Option.some.inj H
       have aT : 0≤(ac : Int):=yt
       have aU : ac < ((rd_L4 af aa).length : Int):=yt
       obtain ⟨bS,aV,aW,bG,ap,aq,au⟩:=at_L2 az.out ac aT aU
       cases bG
       replace ap:=yhx HB ap
       have aA:=zm au;have aC:=zm aq;clear au aq
       replace aT:=eq_true aT
       replace aU:=eq_true aU
       try go_wp2
       replace ai:=zm (Kd.S_drew ai.out)
       replace ae:=zm (zj ae.out)
       replace HB:=zm (zf HB.out)
       obtain ⟨cg,ch,bU⟩:=Kd.S_slice ai.out
       (first|subst bU|(injection bU with f1_ f2_ f3_;have f4_:=f1_.symm;have f5_:=f3_.symm;clear f1_ f2_ f3_;subst f4_;subst f5_))
       have aD : 0≤(aa : Int):=yt
       have aE : aa < (aj.length : Int):=yt
       obtain ⟨bc,bH,aX,bI,av,aw,ax⟩:=at_L2 (Kd.S_reads' ai.out).2.2 aa aD aE
       cases bI
       obtain ⟨ce292,hce292,hMe292,hcc292⟩:=Kd.S_get ai.out [] aa aD (by first|exact aE|exact yt|(have e_:=(Kd.S_reads' ai.out).1;omega))
       obtain ⟨ve292_0,rfl,ge292_0⟩:=hMe292
       have hv292_0:=hcc292 0 _ rfl
       rw [Nat.add_zero,show ((Kd.slice 3 (Kd.int .i64))).sz=1 from rfl,Nat.mul_one] at hv292_0
       replace hv292_0:=Option.some.inj (hv292_0.symm.trans av)
       rw [hv292_0] at ge292_0
       have ah:=zm (show Kd.R (Kd.int .i64) 3 _ _ _ _ (rd_L2 aj aa) from ge292_0)
       clear hv292_0 ge292_0 hcc292 hce292;have ag:=zm ax;have bm:=zm aw;clear ax aw
       replace aD:=eq_true aD
       replace aE:=eq_true aE
       obtain ⟨aM,bJ,aG,bY,bZ⟩:=yai ag ac
       cases bJ
       refine yst (fun w' => w'.cell? (bc.add (aa).toNat)=some (.slice (some aM) (rd_L2 aj aa).length aX)∧w'.cell? (aM.add (ac).toNat)=some (.int .i64 (rd (rd_L2 aj aa) ac))) [] 12 cpack_Right.tab12 cpack_Right.bits12 (fun hHeld HT_ HW_ => ?_)
       generalize wr.drew=w30 at ai ae HB ah ag av aG hHeld ⊢
       refine yp 0 48 HT_ ?_
       refine yp 1 49 HT_ ?_
       refine yp 3 51 HT_ ?_
       refine yp 4 52 HT_ ?_
       refine yp 5 53 HT_ ?_
       refine yp 7 55 HT_ ?_
       refine yl 6 54 HT_ HW_ hHeld ?_
       refine yp 8 56 HT_ ?_
       refine yl 9 57 HT_ HW_ hHeld ?_
       refine yw 2 50 HT_ (fun K hK => ?_)
       refine ygs Try.func48 #[.int .i64 ac] ?_
       with_reducible refine (band_Width.calls ac aH _ A20.out).mono ?_
       rintro e w32 ⟨rfl,hb⟩
       have bK:=yhs hb hHeld.1
       have bL:=yhs hb hHeld.2
       refine ⟨_,rfl, ?_⟩
       replace ai:=ySb ai hb
       replace ah:=yRb ah hb
       replace ae:=ybb ae hb
       replace ag:=yCb ag hb
       replace HB:=ybs hb
       (try clear hb)
       refine hK.out _ _ yH (fun hHeld => ?_)
       clear hK K
       refine ym (some 50) ?_
       refine yw 10 58 HT_ (fun K hK => ?_)
       refine ygs Try.func59 #[.slice aV (rd_L2 (rd_L4 af aa) ac).length aW, .int .i64 aH, .int .i64 (rd (rd_L2 aj aa) ac)] ?_
       with_reducible refine (cpack_pulses.calls k3 _ _ (rd_L2 (rd_L4 af aa) ac) aH (rd (rd_L2 aj aa) ac) false _ ?aI ?bd A24.out).mono ?_
       (case aI=>exact ycb aA)
       (case bd=>exact aC.out)
       rintro e w33 ⟨rfl,hb⟩
       have bK:=yhs hb hHeld.1
       have bL:=yhs hb hHeld.2
       refine ⟨_,rfl, ?_⟩
       replace ai:=ySb ai hb
       replace ah:=yRb ah hb
       replace ae:=ybb ae hb
       replace ag:=yCb ag hb
       replace HB:=ybs hb
       (try clear hb)
       refine hK.out _ _ yH (fun hHeld => ?_)
       clear hK K
       refine ym (some 58) ?_
       refine yp 11 59 HT_ ?_
       refine done_ (done_of HT_.out (by kernel_rfl)) ?_
       try go_wp2
       go_ret
       exact ⟨ye,yhb⟩
      rw [if_neg c17] at H
      have bR:=yG c17
      clear c17
      have H' := zm H
      clear H
      go_wp2
      go_roundg k3
      case measure=>exact yom3 HJ4 HK2 HK3
      case rel=>exact ⟨(wrap64 (aa+1)),yq,H',⟨yom3 HJ4 HK2 HK3⟩,⟨yr ai⟩,⟨yk ae⟩,⟨yhb⟩⟩
    rw [if_neg c16] at H
    obtain ⟨bq,br⟩:=yF c16
    obtain rfl:=Option.some.inj H
    have aJ : 0≤(aa : Int):=yt
    have aK : aa < (af.length : Int):=yt
    obtain ⟨bs,bD,bE,bF,ak,am,ao⟩:=at_L4 bn.out aa aJ aK
    cases bF
    replace ak:=yhx HB ak
    have az:=zm ao;have bl:=zm am;clear ao am
    replace aJ:=eq_true aJ
    replace aK:=eq_true aK
    go_wp2
    go_ret
    exact ⟨ye,yhb⟩
   rw [if_neg c13] at H
   have bp:=yG c13
   clear c13
   obtain rfl:=Option.some.inj H
   go_wp2
   go_ret
   exact ⟨ye,yhb⟩
def coder_New.f  : Option (Int × Int × List Int):=some (0,4294967295,([] : List Int))
set_option maxHeartbeats 8000000 in
set_option maxRecDepth 100000 in
theorem coder_New.calls  (r1 : Int) (r2 : Int) (r3 : List Int) (w : World) (h : coder_New.f  = some (r1,r2,r3)) :
  Calls Try.prog 44 #[] w fun e w' => ∃ v2_ : Value,e=.returned (.agg #[.int .u64 r1, .int .u32 r2,v2_])∧Kd.R (Kd.int .u8) 5 w' w.heap.size (fun _=>True) v2_ r3∧Below w.heap.size w w' := by
 have hu75:=Try.underlying75;have HB:=zm (Below.refl w.heap.size w);have H:=h
 unfold coder_New.f at H
 clear h
 simp only [Option.some.injEq,Prod.mk.injEq] at H
 obtain ⟨rfl,rfl,rfl⟩:=H
 go_enter Try.func44,Try.ntmps44
 go_wp2_with (first|((with_reducible refine gate_dst (N:=0) rfl ?_);refine ybx 0 #[.int .u64 0, .int .u32 0, .slice none 0 0] 75 ?_;intro ac hg w1 hbox hb;have aa:=zm (hbox);have ae:=ygw hg;have af:=ygw hg;replace HB:=ybs hb;clear hb hbox hg;obtain ⟨_,_,_,_,_,_⟩:=yc3 aa))
 refine bodyPost_ret (results_cell_row rfl _ _ ac 75 #[.int .u64 0, .int .u32 4294967295, .slice none 0 0] (0,0) _ rfl (ykp aa) Try.underlying75 rfl (by kernel_rfl)) rfl ?_
 exact ⟨_,ye,yn,yhb⟩
def coder_RightEnc.f (ac : Int) (ae : Int) (aa : List Int) : Option (Bool):=if ac≤4294967295 then (if ae ≥ 16777216 then (some (decide ((aa.length : Int)≤4000))) else (some false)) else (some false)
set_option maxHeartbeats 8000000 in
set_option maxRecDepth 100000 in
theorem coder_RightEnc.calls (ac : Int) (ae : Int) (ag : Option Addr) (ah : Nat) (aa : List Int) (r : Bool) (w : World) (hr0_2 : Kd.C (Kd.int .u8) w ag aa.length aa) (hc0_2 : aa.length≤ah) (h : coder_RightEnc.f ac ae aa=some r) :
  Calls Try.prog 116 #[.agg #[.int .u64 ac, .int .u32 ae, .slice ag aa.length ah]] w fun e w' => e=.returned (.bool r)∧Below w.heap.size w w' := by
 have hu75:=Try.underlying75;have ao:=zm hr0_2;have ap:=zm hc0_2;clear hr0_2 hc0_2;have HB:=zm (Below.refl w.heap.size w);have H:=h
 unfold coder_RightEnc.f at H
 clear h
 by_cases c2 : ac≤4294967295
 ·
  rw [if_pos c2] at H
  have al:=yD c2
  clear c2
  by_cases c3 : ae ≥ 16777216
  ·
   rw [if_pos c3] at H
   have am:=yDl c3
   clear c3
   obtain rfl:=Option.some.inj H
   go_enter Try.func116,Try.ntmps116
   go_wp2_with (first|((with_reducible refine gate_dst (N:=1) rfl ?_);(try (refine gate_guard (by rfl) ?_;dsimp only));refine ybx 1 #[.int .u64 ac, .int .u32 ae, .slice ag aa.length ah] 75 ?_;intro ai hg w4 hbox hb;have af:=zm (hbox);have aj:=ygw hg;have ak:=ygw hg;replace HB:=ybs hb;clear hb hbox hg;obtain ⟨_,_,_,_,_,_⟩:=yc3 af))
   go_ret
   exact ⟨ye,yhb⟩
  rw [if_neg c3] at H
  have am:=yGl c3
  clear c3
  obtain rfl:=Option.some.inj H
  go_enter Try.func116,Try.ntmps116
  go_wp2_with (first|((with_reducible refine gate_dst (N:=1) rfl ?_);(try (refine gate_guard (by rfl) ?_;dsimp only));refine ybx 1 #[.int .u64 ac, .int .u32 ae, .slice ag aa.length ah] 75 ?_;intro ai hg w6 hbox hb;have af:=zm (hbox);have aj:=ygw hg;have ak:=ygw hg;replace HB:=ybs hb;clear hb hbox hg;obtain ⟨_,_,_,_,_,_⟩:=yc3 af))
  go_ret
  exact ⟨ye,yhb⟩
 rw [if_neg c2] at H
 have al:=yG c2
 clear c2
 obtain rfl:=Option.some.inj H
 go_enter Try.func116,Try.ntmps116
 go_wp2_with (first|((with_reducible refine gate_dst (N:=1) rfl ?_);(try (refine gate_guard (by rfl) ?_;dsimp only));refine ybx 1 #[.int .u64 ac, .int .u32 ae, .slice ag aa.length ah] 75 ?_;intro ai hg w8 hbox hb;have af:=zm (hbox);have aj:=ygw hg;have ak:=ygw hg;replace HB:=ybs hb;clear hb hbox hg;obtain ⟨_,_,_,_,_,_⟩:=yc3 af))
 go_ret
 exact ⟨ye,yhb⟩
def coder_own.f (af : Int) (ag : Int) (ae : List Int) : Option (Int × Int × List Int):=(coder_RightEnc.f af ag ae).bind fun aD=>(if aD=true then ((some (([] : List Int) : List Int)).bind fun aj=>(if aj.length+ae.length < 140737488355328 then (some (af,ag,(aj ++ ae))) else (none))) else ((coder_New.f).bind fun ao=>(some (ao.1,ao.2.1,ao.2.2))))
set_option maxHeartbeats 8000000 in
set_option maxRecDepth 100000 in
theorem coder_own.calls (af : Int) (ag : Int) (al : Option Addr) (am : Nat) (ae : List Int) (r1 : Int) (r2 : Int) (r3 : List Int) (w : World) (hr0_2 : Kd.C (Kd.int .u8) w al ae.length ae) (hc0_2 : ae.length≤am) (h : coder_own.f af ag ae=some (r1,r2,r3)) :
  Calls Try.prog 83 #[.agg #[.int .u64 af, .int .u32 ag, .slice al ae.length am]] w fun e w' => ∃ v2_ : Value,e=.returned (.agg #[.int .u64 r1, .int .u32 r2,v2_])∧Kd.R (Kd.int .u8) 5 w' w.heap.size (fun _=>True) v2_ r3∧Below w.heap.size w w' := by
 have hu75:=Try.underlying75;have ap:=zm hr0_2;have ay:=zm hc0_2;clear hr0_2 hc0_2;have HB:=zm (Below.refl w.heap.size w);have H:=h
 unfold coder_own.f at H
 clear h
 replace H:=ybi H;obtain ⟨aD,A2,H⟩:=H
 by_cases c3 : aD=true
 ·
  subst c3
  rw [if_pos rfl] at H
  obtain ⟨aj,aq⟩ : ∃ y_ : List Int,y_=(([] : List Int)):=⟨_,rfl⟩
  replace H : (if aj.length+ae.length < 140737488355328 then (some (af,ag,(aj ++ ae))) else (none))=some (r1,r2,r3):=yrw aq H
  have az:=zm aq;clear aq
  replace H:=yif H;obtain ⟨c4,H⟩:=H
  have LMc4:=zm c4;clear c4
  obtain ⟨aE,au⟩ : ∃ y_ : List Int,y_=(aj ++ ae):=⟨_,rfl⟩
  replace H : (some (af,ag,aE))=some (r1,r2,r3):=yrw au H
  have aG:=zm au;clear au
  simp only [Option.some.injEq,Prod.mk.injEq] at H
  obtain ⟨rfl,rfl,rfl⟩:=H
  go_enter Try.func83,Try.ntmps83
  go_wp2_with (first|((with_reducible refine gate_dst (N:=1) rfl ?_);refine ybx 1 #[.int .u64 af, .int .u32 ag, .slice al ae.length am] 75 ?_;intro aH hg w5 hbox hb;have aa:=zm (hbox);have aI:=ygw hg;have aJ:=ygw hg;replace HB:=ybs hb;clear hb hbox hg)|((with_reducible refine gate_dst (N:=2) rfl ?_);refine ybx 2 #[.int .u64 0, .int .u32 0, .slice none 0 0] 75 ?_;intro av hg w6 hbox hb;have ac:=zm (hbox);have aK:=ygw hg;have aM:=ygw hg;replace HB:=ybs hb;have ah:=ynl aa hg;have ai:=yng aa hg;replace aa:=ybb aa hb;clear hb hbox hg;have:=ah.out;have:=ai.out;obtain ⟨_,_,_,_,_,_⟩:=yc3 aa)|((with_reducible refine gate_callee (f:=116) rfl ?_);refine ygl 4 Try.func116 #[.agg #[.int .u64 af, .int .u32 ag, .slice al ae.length am]] ?_;(with_reducible refine (coder_RightEnc.calls af ag _ _ ae true _ ?aw ay.out A2.out).mono ?_);(case aw=>exact ycb ap);rintro e w9 ⟨rfl,hb⟩;refine ⟨_,rfl, ?_⟩;replace aa:=ybb aa hb;replace ac:=ybb ac hb;replace HB:=ybs hb;(try clear hb))|((with_reducible refine gate_dst (N:=7) rfl ?_);refine Kd.R_lit (Kd.int .u8) _ 5 ?hg (N:=7) ?hd (xs:=([] : List Int)) (inner := []) (ok:=fun _=>True) (okp:=fun _=>True) ?hr ?hp (fun _ hk=>hk) trivial (Below.refl _ _) (Nat.le_refl _) (by simp) ?_;(case hd=>rfl);(case hg=>rfl);(case hr=>first|(go_simp;done)|(go_simp;rfl));(case hp=>exact (Reps.none _ _));intro aU w10 ax hb hg_ hnew_;clear hg_ hnew_;(first|rw [← az.out] at ax|(simp only [Int.reduceToNat] at ax;rw [← az.out] at ax));have ak:=zm (Kd.R_lower ax (zE yhb));replace aa:=ybb aa hb;replace ac:=ybb ac hb;replace HB:=ybs hb;clear hb ax;obtain ⟨_,_,_,_,_,_⟩:=yc3 aa)|((with_reducible refine gate_builtin (b:=.append) (xs := #[.tmp 7, .tmp 9]) rfl ?_);at_builtin;refine Kd.R_append_rows (Kd.int .u8) (w0:=w) w.heap.size rfl (.tmp 7) (.tmp 9) 36 5 (.int .u8 0) 1 rfl Try.underlying36 info5 rfl (by decide) (by omega) aU aj ae _ _ _ (fun _=>True) (fun _=>False) rfl rfl ?aO ?aR (fun _ _ h=>h) (fun _ h=>h.elim) ?aF ?aB ?aS ?aL ?_;(case aR=>exact ycb ap);(case aB=>exact yhb);(case aF=>exact (fun _ _=>trivial));(case aO=>exact (yr ak));(case aS=>exact (zE yhb));(case aL=>have:=LMc4.out;omega);intro a8 w13 ho hb hg hat;rw [← aG.out] at ho;replace aa:=zm (blk_grown (yk aa) hg (zu ak.out aa.out (by decide)));replace ac:=zm (blk_grown (yk ac) hg (zu ak.out ac.out (by decide)));replace HB:=zm (hb);have aA:=zm (ho);clear ak;clear ho hb hg hat;obtain ⟨aV,aW,aX⟩:=Kd.R_slice aA.out;subst aX;obtain ⟨_,_,_,_,_,_⟩:=yc3 aa;obtain ⟨_,_,_,_,_,_⟩:=yc3 ac))
  refine bodyPost_ret (results_cell_row rfl _ _ av 75 #[.int .u64 af, .int .u32 ag, .slice aV aE.length aW] (0,0) _ rfl (ykp ac) Try.underlying75 rfl (by kernel_rfl)) rfl ?_
  exact ⟨_,ye,yR2 aA aa ac,yhb⟩
 replace c3:=Bool.eq_false_iff.mpr c3
 subst c3
 rw [ynf] at H
 replace H:=ybi H;obtain ⟨⟨aN,aQ,aT⟩,A17,H⟩:=H
 try dsimp only at H
 simp only [Option.some.injEq,Prod.mk.injEq] at H
 obtain ⟨rfl,rfl,rfl⟩:=H
 go_enter Try.func83,Try.ntmps83
 go_wp2_with (first|((with_reducible refine gate_dst (N:=1) rfl ?_);refine ybx 1 #[.int .u64 af, .int .u32 ag, .slice al ae.length am] 75 ?_;intro aH hg w18 hbox hb;have aa:=zm (hbox);have aI:=ygw hg;have aJ:=ygw hg;replace HB:=ybs hb;clear hb hbox hg)|((with_reducible refine gate_dst (N:=2) rfl ?_);refine ybx 2 #[.int .u64 0, .int .u32 0, .slice none 0 0] 75 ?_;intro av hg w19 hbox hb;have ac:=zm (hbox);have aK:=ygw hg;have aM:=ygw hg;replace HB:=ybs hb;have ah:=ynl aa hg;have ai:=yng aa hg;replace aa:=ybb aa hb;clear hb hbox hg;have:=ah.out;have:=ai.out;obtain ⟨_,_,_,_,_,_⟩:=yc3 aa)|((with_reducible refine gate_callee (f:=116) rfl ?_);refine ygl 4 Try.func116 #[.agg #[.int .u64 af, .int .u32 ag, .slice al ae.length am]] ?_;(with_reducible refine (coder_RightEnc.calls af ag _ _ ae false _ ?aw ay.out A2.out).mono ?_);(case aw=>exact ycb ap);rintro e w22 ⟨rfl,hb⟩;refine ⟨_,rfl, ?_⟩;replace aa:=ybb aa hb;replace ac:=ybb ac hb;replace HB:=ybs hb;(try clear hb))|((with_reducible refine gate_callee (f:=44) rfl ?_);refine ygl 6 Try.func44 #[] ?_;(with_reducible refine (coder_New.calls  aN aQ aT _ A17.out).mono ?_);rintro e w23 ⟨a9,rfl,ho0,hb⟩;refine ⟨_,rfl, ?_⟩;have aC:=zm (Kd.R_lower ho0 (zE yhb));replace aa:=ybb aa hb;replace ac:=ybb ac hb;replace HB:=ybs hb;(try clear hb);(try clear ho0);obtain ⟨_,_,_,_,_,_⟩:=yc3 ac;obtain ⟨aY,aZ,a7⟩:=Kd.R_slice aC.out;subst a7))
 refine bodyPost_ret (results_cell_row rfl _ _ av 75 #[.int .u64 aN, .int .u32 aQ, .slice aY aT.length aZ] (0,0) _ rfl (ykp ac) Try.underlying75 rfl (by kernel_rfl)) rfl ?_
 exact ⟨_,ye,yR1 aC ac,yhb⟩
def coder_Finish.f (aj : Int) (ak : Int) (af : List Int) : Option (List Int):=(coder_own.f aj ak af).bind fun ag=>((some (([(ag.1 / 16777216) % 256,(ag.1 / 65536) % 256,(ag.1 / 256) % 256,(ag.1) % 256] : List Int) : List Int)).bind fun ah=>(if ag.2.2.length+ah.length < 140737488355328 then (some (ag.2.2 ++ ah)) else (none)))
set_option maxHeartbeats 8000000 in
set_option maxRecDepth 100000 in
theorem coder_Finish.calls (aj : Int) (ak : Int) (aq : Option Addr) (au : Nat) (af : List Int) (r : List Int) (w : World) (hr0_2 : Kd.C (Kd.int .u8) w aq af.length af) (hc0_2 : af.length≤au) (h : coder_Finish.f aj ak af=some r) :
  Calls Try.prog 51 #[.agg #[.int .u64 aj, .int .u32 ak, .slice aq af.length au]] w fun e w' => ∃ v0_ : Value,e=.returned (v0_)∧Kd.R (Kd.int .u8) 5 w' w.heap.size (fun _=>True) v0_ r∧Below w.heap.size w w' := by
 have hu75:=Try.underlying75;have aw:=zm hr0_2;have ax:=zm hc0_2;clear hr0_2 hc0_2;have HB:=zm (Below.refl w.heap.size w);have H:=h
 unfold coder_Finish.f at H
 clear h
 replace H:=ybi H;obtain ⟨⟨aa,ay,al⟩,A2,H⟩:=H
 try dsimp only at H
 obtain ⟨ah,ao⟩ : ∃ y_ : List Int,y_=(([(aa / 16777216) % 256,(aa / 65536) % 256,(aa / 256) % 256,(aa) % 256] : List Int)):=⟨_,rfl⟩
 replace H : (if al.length+ah.length < 140737488355328 then (some (al ++ ah)) else (none))=some r:=yrw ao H
 have av:=zm ao;clear ao
 replace H:=yif H;obtain ⟨c3,H⟩:=H
 have LMc3:=zm c3;clear c3
 obtain ⟨aE,ap⟩ : ∃ y_ : List Int,y_=(al ++ ah):=⟨_,rfl⟩
 replace H : (some aE)=some r:=yrw ap H
 have az:=zm ap;clear ap
 obtain rfl:=Option.some.inj H
 go_enter Try.func51,Try.ntmps51
 go_wp2_with (first|((with_reducible refine gate_dst (N:=1) rfl ?_);refine ybx 1 #[.int .u64 aj, .int .u32 ak, .slice aq af.length au] 75 ?_;intro aA hg w4 hbox hb;have ac:=zm (hbox);have aJ:=ygw hg;have aK:=ygw hg;replace HB:=ybs hb;clear hb hbox hg;obtain ⟨_,_,_,_,_,_⟩:=yc3 ac)|((with_reducible refine gate_callee (f:=83) rfl ?_);refine ygl 4 Try.func83 #[.agg #[.int .u64 aj, .int .u32 ak, .slice aq af.length au]] ?_;(with_reducible refine (coder_own.calls aj ak _ _ af aa ay al _ ?aC ax.out A2.out).mono ?_);(case aC=>exact ycb aw);rintro e w6 ⟨aM,rfl,ho0,hb⟩;refine ⟨_,rfl, ?_⟩;have ae:=zm (Kd.R_lower ho0 (zE yhb));replace ac:=ybb ac hb;replace HB:=ybs hb;(try clear hb);(try clear ho0);obtain ⟨_,_,_,_,_,_⟩:=yc3 ac;obtain ⟨Ao8,co8,eo8⟩:=Kd.R_slice ae.out;subst eo8)|((with_reducible refine gate_dst (N:=22) rfl ?_);refine Kd.R_lit (Kd.int .u8) _ 5 ?hg (N:=22) ?hd (xs:=([(aa / 16777216) % 256,(aa / 65536) % 256,(aa / 256) % 256,(aa) % 256] : List Int)) (inner := [.int .u8 ((aa / 16777216) % 256), .int .u8 ((aa / 65536) % 256), .int .u8 ((aa / 256) % 256), .int .u8 ((aa) % 256)]) (ok:=fun _=>True) (okp:=fun _=>True) ?hr ?hp (fun _ hk=>hk) trivial (Below.refl _ _) (Nat.le_refl _) (by simp) ?_;(case hd=>rfl);(case hg=>rfl);(case hr=>first|(go_simp;done)|(go_simp;rfl));(case hp=>exact (Reps.one (show Kd.M (Kd.int .u8) _ _ _ ((aa / 16777216) % 256) [.int .u8 ((aa / 16777216) % 256)] from rfl) (Reps.one (show Kd.M (Kd.int .u8) _ _ _ ((aa / 65536) % 256) [.int .u8 ((aa / 65536) % 256)] from rfl) (Reps.one (show Kd.M (Kd.int .u8) _ _ _ ((aa / 256) % 256) [.int .u8 ((aa / 256) % 256)] from rfl) (Reps.one (show Kd.M (Kd.int .u8) _ _ _ ((aa) % 256) [.int .u8 ((aa) % 256)] from rfl) (Reps.none _ _))))));intro aN w9 am hb hg_ hnew_;clear hg_ hnew_;(first|rw [← av.out] at am|(simp only [Int.reduceToNat] at am;rw [← av.out] at am));have ai:=zm (Kd.R_lower (Kd.R_new' am (Kd.R_lt (yR1 ae ac))) (zE yhb));replace ae:=zm (Kd.R_elder' (yR1 ae ac) (Kd.R_base am) hb);replace ac:=zm (zF (g:=aA) (o:=.cells #[.int .u64 aa, .int .u32 ay, .slice Ao8 al.length co8] 75 (0,0)) (ykp ac) hb);replace HB:=ybs hb;clear hb am;obtain ⟨aG,aH,aI⟩:=Kd.R_slice ai.out;subst aI)|((with_reducible refine gate_builtin (b:=.append) (xs := #[.tmp 6, .tmp 22]) rfl ?_);at_builtin;refine Kd.R_append_rows (Kd.int .u8) (w0:=w) w.heap.size rfl (.tmp 6) (.tmp 22) 36 5 (.int .u8 0) 1 rfl Try.underlying36 info5 rfl (by decide) (by omega) (.slice Ao8 al.length co8) al ah _ _ _ (fun k_=>some k_≠(.slice aG ah.length aH : Value).ownBlock) (fun _=>False) rfl rfl ?aO ?aR (fun _ _ h=>h) (fun _ h=>h.elim) ?aF ?aB ?aS ?aL ?_;(case aR=>exact yce (Kd.R_reads' ai.out).2.2);(case aB=>exact yhb);(case aF=>exact (fun k_ hk=>Kd.fresh' (Kd.R_lt (yr ai)) k_ hk));(case aO=>exact (yR0 ae));(case aS=>exact (zE yhb));(case aL=>have:=LMc3.out;omega);intro aQ w11 ho hb hg hat;rw [← az.out] at ho;replace ac:=zm (blk_grown (yk ac) hg (zu ae.out ac.out (by decide)));replace ai:=zm (Kd.R_after (ok:=(fun _=>True)) (yr ai) hg hat);replace HB:=zm (hb);have aD:=zm (ho);clear ae;clear ho hb hg hat))
 go_ret
 exact ⟨_,ye,yR0 aD,yhb⟩
def coder_carry.l0 : Nat→List Int→Int→Option (List Int)
 | 0,_,_=>none
 | k+1,x0,x2=>if x2 ≥ 0 then (if 0≤x2 then (if x2 < (x0.length : Int) then ((some (x0.set (x2 : Int).toNat (((rd x0 x2)+1) % 256) : List Int)).bind fun ag=>(if (rd ag x2)=0 then (coder_carry.l0 k ag (wrap64 (x2 - 1))) else (some ag))) else (none)) else (none)) else (some x0)
def coder_carry.f (k : Nat) (l0 : List Int) : Option (List Int):=coder_carry.l0 k l0 (wrap64 ((l0.length : Int) - 1))
theorem coder_carry.mono_l : ∀ k,(∀ y0 y1,LeO (coder_carry.l0 k y0 y1) (coder_carry.l0 (k+1) y0 y1))
 | 0=>fun _ _ r h=>by simp [coder_carry.l0] at h
 | k+1=>by
  have ih0:=coder_carry.mono_l k
  ·
   intro y0 y1
   unfold coder_carry.l0
   repeat' with_reducible first|apply ih0|apply yLr|apply yLn|apply yLi|apply yLb|intro _
theorem coder_carry.mono : ∀ a0 k,LeO (coder_carry.f k a0) (coder_carry.f (k+1) a0):=by
 intro a0 k
 have ih0:=coder_carry.mono_l k
 unfold coder_carry.f
 repeat' with_reducible first|apply ih0|apply yLr|apply yLn|apply yLi|apply yLb|intro _
set_option maxHeartbeats 8000000 in
set_option maxRecDepth 100000 in
theorem coder_carry.calls (k : Nat) (P0_ : Nat→Prop) (ai : Value) (l0 : List Int) (r : List Int) (w0 w : World) (hB : Below w0.heap.size w0 w) (ho0 : Kd.R (Kd.int .u8) 5 w w0.heap.size P0_ ai l0) (h : coder_carry.f k l0=some r) :
  Calls Try.prog 86 #[ai] w fun e w' => e=.returned (.tuple #[])∧Kd.R (Kd.int .u8) 5 w' w0.heap.size (fun k_=>(P0_ k_∨w.heap.size≤k_)) ai r∧Below w0.heap.size w0 w'∧Kept w w' (fun k_=>P0_ k_):=by
 have HO0:=zm (show Kd.R (Kd.int .u8) 5 w w0.heap.size (fun k_=>(P0_ k_∨w.heap.size≤k_)) ai l0 from zG ho0 (fun k_ hk=>(.inl hk)))
 have HK:=zm (Kept.refl w (fun k_=>P0_ k_))
 have HW0:=zm hB.size;have HB:=zm hB;clear hB;have H:=h
 unfold coder_carry.f at H
 clear h
 have H' := zm H
 clear H
 obtain ⟨Ao2,co2,eo2⟩:=Kd.R_slice HO0.out
 subst eo2
 go_enter Try.func86,Try.ntmps86
 go_wp2
 go_step3
 go_wp2
 go_step3
 go_wp2
 go_loopg [2] k (fun kq v2 w' => ∃ (ae : List Int) (aa : Int),v2=.int .i64 aa∧Aside0 (coder_carry.l0 kq ae aa=some r)∧Aside0 (kq≤k)∧Aside0 (Kd.R (Kd.int .u8) 5 w' w0.heap.size (fun k_=>(P0_ k_∨w.heap.size≤k_)) (.slice Ao2 l0.length co2) ae)∧Aside0 (Kept w w' (fun k_=>P0_ k_))∧Aside0 (Below w0.heap.size w0 w'))
 case atStart=>exact ⟨(l0),(wrap64 ((l0.length : Int) - 1)),yq,H',⟨Nat.le_refl _⟩,⟨yr HO0⟩,⟨by repeat (first|(with_reducible first|exact HK.out|apply Kept.alloc|apply Kept.drewN|apply Kept.drew)|exact HK.out)⟩,⟨yhb⟩⟩
 case round =>
  clear H'
  obtain ⟨ae,aa,rfl,HA,HK1,ac,HK,HB⟩:=hrel
  have ah:=(Kd.R_reads' ac.out).1
  rw [ah] at ac
  (try simp only [ah])
  obtain ⟨k1,rfl⟩:=ysu gk (fun h=>by subst h;exact absurd HA.out (by simp [coder_carry.l0]))
  have H:=HA.out;clear HA
  simp only [coder_carry.l0] at H
  by_cases c3 : aa ≥ 0
  ·
   rw [if_pos c3] at H
   have aC:=yDl c3
   clear c3
   replace H:=yif H;obtain ⟨c4,H⟩:=H
   have aG : decide (0≤aa)=true:=decide_eq_true c4
   clear c4
   replace H:=yif H;obtain ⟨c5,H⟩:=H
   have aH : decide (aa < (ae.length : Int))=true:=decide_eq_true c5
   clear c5
   obtain ⟨ag,aq⟩ : ∃ y_ : List Int,y_=(ae.set (aa : Int).toNat (((rd ae aa)+1) % 256)):=⟨_,rfl⟩
   replace H : (if (rd ag aa)=0 then (coder_carry.l0 k1 ag (wrap64 (aa - 1))) else (some ag))=some r:=yrw aq H
   have ap:=zm aq;clear aq
   by_cases c7 : (rd ag aa)=0
   ·
    rw [if_pos c7] at H
    obtain ⟨aD,aE⟩:=yE c7
    clear c7
    have H' := zm H
    clear H
    have ak : 0≤(aa : Int):=yt
    have al : aa < (ae.length : Int):=yt
    obtain ⟨ay,av,aj⟩:=Kd.at_int (Kd.R_reads' ac.out).2.2 aa ak al
    cases av
    replace ak:=eq_true ak
    replace al:=eq_true al
    have p6 : 0≤(aa : Int):=yt
    have q6 : (aa : Int) < ((ae.length : Int) : Int):=yt
    obtain ⟨go6,co6,eo6,gb6,gl6,cl6,HG6⟩:=Kd.R_form ac.out (by omega)
    (first|cases eo6|(injection eo6 with ea_ en_ ec_;(first|subst ea_|(injection ea_ with ea_;subst ea_));subst ec_;clear en_))
    have GB6:=zm gb6;have GG6:=zm HG6;clear gb6 gl6 HG6
    have HMgo6:=zm (show (P0_ go6∨w.heap.size≤go6) from (ac.out.1 _ rfl))
    (first|simp only [add_plain] at aj|skip)
    obtain ⟨az,aA⟩:=Kd.R_celln 0 ac.out (aa : Int) p6 q6
    replace p6:=eq_true p6
    replace q6:=eq_true q6
    have HP8:=Kd.R_putg ac.out (aa : Int) (((rd ae aa)+1) % 256)
    go_wp2_with (first|((with_reducible refine gate_store (t:=5) (p:=15) rfl ?_);refine store_event (t:=5) (p:=15) (v := ?vo_w9) (w1:=(wr.setCell ⟨go6,(aa : Int).toNat,none⟩ (.int .u8 (((rd ae aa)+1) % 256)))) ?hg ?ho ?hn ?hr ?_;(case ho=>rfl);(case hg=>rfl);(case hn=>rfl);(case hr=>first|(go_simp;done)|(go_simp;rfl));intro w9 hw;have hg : wr.grownBy w9 (some go6):=(by rw [hw];exact HP8.2);have hp_ : Kd.R (Kd.int .u8) 5 w9 w0.heap.size (fun k_=>(P0_ k_∨w.heap.size≤k_)) (.slice (some ⟨go6,0,none⟩) ae.length co2) ag:=(by rw [hw,ap.out];exact HP8.1);clear HP8;replace HB:=zm ((by rw [hw];exact zk (HB.out) GB6.out : Below w0.heap.size w0 w9));replace HK:=zm (Kept.of_grown (S:=(fun k_=>P0_ k_)) hg (by repeat (first|(with_reducible first|exact HK.out|apply Kept.alloc|apply Kept.drewN|apply Kept.drew)|exact HK.out)) (fun k_ e_=>(ac.out.1 k_ e_)));replace ac:=zm (hp_);clear hg hw hp_;have am : 0≤(aa : Int):=yt;have ao : aa < (ag.length : Int):=(by have h_ : (aa : Int) < ((ae.length : Int) : Int):=yt;first|(have e_:=(Kd.R_reads' ac.out).1;omega)|simpa only [ap.out,List.length_set] using h_);have ql840 : ((aa : Int) < ((ae.length : Int) : Int))=True:=eq_true (yt);obtain ⟨au,aw,af⟩:=Kd.at_int (Kd.R_reads' ac.out).2.2 aa am ao;obtain rfl : (⟨go6,0,none⟩ : Addr)=au:=(by injection aw);(first|simp only [add_plain] at af|simp only [add_at] at af|simp only [Addr.add,Nat.zero_add] at af|skip);replace am:=eq_true am;replace ao:=eq_true ao))
    (try simp only [← ah])
    go_roundg k1
    case measure=>exact yom1 HK1
    case rel=>exact ⟨(ag),(wrap64 (aa - 1)),yq,H',⟨yom1 HK1⟩,⟨by (try simp only [ah]);(with_reducible repeat (first|apply zo|apply zp|apply zq));exact ac.out⟩,⟨by repeat (first|(with_reducible first|exact HK.out|apply Kept.alloc|apply Kept.drewN|apply Kept.drew)|exact HK.out)⟩,⟨yhb⟩⟩
   rw [if_neg c7] at H
   obtain ⟨aD,aE⟩:=yF c7
   obtain rfl:=Option.some.inj H
   have ak : 0≤(aa : Int):=yt
   have al : aa < (ae.length : Int):=yt
   obtain ⟨ay,av,aj⟩:=Kd.at_int (Kd.R_reads' ac.out).2.2 aa ak al
   cases av
   replace ak:=eq_true ak
   replace al:=eq_true al
   have p6 : 0≤(aa : Int):=yt
   have q6 : (aa : Int) < ((ae.length : Int) : Int):=yt
   obtain ⟨go6,co6,eo6,gb6,gl6,cl6,HG6⟩:=Kd.R_form ac.out (by omega)
   (first|cases eo6|(injection eo6 with ea_ en_ ec_;(first|subst ea_|(injection ea_ with ea_;subst ea_));subst ec_;clear en_))
   have GB6:=zm gb6;have GG6:=zm HG6;clear gb6 gl6 HG6
   have HMgo6:=zm (show (P0_ go6∨w.heap.size≤go6) from (ac.out.1 _ rfl))
   (first|simp only [add_plain] at aj|skip)
   obtain ⟨az,aA⟩:=Kd.R_celln 0 ac.out (aa : Int) p6 q6
   replace p6:=eq_true p6
   replace q6:=eq_true q6
   have ax:=Kd.R_putg ac.out (aa : Int) (((rd ae aa)+1) % 256)
   go_wp2_with (first|((with_reducible refine gate_store (t:=5) (p:=15) rfl ?_);refine store_event (t:=5) (p:=15) (v := ?vo_w11) (w1:=(wr.setCell ⟨go6,(aa : Int).toNat,none⟩ (.int .u8 (((rd ae aa)+1) % 256)))) ?hg ?ho ?hn ?hr ?_;(case ho=>rfl);(case hg=>rfl);(case hn=>rfl);(case hr=>first|(go_simp;done)|(go_simp;rfl));intro w11 hw;have hg : wr.grownBy w11 (some go6):=(by rw [hw];exact ax.2);have hp_ : Kd.R (Kd.int .u8) 5 w11 w0.heap.size (fun k_=>(P0_ k_∨w.heap.size≤k_)) (.slice (some ⟨go6,0,none⟩) ae.length co2) ag:=(by rw [hw,ap.out];exact ax.1);clear ax;replace HB:=zm ((by rw [hw];exact zk (HB.out) GB6.out : Below w0.heap.size w0 w11));replace HK:=zm (Kept.of_grown (S:=(fun k_=>P0_ k_)) hg (by repeat (first|(with_reducible first|exact HK.out|apply Kept.alloc|apply Kept.drewN|apply Kept.drew)|exact HK.out)) (fun k_ e_=>(ac.out.1 k_ e_)));replace ac:=zm (hp_);clear hg hw hp_;have am : 0≤(aa : Int):=yt;have ao : aa < (ag.length : Int):=(by have h_ : (aa : Int) < ((ae.length : Int) : Int):=yt;first|(have e_:=(Kd.R_reads' ac.out).1;omega)|simpa only [ap.out,List.length_set] using h_);have ql840 : ((aa : Int) < ((ae.length : Int) : Int))=True:=eq_true (yt);obtain ⟨au,aw,af⟩:=Kd.at_int (Kd.R_reads' ac.out).2.2 aa am ao;obtain rfl : (⟨go6,0,none⟩ : Addr)=au:=(by injection aw);(first|simp only [add_plain] at af|simp only [add_at] at af|simp only [Addr.add,Nat.zero_add] at af|skip);replace am:=eq_true am;replace ao:=eq_true ao))
   first|go_end0|((try simp only [Exit.inBlock,Exit.then]);refine bodyPost_ret (results_none rfl _ _ _) rfl ?_)
   exact ⟨ye,(by first|exact (yr ac)|(simp only [ah];exact (yr ac))),yhb,by repeat (first|(with_reducible first|exact HK.out|apply Kept.alloc|apply Kept.drewN|apply Kept.drew)|exact HK.out)⟩
  rw [if_neg c3] at H
  have aC:=yGl c3
  clear c3
  obtain rfl:=Option.some.inj H
  go_wp2
  first|go_end0|((try simp only [Exit.inBlock,Exit.then]);refine bodyPost_ret (results_none rfl _ _ _) rfl ?_)
  exact ⟨ye,(by first|exact (yr ac)|(simp only [ah];exact (yr ac))),yhb,by repeat (first|(with_reducible first|exact HK.out|apply Kept.alloc|apply Kept.drewN|apply Kept.drew)|exact HK.out)⟩
end Go.Proofs.Ytifkhfnmbiefaaa.Prt
