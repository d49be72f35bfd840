-- Functions of the program and of the document as plain Lean, each with the proof that the code comes to it. Written by a program of this session (wip/tools/myprint.py, pack.py) over the kit's printer; Lean checks it.
import Derived.Test.YtkaoiblgfpphoaaZGainBackPrt0
import Derived.Test.YtkaoiblgfpphoaaZGainBackSh
namespace Go.Proofs.Ytkaoiblgfpphoaa.Prt
open Go.RowKit Go.Proofs.YtkaoiblgfpphoaaW.PrintWords Go.Proofs.YtkaoiblgfpphoaaW.PrintLast Go.Proofs.YtkaoiblgfpphoaaW.PrintMore
attribute [local go_sem] max2_int min2_int max_two min_two max_three min_three max_four min_four   -- for this text's walks alone
set_option linter.unusedVariables false
set_option linter.unusedSimpArgs false


def coder_New.f  : Option (Int × Int × List Int):=some (0,4294967295,([] : List Int))
set_option maxHeartbeats 8000000 in
set_option maxRecDepth 100000 in
theorem coder_New.calls  (r1 : Int) (r2 : Int) (r3 : List Int) (w : World) (h : coder_New.f  = some (r1,r2,r3)) :
  Calls Try.prog 29 #[] w fun e w' => ∃ v2_ : Value,e=.returned (.agg #[.int .u64 r1, .int .u32 r2,v2_])∧Kd.R (Kd.int .u8) 5 w' w.heap.size (fun _=>True) v2_ r3∧Below w.heap.size w w' := by
 have hu26:=Try.underlying26;have HB:=zm (Below.refl w.heap.size w)
 have H : (some (0,4294967295,([] : List Int)))=some (r1,r2,r3):=h
 clear h
 simp only [Option.some.injEq,Prod.mk.injEq] at H
 obtain ⟨rfl,rfl,rfl⟩:=H
 go_enter Try.func29,Try.ntmps29
 go_wp2_with (first|((with_reducible refine gate_dst (N:=0) rfl ?_);refine ybx 0 #[.int .u64 0, .int .u32 0, .slice none 0 0] 26 ?_;intro gb102 hg w1 hbox hb;have BK102:=zm (hbox);have GW102:=ygw hg;have GE102:=ygw hg;replace HB:=ybs hb;clear hb hbox hg;obtain ⟨_,_,_,_,_,_⟩:=yc3 BK102))
 refine bodyPost_ret (results_cell_row rfl _ _ gb102 26 #[.int .u64 0, .int .u32 4294967295, .slice none 0 0] (0,0) _ rfl (ykp BK102) Try.underlying26 rfl (by kernel_rfl)) rfl ?_
 exact ⟨_,ye,yn,yhb⟩
def coder_RightEnc.f (a0_0 : Int) (a0_1 : Int) (l0_2 : List Int) : Option (Bool):=if a0_0≤4294967295 then (if a0_1 ≥ 16777216 then (some (decide ((l0_2.length : Int)≤4000))) else (some false)) else (some false)
set_option maxHeartbeats 8000000 in
set_option maxRecDepth 100000 in
theorem coder_RightEnc.calls (a0_0 : Int) (a0_1 : Int) (A0_2 : Option Addr) (c0_2 : Nat) (l0_2 : List Int) (r : Bool) (w : World) (hr0_2 : Kd.C (Kd.int .u8) w A0_2 l0_2.length l0_2) (hc0_2 : l0_2.length≤c0_2) (h : coder_RightEnc.f a0_0 a0_1 l0_2=some r) :
  Calls Try.prog 21 #[.agg #[.int .u64 a0_0, .int .u32 a0_1, .slice A0_2 l0_2.length c0_2]] w fun e w' => e=.returned (.bool r)∧Below w.heap.size w w' := by
 have hu26:=Try.underlying26;have HR0_2:=zm hr0_2;have HC0_2:=zm hc0_2;clear hr0_2 hc0_2;have HB:=zm (Below.refl w.heap.size w)
 have H : (if a0_0≤4294967295 then (if a0_1 ≥ 16777216 then (some (decide ((l0_2.length : Int)≤4000))) else (some false)) else (some false))=some r:=h
 clear h
 by_cases c2 : a0_0≤4294967295
 ·
  rw [if_pos c2] at H
  have c2b0 : decide (a0_0≤4294967295)=true:=decide_eq_true c2
  clear c2
  by_cases c3 : a0_1 ≥ 16777216
  ·
   rw [if_pos c3] at H
   have c3b0 : decide (16777216≤a0_1)=true:=decide_eq_true c3
   clear c3
   obtain rfl:=Option.some.inj H
   go_enter Try.func21,Try.ntmps21
   go_wp2_with (first|((with_reducible refine gate_dst (N:=1) rfl ?_);(try (refine gate_guard (by rfl) ?_;dsimp only));refine ybx 1 #[.int .u64 a0_0, .int .u32 a0_1, .slice A0_2 l0_2.length c0_2] 26 ?_;intro gb101 hg w4 hbox hb;have BK101:=zm (hbox);have GW101:=ygw hg;have GE101:=ygw hg;replace HB:=ybs hb;clear hb hbox hg;obtain ⟨_,_,_,_,_,_⟩:=yc3 BK101))
   go_ret
   exact ⟨ye,yhb⟩
  ·
   rw [if_neg c3] at H
   have c3b0 : decide (16777216≤a0_1)=false:=decide_eq_false c3
   clear c3
   obtain rfl:=Option.some.inj H
   go_enter Try.func21,Try.ntmps21
   go_wp2_with (first|((with_reducible refine gate_dst (N:=1) rfl ?_);(try (refine gate_guard (by rfl) ?_;dsimp only));refine ybx 1 #[.int .u64 a0_0, .int .u32 a0_1, .slice A0_2 l0_2.length c0_2] 26 ?_;intro gb101 hg w6 hbox hb;have BK101:=zm (hbox);have GW101:=ygw hg;have GE101:=ygw hg;replace HB:=ybs hb;clear hb hbox hg;obtain ⟨_,_,_,_,_,_⟩:=yc3 BK101))
   go_ret
   exact ⟨ye,yhb⟩
 ·
  rw [if_neg c2] at H
  have c2b0 : decide (a0_0≤4294967295)=false:=decide_eq_false c2
  clear c2
  obtain rfl:=Option.some.inj H
  go_enter Try.func21,Try.ntmps21
  go_wp2_with (first|((with_reducible refine gate_dst (N:=1) rfl ?_);(try (refine gate_guard (by rfl) ?_;dsimp only));refine ybx 1 #[.int .u64 a0_0, .int .u32 a0_1, .slice A0_2 l0_2.length c0_2] 26 ?_;intro gb101 hg w8 hbox hb;have BK101:=zm (hbox);have GW101:=ygw hg;have GE101:=ygw hg;replace HB:=ybs hb;clear hb hbox hg;obtain ⟨_,_,_,_,_,_⟩:=yc3 BK101))
  go_ret
  exact ⟨ye,yhb⟩
def coder_own.f (a0_0 : Int) (a0_1 : Int) (l0_2 : List Int) : Option (Int × Int × List Int):=(coder_RightEnc.f a0_0 a0_1 l0_2).bind fun t105=>(if t105=true then ((some (([] : List Int) : List Int)).bind fun y106=>(if y106.length+l0_2.length < 140737488355328 then (some (a0_0,a0_1,(y106 ++ l0_2))) else (none))) else ((coder_New.f).bind fun bt112=>(some (bt112.1,bt112.2.1,bt112.2.2))))
set_option maxHeartbeats 8000000 in
set_option maxRecDepth 100000 in
theorem coder_own.calls (a0_0 : Int) (a0_1 : Int) (A0_2 : Option Addr) (c0_2 : Nat) (l0_2 : List Int) (r1 : Int) (r2 : Int) (r3 : List Int) (w : World) (hr0_2 : Kd.C (Kd.int .u8) w A0_2 l0_2.length l0_2) (hc0_2 : l0_2.length≤c0_2) (h : coder_own.f a0_0 a0_1 l0_2=some (r1,r2,r3)) :
  Calls Try.prog 51 #[.agg #[.int .u64 a0_0, .int .u32 a0_1, .slice A0_2 l0_2.length c0_2]] w fun e w' => ∃ v2_ : Value,e=.returned (.agg #[.int .u64 r1, .int .u32 r2,v2_])∧Kd.R (Kd.int .u8) 5 w' w.heap.size (fun _=>True) v2_ r3∧Below w.heap.size w w' := by
 have hu26:=Try.underlying26;have HR0_2:=zm hr0_2;have HC0_2:=zm hc0_2;clear hr0_2 hc0_2;have HB:=zm (Below.refl w.heap.size w)
 have H : ((coder_RightEnc.f a0_0 a0_1 l0_2).bind fun t105=>(if t105=true then ((some (([] : List Int) : List Int)).bind fun y106=>(if y106.length+l0_2.length < 140737488355328 then (some (a0_0,a0_1,(y106 ++ l0_2))) else (none))) else ((coder_New.f).bind fun bt112=>(some (bt112.1,bt112.2.1,bt112.2.2)))))=some (r1,r2,r3):=h
 clear h
 replace H:=ybi H;obtain ⟨t105,A2,H⟩:=H
 by_cases c3 : t105=true
 ·
  subst c3
  rw [if_pos rfl] at H
  obtain ⟨y106,hy106⟩ : ∃ y_ : List Int,y_=(([] : List Int)):=⟨_,rfl⟩
  replace H : (if y106.length+l0_2.length < 140737488355328 then (some (a0_0,a0_1,(y106 ++ l0_2))) else (none))=some (r1,r2,r3):=yrw hy106 H
  have Ny106:=zm hy106;clear hy106
  replace H:=yif H;obtain ⟨c4,H⟩:=H
  have LMc4:=zm c4;clear c4
  obtain ⟨y109,hy109⟩ : ∃ y_ : List Int,y_=(y106 ++ l0_2):=⟨_,rfl⟩
  replace H : (some (a0_0,a0_1,y109))=some (r1,r2,r3):=yrw hy109 H
  have Ny109:=zm hy109;clear hy109
  simp only [Option.some.injEq,Prod.mk.injEq] at H
  obtain ⟨rfl,rfl,rfl⟩:=H
  go_enter Try.func51,Try.ntmps51
  go_wp2_with (first|((with_reducible refine gate_dst (N:=1) rfl ?_);refine ybx 1 #[.int .u64 a0_0, .int .u32 a0_1, .slice A0_2 l0_2.length c0_2] 26 ?_;intro gb103 hg w5 hbox hb;have BK103:=zm (hbox);have GW103:=ygw hg;have GE103:=ygw hg;replace HB:=ybs hb;clear hb hbox hg)|((with_reducible refine gate_dst (N:=2) rfl ?_);refine ybx 2 #[.int .u64 0, .int .u32 0, .slice none 0 0] 26 ?_;intro gb104 hg w6 hbox hb;have BK104:=zm (hbox);have GW104:=ygw hg;have GE104:=ygw hg;replace HB:=ybs hb;have NB103_104:=ynl BK103 hg;have NB104_103:=yng BK103 hg;replace BK103:=ybb BK103 hb;clear hb hbox hg;have:=NB103_104.out;have:=NB104_103.out;obtain ⟨_,_,_,_,_,_⟩:=yc3 BK103)|((with_reducible refine gate_callee (f:=21) rfl ?_);refine ygl 4 Try.func21 #[.agg #[.int .u64 a0_0, .int .u32 a0_1, .slice A0_2 l0_2.length c0_2]] ?_;(with_reducible refine (coder_RightEnc.calls a0_0 a0_1 _ _ l0_2 true _ ?side1 HC0_2.out A2.out).mono ?_);(case side1=>exact ycb HR0_2);rintro e w9 ⟨rfl,hb⟩;refine ⟨_,rfl, ?_⟩;replace BK103:=ybb BK103 hb;replace BK104:=ybb BK104 hb;replace HB:=ybs hb;(try clear hb))|((with_reducible refine gate_dst (N:=7) rfl ?_);refine Kd.R_lit (Kd.int .u8) _ 5 ?hg (N:=7) ?hd (xs:=([] : List Int)) (inner := []) (ok:=fun _=>True) (okp:=fun _=>True) ?hr ?hp (fun _ hk=>hk) trivial (Below.refl _ _) (Nat.le_refl _) (by simp) ?_;(case hd=>rfl);(case hg=>rfl);(case hr=>first|(go_simp;done)|(go_simp;rfl));(case hp=>exact (Reps.none _ _));intro v107 w10 ho11 hb hg_ hnew_;clear hg_ hnew_;(first|rw [← Ny106.out] at ho11|(simp only [Int.reduceToNat] at ho11;rw [← Ny106.out] at ho11));have HO108:=zm (Kd.R_lower ho11 (zE yhb));replace BK103:=ybb BK103 hb;replace BK104:=ybb BK104 hb;replace HB:=ybs hb;clear hb ho11;obtain ⟨_,_,_,_,_,_⟩:=yc3 BK103)|((with_reducible refine gate_builtin (b:=.append) (xs := #[.tmp 7, .tmp 9]) rfl ?_);at_builtin;refine Kd.R_append_rows (Kd.int .u8) (w0:=w) w.heap.size rfl (.tmp 7) (.tmp 9) 24 5 (.int .u8 0) 1 rfl Try.underlying24 info5 rfl (by decide) (by omega) v107 y106 l0_2 _ _ _ (fun _=>True) (fun _=>False) rfl rfl ?aO ?aR (fun _ _ h=>h) (fun _ h=>h.elim) ?aF ?aB ?aS ?aL ?_;(case aR=>exact ycb HR0_2);(case aB=>exact yhb);(case aF=>exact (fun _ _=>trivial));(case aO=>exact (yr HO108));(case aS=>exact (zE yhb));(case aL=>have:=LMc4.out;omega);intro v110 w13 ho hb hg hat;rw [← Ny109.out] at ho;replace BK103:=zm (blk_grown (yk BK103) hg (zu HO108.out BK103.out (by decide)));replace BK104:=zm (blk_grown (yk BK104) hg (zu HO108.out BK104.out (by decide)));replace HB:=zm (hb);have HO111:=zm (ho);clear HO108;clear ho hb hg hat;obtain ⟨Ao14,co14,eo14⟩:=Kd.R_slice HO111.out;subst eo14;obtain ⟨_,_,_,_,_,_⟩:=yc3 BK103;obtain ⟨_,_,_,_,_,_⟩:=yc3 BK104))
  refine bodyPost_ret (results_cell_row rfl _ _ gb104 26 #[.int .u64 a0_0, .int .u32 a0_1, .slice Ao14 y109.length co14] (0,0) _ rfl (ykp BK104) Try.underlying26 rfl (by kernel_rfl)) rfl ?_
  exact ⟨_,ye,yR2 HO111 BK103 BK104,yhb⟩
 ·
  replace c3:=Bool.eq_false_iff.mpr c3
  subst c3
  rw [ynf] at H
  replace H:=ybi H;obtain ⟨⟨t112,t113,t114⟩,A17,H⟩:=H
  try dsimp only at H
  simp only [Option.some.injEq,Prod.mk.injEq] at H
  obtain ⟨rfl,rfl,rfl⟩:=H
  go_enter Try.func51,Try.ntmps51
  go_wp2_with (first|((with_reducible refine gate_dst (N:=1) rfl ?_);refine ybx 1 #[.int .u64 a0_0, .int .u32 a0_1, .slice A0_2 l0_2.length c0_2] 26 ?_;intro gb103 hg w18 hbox hb;have BK103:=zm (hbox);have GW103:=ygw hg;have GE103:=ygw hg;replace HB:=ybs hb;clear hb hbox hg)|((with_reducible refine gate_dst (N:=2) rfl ?_);refine ybx 2 #[.int .u64 0, .int .u32 0, .slice none 0 0] 26 ?_;intro gb104 hg w19 hbox hb;have BK104:=zm (hbox);have GW104:=ygw hg;have GE104:=ygw hg;replace HB:=ybs hb;have NB103_104:=ynl BK103 hg;have NB104_103:=yng BK103 hg;replace BK103:=ybb BK103 hb;clear hb hbox hg;have:=NB103_104.out;have:=NB104_103.out;obtain ⟨_,_,_,_,_,_⟩:=yc3 BK103)|((with_reducible refine gate_callee (f:=21) rfl ?_);refine ygl 4 Try.func21 #[.agg #[.int .u64 a0_0, .int .u32 a0_1, .slice A0_2 l0_2.length c0_2]] ?_;(with_reducible refine (coder_RightEnc.calls a0_0 a0_1 _ _ l0_2 false _ ?side1 HC0_2.out A2.out).mono ?_);(case side1=>exact ycb HR0_2);rintro e w22 ⟨rfl,hb⟩;refine ⟨_,rfl, ?_⟩;replace BK103:=ybb BK103 hb;replace BK104:=ybb BK104 hb;replace HB:=ybs hb;(try clear hb))|((with_reducible refine gate_callee (f:=29) rfl ?_);refine ygl 6 Try.func29 #[] ?_;(with_reducible refine (coder_New.calls  t112 t113 t114 _ A17.out).mono ?_);rintro e w23 ⟨v115,rfl,ho0,hb⟩;refine ⟨_,rfl, ?_⟩;have HO116:=zm (Kd.R_lower ho0 (zE yhb));replace BK103:=ybb BK103 hb;replace BK104:=ybb BK104 hb;replace HB:=ybs hb;(try clear hb);(try clear ho0);obtain ⟨_,_,_,_,_,_⟩:=yc3 BK104;obtain ⟨Ao25,co25,eo25⟩:=Kd.R_slice HO116.out;subst eo25))
  refine bodyPost_ret (results_cell_row rfl _ _ gb104 26 #[.int .u64 t112, .int .u32 t113, .slice Ao25 t114.length co25] (0,0) _ rfl (ykp BK104) Try.underlying26 rfl (by kernel_rfl)) rfl ?_
  exact ⟨_,ye,yR1 HO116 BK104,yhb⟩
def coder_Finish.f (a0_0 : Int) (a0_1 : Int) (l0_2 : List Int) : Option (List Int):=(coder_own.f a0_0 a0_1 l0_2).bind fun bt135=>((some (([(bt135.1 / 16777216) % 256,(bt135.1 / 65536) % 256,(bt135.1 / 256) % 256,(bt135.1) % 256] : List Int) : List Int)).bind fun y140=>(if bt135.2.2.length+y140.length < 140737488355328 then (some (bt135.2.2 ++ y140)) else (none)))
set_option maxHeartbeats 8000000 in
set_option maxRecDepth 100000 in
theorem coder_Finish.calls (a0_0 : Int) (a0_1 : Int) (A0_2 : Option Addr) (c0_2 : Nat) (l0_2 : List Int) (r : List Int) (w : World) (hr0_2 : Kd.C (Kd.int .u8) w A0_2 l0_2.length l0_2) (hc0_2 : l0_2.length≤c0_2) (h : coder_Finish.f a0_0 a0_1 l0_2=some r) :
  Calls Try.prog 24 #[.agg #[.int .u64 a0_0, .int .u32 a0_1, .slice A0_2 l0_2.length c0_2]] w fun e w' => ∃ v0_ : Value,e=.returned (v0_)∧Kd.R (Kd.int .u8) 5 w' w.heap.size (fun _=>True) v0_ r∧Below w.heap.size w w' := by
 have hu26:=Try.underlying26;have HR0_2:=zm hr0_2;have HC0_2:=zm hc0_2;clear hr0_2 hc0_2;have HB:=zm (Below.refl w.heap.size w)
 have H : ((coder_own.f a0_0 a0_1 l0_2).bind fun bt135=>((some (([(bt135.1 / 16777216) % 256,(bt135.1 / 65536) % 256,(bt135.1 / 256) % 256,(bt135.1) % 256] : List Int) : List Int)).bind fun y140=>(if bt135.2.2.length+y140.length < 140737488355328 then (some (bt135.2.2 ++ y140)) else (none))))=some r:=h
 clear h
 replace H:=ybi H;obtain ⟨⟨t135,t136,t137⟩,A2,H⟩:=H
 try dsimp only at H
 obtain ⟨y140,hy140⟩ : ∃ y_ : List Int,y_=(([(t135 / 16777216) % 256,(t135 / 65536) % 256,(t135 / 256) % 256,(t135) % 256] : List Int)):=⟨_,rfl⟩
 replace H : (if t137.length+y140.length < 140737488355328 then (some (t137 ++ y140)) else (none))=some r:=yrw hy140 H
 have Ny140:=zm hy140;clear hy140
 replace H:=yif H;obtain ⟨c3,H⟩:=H
 have LMc3:=zm c3;clear c3
 obtain ⟨y143,hy143⟩ : ∃ y_ : List Int,y_=(t137 ++ y140):=⟨_,rfl⟩
 replace H : (some y143)=some r:=yrw hy143 H
 have Ny143:=zm hy143;clear hy143
 obtain rfl:=Option.some.inj H
 go_enter Try.func24,Try.ntmps24
 go_wp2_with (first|((with_reducible refine gate_dst (N:=1) rfl ?_);refine ybx 1 #[.int .u64 a0_0, .int .u32 a0_1, .slice A0_2 l0_2.length c0_2] 26 ?_;intro gb134 hg w4 hbox hb;have BK134:=zm (hbox);have GW134:=ygw hg;have GE134:=ygw hg;replace HB:=ybs hb;clear hb hbox hg;obtain ⟨_,_,_,_,_,_⟩:=yc3 BK134)|((with_reducible refine gate_callee (f:=51) rfl ?_);refine ygl 4 Try.func51 #[.agg #[.int .u64 a0_0, .int .u32 a0_1, .slice A0_2 l0_2.length c0_2]] ?_;(with_reducible refine (coder_own.calls a0_0 a0_1 _ _ l0_2 t135 t136 t137 _ ?side1 HC0_2.out A2.out).mono ?_);(case side1=>exact ycb HR0_2);rintro e w6 ⟨v138,rfl,ho0,hb⟩;refine ⟨_,rfl, ?_⟩;have HO139:=zm (Kd.R_lower ho0 (zE yhb));replace BK134:=ybb BK134 hb;replace HB:=ybs hb;(try clear hb);(try clear ho0);obtain ⟨_,_,_,_,_,_⟩:=yc3 BK134;obtain ⟨Ao8,co8,eo8⟩:=Kd.R_slice HO139.out;subst eo8)|((with_reducible refine gate_dst (N:=22) rfl ?_);refine Kd.R_lit (Kd.int .u8) _ 5 ?hg (N:=22) ?hd (xs:=([(t135 / 16777216) % 256,(t135 / 65536) % 256,(t135 / 256) % 256,(t135) % 256] : List Int)) (inner := [.int .u8 ((t135 / 16777216) % 256), .int .u8 ((t135 / 65536) % 256), .int .u8 ((t135 / 256) % 256), .int .u8 ((t135) % 256)]) (ok:=fun _=>True) (okp:=fun _=>True) ?hr ?hp (fun _ hk=>hk) trivial (Below.refl _ _) (Nat.le_refl _) (by simp) ?_;(case hd=>rfl);(case hg=>rfl);(case hr=>first|(go_simp;done)|(go_simp;rfl));(case hp=>exact (Reps.one (show Kd.M (Kd.int .u8) _ _ _ ((t135 / 16777216) % 256) [.int .u8 ((t135 / 16777216) % 256)] from rfl) (Reps.one (show Kd.M (Kd.int .u8) _ _ _ ((t135 / 65536) % 256) [.int .u8 ((t135 / 65536) % 256)] from rfl) (Reps.one (show Kd.M (Kd.int .u8) _ _ _ ((t135 / 256) % 256) [.int .u8 ((t135 / 256) % 256)] from rfl) (Reps.one (show Kd.M (Kd.int .u8) _ _ _ ((t135) % 256) [.int .u8 ((t135) % 256)] from rfl) (Reps.none _ _))))));intro v141 w9 ho10 hb hg_ hnew_;clear hg_ hnew_;(first|rw [← Ny140.out] at ho10|(simp only [Int.reduceToNat] at ho10;rw [← Ny140.out] at ho10));have HO142:=zm (Kd.R_lower (Kd.R_new' ho10 (Kd.R_lt (yR1 HO139 BK134))) (zE yhb));replace HO139:=zm (Kd.R_elder' (yR1 HO139 BK134) (Kd.R_base ho10) hb);replace BK134:=zm (zF (g:=gb134) (o:=.cells #[.int .u64 t135, .int .u32 t136, .slice Ao8 t137.length co8] 26 (0,0)) (ykp BK134) hb);replace HB:=ybs hb;clear hb ho10;obtain ⟨Ao12,co12,eo12⟩:=Kd.R_slice HO142.out;subst eo12)|((with_reducible refine gate_builtin (b:=.append) (xs := #[.tmp 6, .tmp 22]) rfl ?_);at_builtin;refine Kd.R_append_rows (Kd.int .u8) (w0:=w) w.heap.size rfl (.tmp 6) (.tmp 22) 24 5 (.int .u8 0) 1 rfl Try.underlying24 info5 rfl (by decide) (by omega) (.slice Ao8 t137.length co8) t137 y140 _ _ _ (fun k_=>some k_≠(.slice Ao12 y140.length co12 : Value).ownBlock) (fun _=>False) rfl rfl ?aO ?aR (fun _ _ h=>h) (fun _ h=>h.elim) ?aF ?aB ?aS ?aL ?_;(case aR=>exact yce (Kd.R_reads' HO142.out).2.2);(case aB=>exact yhb);(case aF=>exact (fun k_ hk=>Kd.fresh' (Kd.R_lt (yr HO142)) k_ hk));(case aO=>exact (yR0 HO139));(case aS=>exact (zE yhb));(case aL=>have:=LMc3.out;omega);intro v144 w11 ho hb hg hat;rw [← Ny143.out] at ho;replace BK134:=zm (blk_grown (yk BK134) hg (zu HO139.out BK134.out (by decide)));replace HO142:=zm (Kd.R_after (ok:=(fun _=>True)) (yr HO142) hg hat);replace HB:=zm (hb);have HO145:=zm (ho);clear HO139;clear ho hb hg hat))
 go_ret
 exact ⟨_,ye,yR0 HO145,yhb⟩
def coder_at.f (l0 : List Int) (a1 : Int) : Option (Int):=if a1 ≥ (l0.length : Int) then (some 0) else (if 0≤a1 then (if a1 < (l0.length : Int) then (some (IntKind.u64.wrap (rd l0 a1))) else (none)) else (none))
set_option maxHeartbeats 8000000 in
set_option maxRecDepth 100000 in
theorem coder_at.calls (A0 : Option Addr) (c0 : Nat) (l0 : List Int) (a1 : Int) (r : Int) (w : World) (hr0 : Kd.C (Kd.int .u8) w A0 l0.length l0) (hc0 : l0.length≤c0) (h : coder_at.f l0 a1=some r) :
  Calls Try.prog 58 #[.slice A0 l0.length c0, .int .i64 a1] w fun e w' => e=.returned (.int .u64 r)∧Drawn0 w w' := by
 have HR0:=zm hr0;have HC0:=zm hc0;clear hr0 hc0
 have H : (if a1 ≥ (l0.length : Int) then (some 0) else (if 0≤a1 then (if a1 < (l0.length : Int) then (some (IntKind.u64.wrap (rd l0 a1))) else (none)) else (none)))=some r:=h
 clear h
 by_cases c3 : a1 ≥ (l0.length : Int)
 ·
  rw [if_pos c3] at H
  have c3b0 : decide ((l0.length : Int)≤a1)=true:=decide_eq_true c3
  clear c3
  obtain rfl:=Option.some.inj H
  go_enter Try.func58,Try.ntmps58
  go_wp2
  go_ret
  exact ⟨yq,yd⟩
 ·
  rw [if_neg c3] at H
  have c3b0 : decide ((l0.length : Int)≤a1)=false:=decide_eq_false c3
  clear c3
  replace H:=yif H;obtain ⟨c4,H⟩:=H
  have c4b0 : decide (0≤a1)=true:=decide_eq_true c4
  clear c4
  replace H:=yif H;obtain ⟨c5,H⟩:=H
  have c5b0 : decide (a1 < (l0.length : Int))=true:=decide_eq_true c5
  clear c5
  obtain rfl:=Option.some.inj H
  obtain ⟨ad146,e146,hx146_0,p146,q146⟩:=yai HR0 a1
  cases e146
  go_enter Try.func58,Try.ntmps58
  go_wp2
  go_ret
  exact ⟨yq,yd⟩
def coder_Open.f (l0 : List Int) : Option (Int × Int × List Int × Int):=(coder_at.f l0 0).bind fun t148=>((coder_at.f l0 1).bind fun t149=>((coder_at.f l0 2).bind fun t150=>((coder_at.f l0 3).bind fun t151=>(some (Go.bits .or .u64 (Go.bits .or .u64 (Go.bits .or .u64 (IntKind.u64.wrap (t148 * 16777216)) (IntKind.u64.wrap (t149 * 65536))) (IntKind.u64.wrap (t150 * 256))) t151,4294967295,l0,4)))))
set_option maxHeartbeats 8000000 in
set_option maxRecDepth 100000 in
theorem coder_Open.calls (P0_ : Nat→Prop) (A0 : Option Addr) (c0 : Nat) (l0 : List Int) (r1 : Int) (r2 : Int) (r3 : List Int) (r4 : Int) (w : World) (hs0 : Kd.V (Kd.int .u8) 5 w w.heap.size (fun k_=>P0_ k_) (.slice A0 l0.length c0) l0) (h : coder_Open.f l0=some (r1,r2,r3,r4)) :
  Calls Try.prog 26 #[.slice A0 l0.length c0] w fun e w' => ∃ v2_ : Value,e=.returned (.agg #[.int .u64 r1, .int .u32 r2,v2_, .int .i64 r4])∧Kd.V (Kd.int .u8) 5 w' w.heap.size (fun k_=>(P0_ k_∨w.heap.size≤k_)) v2_ r3∧Below w.heap.size w w' := by
 have hu43:=Try.underlying43
 have HO0:=zm (show Kd.V (Kd.int .u8) 5 w w.heap.size (fun k_=>(P0_ k_∨w.heap.size≤k_)) (.slice A0 l0.length c0) l0 from zy hs0 (fun k_ hk => .inl hk))
 have HB:=zm (Below.refl w.heap.size w)
 have H : ((coder_at.f l0 0).bind fun t148=>((coder_at.f l0 1).bind fun t149=>((coder_at.f l0 2).bind fun t150=>((coder_at.f l0 3).bind fun t151=>(some (Go.bits .or .u64 (Go.bits .or .u64 (Go.bits .or .u64 (IntKind.u64.wrap (t148 * 16777216)) (IntKind.u64.wrap (t149 * 65536))) (IntKind.u64.wrap (t150 * 256))) t151,4294967295,l0,4))))))=some (r1,r2,r3,r4):=h
 clear h
 replace H:=ybi H;obtain ⟨t148,A2,H⟩:=H
 replace H:=ybi H;obtain ⟨t149,A3,H⟩:=H
 replace H:=ybi H;obtain ⟨t150,A4,H⟩:=H
 replace H:=ybi H;obtain ⟨t151,A5,H⟩:=H
 simp only [Option.some.injEq,Prod.mk.injEq] at H
 obtain ⟨rfl,rfl,rfl,rfl⟩:=H
 go_enter Try.func26,Try.ntmps26
 go_wp2_with (first|((with_reducible refine gate_dst (N:=2) rfl ?_);refine ybx 2 #[.int .u64 0, .int .u32 0, .slice none 0 0, .int .i64 0] 43 ?_;intro gb147 hg w6 hbox hb;replace HO0:=yVe HO0 hg hb;have BK147:=zm (hbox);have GW147:=ygw hg;have GE147:=ygw hg;replace HB:=ybs hb;clear hb hbox hg)|((with_reducible refine gate_callee (f:=58) rfl ?_);refine ygl 4 Try.func58 #[.slice A0 l0.length c0, .int .i64 0] ?_;(with_reducible refine (coder_at.calls _ _ l0 0 t148 _ ?side1 ?side2 A2.out).mono ?_);(case side1=>exact yce (Kd.V_reads' HO0.out).2.2);(case side2=>exact (Kd.V_reads' HO0.out).2.1);rintro e w' ⟨rfl,⟨nd,rfl⟩⟩;refine ⟨_,rfl, ?_⟩;(try (rw [drewN_self w6];generalize hq_ : World.drewN w6 _=w6;have n0_ : Aside0 (Kd.V (Kd.int .u8) 5 w6 w.heap.size (fun k_=>(P0_ k_∨w.heap.size≤k_)∧k_≠gb147) (.slice A0 l0.length c0) l0):=⟨by rw [← hq_];exact (yr HO0)⟩;have n1_ : Aside0 (w6.heap[gb147]? = some (.cells #[.int .u64 0, .int .u32 0, .slice none 0 0, .int .i64 0] 43 (0,0))):=⟨by rw [← hq_];exact (yk BK147)⟩;have n2_ : Aside0 (Below w.heap.size w w6):=⟨by rw [← hq_];exact yhb⟩;clear HO0 BK147 HB hq_;have HO0:=n0_;have BK147:=n1_;have HB:=n2_;clear n0_ n1_ n2_)))|((with_reducible refine gate_callee (f:=58) rfl ?_);refine ygl 7 Try.func58 #[.slice A0 l0.length c0, .int .i64 1] ?_;(with_reducible refine (coder_at.calls _ _ l0 1 t149 _ ?side1 ?side2 A3.out).mono ?_);(case side1=>exact yce (Kd.V_reads' HO0.out).2.2);(case side2=>exact (Kd.V_reads' HO0.out).2.1);rintro e w' ⟨rfl,⟨nd,rfl⟩⟩;refine ⟨_,rfl, ?_⟩;(try (rw [drewN_self w6];generalize hq_ : World.drewN w6 _=w6;have n0_ : Aside0 (Kd.V (Kd.int .u8) 5 w6 w.heap.size (fun k_=>(P0_ k_∨w.heap.size≤k_)∧k_≠gb147) (.slice A0 l0.length c0) l0):=⟨by rw [← hq_];exact (yr HO0)⟩;have n1_ : Aside0 (w6.heap[gb147]? = some (.cells #[.int .u64 0, .int .u32 0, .slice none 0 0, .int .i64 0] 43 (0,0))):=⟨by rw [← hq_];exact (yk BK147)⟩;have n2_ : Aside0 (Below w.heap.size w w6):=⟨by rw [← hq_];exact yhb⟩;clear HO0 BK147 HB hq_;have HO0:=n0_;have BK147:=n1_;have HB:=n2_;clear n0_ n1_ n2_)))|((with_reducible refine gate_callee (f:=58) rfl ?_);refine ygl 11 Try.func58 #[.slice A0 l0.length c0, .int .i64 2] ?_;(with_reducible refine (coder_at.calls _ _ l0 2 t150 _ ?side1 ?side2 A4.out).mono ?_);(case side1=>exact yce (Kd.V_reads' HO0.out).2.2);(case side2=>exact (Kd.V_reads' HO0.out).2.1);rintro e w' ⟨rfl,⟨nd,rfl⟩⟩;refine ⟨_,rfl, ?_⟩;(try (rw [drewN_self w6];generalize hq_ : World.drewN w6 _=w6;have n0_ : Aside0 (Kd.V (Kd.int .u8) 5 w6 w.heap.size (fun k_=>(P0_ k_∨w.heap.size≤k_)∧k_≠gb147) (.slice A0 l0.length c0) l0):=⟨by rw [← hq_];exact (yr HO0)⟩;have n1_ : Aside0 (w6.heap[gb147]? = some (.cells #[.int .u64 0, .int .u32 0, .slice none 0 0, .int .i64 0] 43 (0,0))):=⟨by rw [← hq_];exact (yk BK147)⟩;have n2_ : Aside0 (Below w.heap.size w w6):=⟨by rw [← hq_];exact yhb⟩;clear HO0 BK147 HB hq_;have HO0:=n0_;have BK147:=n1_;have HB:=n2_;clear n0_ n1_ n2_)))|((with_reducible refine gate_callee (f:=58) rfl ?_);refine ygl 15 Try.func58 #[.slice A0 l0.length c0, .int .i64 3] ?_;(with_reducible refine (coder_at.calls _ _ l0 3 t151 _ ?side1 ?side2 A5.out).mono ?_);(case side1=>exact yce (Kd.V_reads' HO0.out).2.2);(case side2=>exact (Kd.V_reads' HO0.out).2.1);rintro e w' ⟨rfl,⟨nd,rfl⟩⟩;refine ⟨_,rfl, ?_⟩;(try (rw [drewN_self w6];generalize hq_ : World.drewN w6 _=w6;have n0_ : Aside0 (Kd.V (Kd.int .u8) 5 w6 w.heap.size (fun k_=>(P0_ k_∨w.heap.size≤k_)∧k_≠gb147) (.slice A0 l0.length c0) l0):=⟨by rw [← hq_];exact (yr HO0)⟩;have n1_ : Aside0 (w6.heap[gb147]? = some (.cells #[.int .u64 0, .int .u32 0, .slice none 0 0, .int .i64 0] 43 (0,0))):=⟨by rw [← hq_];exact (yk BK147)⟩;have n2_ : Aside0 (Below w.heap.size w w6):=⟨by rw [← hq_];exact yhb⟩;clear HO0 BK147 HB hq_;have HO0:=n0_;have BK147:=n1_;have HB:=n2_;clear n0_ n1_ n2_));obtain ⟨_,_,_,_,_,_,_,_⟩:=yc4 BK147))
 refine bodyPost_ret (results_cell_row rfl _ _ gb147 43 #[.int .u64 (Go.bits .or .u64 (Go.bits .or .u64 (Go.bits .or .u64 (IntKind.u64.wrap (t148 * 16777216)) (IntKind.u64.wrap (t149 * 65536))) (IntKind.u64.wrap (t150 * 256))) t151), .int .u32 4294967295, .slice A0 l0.length c0, .int .i64 4] (0,0) _ rfl (ykp BK147) Try.underlying43 rfl (by kernel_rfl)) rfl ?_
 exact ⟨_,ye,yV0 HO0,yhb⟩
def coder_carry.l0 : Nat→List Int→Int→Option (List Int)
 | 0,_,_=>none
 | k+1,x0,x2=>if x2 ≥ 0 then (if 0≤x2 then (if x2 < (x0.length : Int) then ((some (x0.set (x2 : Int).toNat (((rd x0 x2)+1) % 256) : List Int)).bind fun y118=>(if (rd y118 x2)=0 then (coder_carry.l0 k y118 (wrap64 (x2 - 1))) else (some y118))) else (none)) else (none)) else (some x0)
def coder_carry.f (k : Nat) (l0 : List Int) : Option (List Int):=coder_carry.l0 k l0 (wrap64 ((l0.length : Int) - 1))
theorem coder_carry.mono_l : ∀ k,(∀ y0 y1,LeO (coder_carry.l0 k y0 y1) (coder_carry.l0 (k+1) y0 y1))
 | 0=>fun _ _ r h=>by simp [coder_carry.l0] at h
 | k+1=>by
  have ih0:=coder_carry.mono_l k
  ·
   intro y0 y1
   unfold coder_carry.l0
   repeat' with_reducible first|apply ih0|apply yLr|apply yLn|apply yLi|apply yLb|intro _
theorem coder_carry.mono : ∀ a0 k,LeO (coder_carry.f k a0) (coder_carry.f (k+1) a0):=by
 intro a0 k
 have ih0:=coder_carry.mono_l k
 unfold coder_carry.f
 repeat' with_reducible first|apply ih0|apply yLr|apply yLn|apply yLi|apply yLb|intro _
set_option maxHeartbeats 8000000 in
set_option maxRecDepth 100000 in
theorem coder_carry.calls (k : Nat) (P0_ : Nat→Prop) (u9000_ : Value) (l0 : List Int) (r : List Int) (w0 w : World) (hB : Below w0.heap.size w0 w) (ho0 : Kd.R (Kd.int .u8) 5 w w0.heap.size P0_ u9000_ l0) (h : coder_carry.f k l0=some r) :
  Calls Try.prog 54 #[u9000_] w fun e w' => e=.returned (.tuple #[])∧Kd.R (Kd.int .u8) 5 w' w0.heap.size (fun k_=>(P0_ k_∨w.heap.size≤k_)) u9000_ r∧Below w0.heap.size w0 w'∧Kept w w' (fun k_=>P0_ k_):=by
 have HO0:=zm (show Kd.R (Kd.int .u8) 5 w w0.heap.size (fun k_=>(P0_ k_∨w.heap.size≤k_)) u9000_ l0 from zG ho0 (fun k_ hk=>(.inl hk)))
 have HK:=zm (Kept.refl w (fun k_=>P0_ k_))
 have HW0:=zm hB.size;have HB:=zm hB;clear hB
 have H : (coder_carry.l0 k l0 (wrap64 ((l0.length : Int) - 1)))=some r:=h
 clear h
 have H' := zm H
 clear H
 obtain ⟨Ao2,co2,eo2⟩:=Kd.R_slice HO0.out
 subst eo2
 go_enter Try.func54,Try.ntmps54
 go_wp2
 go_step3
 go_wp2
 go_step3
 go_wp2
 go_loopg [2] k (fun kq v2 w' => ∃ (x0_1 : List Int) (x2_1 : Int),v2=.int .i64 x2_1∧Aside0 (coder_carry.l0 kq x0_1 x2_1=some r)∧Aside0 (kq≤k)∧Aside0 (Kd.R (Kd.int .u8) 5 w' w0.heap.size (fun k_=>(P0_ k_∨w.heap.size≤k_)) (.slice Ao2 l0.length co2) x0_1)∧Aside0 (Kept w w' (fun k_=>P0_ k_))∧Aside0 (Below w0.heap.size w0 w'))
 case atStart=>exact ⟨(l0),(wrap64 ((l0.length : Int) - 1)),yq,H',⟨Nat.le_refl _⟩,⟨yr HO0⟩,⟨by repeat (first|(with_reducible first|exact HK.out|apply Kept.alloc|apply Kept.drewN|apply Kept.drew)|exact HK.out)⟩,⟨yhb⟩⟩
 case round =>
  clear H'
  obtain ⟨x0_1,x2_1,rfl,HA,HK1,HO_0,HK,HB⟩:=hrel
  have hl0_1:=(Kd.R_reads' HO_0.out).1
  rw [hl0_1] at HO_0
  (try simp only [hl0_1])
  obtain ⟨k1,rfl⟩:=ysu gk (fun h=>by subst h;exact absurd HA.out (by simp [coder_carry.l0]))
  have H:=HA.out;clear HA
  simp only [coder_carry.l0] at H
  by_cases c3 : x2_1 ≥ 0
  ·
   rw [if_pos c3] at H
   have c3b0 : decide (0≤x2_1)=true:=decide_eq_true c3
   clear c3
   replace H:=yif H;obtain ⟨c4,H⟩:=H
   have c4b0 : decide (0≤x2_1)=true:=decide_eq_true c4
   clear c4
   replace H:=yif H;obtain ⟨c5,H⟩:=H
   have c5b0 : decide (x2_1 < (x0_1.length : Int))=true:=decide_eq_true c5
   clear c5
   obtain ⟨y118,hy118⟩ : ∃ y_ : List Int,y_=(x0_1.set (x2_1 : Int).toNat (((rd x0_1 x2_1)+1) % 256)):=⟨_,rfl⟩
   replace H : (if (rd y118 x2_1)=0 then (coder_carry.l0 k1 y118 (wrap64 (x2_1 - 1))) else (some y118))=some r:=yrw hy118 H
   have Ny118:=zm hy118;clear hy118
   by_cases c7 : (rd y118 x2_1)=0
   ·
    rw [if_pos c7] at H
    have c7b0 : ((rd y118 x2_1) == 0)=true:=beq_iff_eq.mpr c7
    have c7b1 : ((rd y118 x2_1) != 0)=false:=bne_eq_false_iff_eq.mpr c7
    clear c7
    have H' := zm H
    clear H
    have p117 : 0≤(x2_1 : Int):=yt
    have q117 : x2_1 < (x0_1.length : Int):=yt
    obtain ⟨ad117,e117,hx117_0⟩:=Kd.at_int (Kd.R_reads' HO_0.out).2.2 x2_1 p117 q117
    cases e117
    replace p117:=eq_true p117
    replace q117:=eq_true q117
    have p6 : 0≤(x2_1 : Int):=yt
    have q6 : (x2_1 : Int) < ((x0_1.length : Int) : Int):=yt
    obtain ⟨go6,co6,eo6,gb6,gl6,cl6,HG6⟩:=Kd.R_form HO_0.out (by omega)
    (first|cases eo6|(injection eo6 with ea_ en_ ec_;(first|subst ea_|(injection ea_ with ea_;subst ea_));subst ec_;clear en_))
    have GB6:=zm gb6;have GG6:=zm HG6;clear gb6 gl6 HG6
    have HMgo6:=zm (show (P0_ go6∨w.heap.size≤go6) from (HO_0.out.1 _ rfl))
    (first|simp only [add_plain] at hx117_0|skip)
    obtain ⟨hx6_0,hf6_0⟩:=Kd.R_celln 0 HO_0.out (x2_1 : Int) p6 q6
    replace p6:=eq_true p6
    replace q6:=eq_true q6
    have HP8:=Kd.R_putg HO_0.out (x2_1 : Int) (((rd x0_1 x2_1)+1) % 256)
    go_wp2_with (first|((with_reducible refine gate_store (t:=5) (p:=15) rfl ?_);refine store_event (t:=5) (p:=15) (v := ?vo_w9) (w1:=(wr.setCell ⟨go6,(x2_1 : Int).toNat,none⟩ (.int .u8 (((rd x0_1 x2_1)+1) % 256)))) ?hg ?ho ?hn ?hr ?_;(case ho=>rfl);(case hg=>rfl);(case hn=>rfl);(case hr=>first|(go_simp;done)|(go_simp;rfl));intro w9 hw;have hg : wr.grownBy w9 (some go6):=(by rw [hw];exact HP8.2);have hp_ : Kd.R (Kd.int .u8) 5 w9 w0.heap.size (fun k_=>(P0_ k_∨w.heap.size≤k_)) (.slice (some ⟨go6,0,none⟩) x0_1.length co2) y118:=(by rw [hw,Ny118.out];exact HP8.1);clear HP8;replace HB:=zm ((by rw [hw];exact zk (HB.out) GB6.out : Below w0.heap.size w0 w9));replace HK:=zm (Kept.of_grown (S:=(fun k_=>P0_ k_)) hg (by repeat (first|(with_reducible first|exact HK.out|apply Kept.alloc|apply Kept.drewN|apply Kept.drew)|exact HK.out)) (fun k_ e_=>(HO_0.out.1 k_ e_)));replace HO_0:=zm (hp_);clear hg hw hp_;have p119 : 0≤(x2_1 : Int):=yt;have q119 : x2_1 < (y118.length : Int):=(by have h_ : (x2_1 : Int) < ((x0_1.length : Int) : Int):=yt;first|(have e_:=(Kd.R_reads' HO_0.out).1;omega)|simpa only [Ny118.out,List.length_set] using h_);have ql119 : ((x2_1 : Int) < ((x0_1.length : Int) : Int))=True:=eq_true (yt);obtain ⟨ad119,e119,hx119_0⟩:=Kd.at_int (Kd.R_reads' HO_0.out).2.2 x2_1 p119 q119;obtain rfl : (⟨go6,0,none⟩ : Addr)=ad119:=(by injection e119);(first|simp only [add_plain] at hx119_0|simp only [add_at] at hx119_0|simp only [Addr.add,Nat.zero_add] at hx119_0|skip);replace p119:=eq_true p119;replace q119:=eq_true q119))
    (try simp only [← hl0_1])
    go_roundg k1
    case measure=>exact yom1 HK1
    case rel=>exact ⟨(y118),(wrap64 (x2_1 - 1)),yq,H',⟨yom1 HK1⟩,⟨by (try simp only [hl0_1]);(with_reducible repeat (first|apply zo|apply zp|apply zq));exact HO_0.out⟩,⟨by repeat (first|(with_reducible first|exact HK.out|apply Kept.alloc|apply Kept.drewN|apply Kept.drew)|exact HK.out)⟩,⟨yhb⟩⟩
   ·
    rw [if_neg c7] at H
    have c7b0 : ((rd y118 x2_1) == 0)=false:=beq_eq_false_iff_ne.mpr c7
    have c7b1 : ((rd y118 x2_1) != 0)=true:=bne_iff_ne.mpr c7
    obtain rfl:=Option.some.inj H
    have p117 : 0≤(x2_1 : Int):=yt
    have q117 : x2_1 < (x0_1.length : Int):=yt
    obtain ⟨ad117,e117,hx117_0⟩:=Kd.at_int (Kd.R_reads' HO_0.out).2.2 x2_1 p117 q117
    cases e117
    replace p117:=eq_true p117
    replace q117:=eq_true q117
    have p6 : 0≤(x2_1 : Int):=yt
    have q6 : (x2_1 : Int) < ((x0_1.length : Int) : Int):=yt
    obtain ⟨go6,co6,eo6,gb6,gl6,cl6,HG6⟩:=Kd.R_form HO_0.out (by omega)
    (first|cases eo6|(injection eo6 with ea_ en_ ec_;(first|subst ea_|(injection ea_ with ea_;subst ea_));subst ec_;clear en_))
    have GB6:=zm gb6;have GG6:=zm HG6;clear gb6 gl6 HG6
    have HMgo6:=zm (show (P0_ go6∨w.heap.size≤go6) from (HO_0.out.1 _ rfl))
    (first|simp only [add_plain] at hx117_0|skip)
    obtain ⟨hx6_0,hf6_0⟩:=Kd.R_celln 0 HO_0.out (x2_1 : Int) p6 q6
    replace p6:=eq_true p6
    replace q6:=eq_true q6
    have HP10:=Kd.R_putg HO_0.out (x2_1 : Int) (((rd x0_1 x2_1)+1) % 256)
    go_wp2_with (first|((with_reducible refine gate_store (t:=5) (p:=15) rfl ?_);refine store_event (t:=5) (p:=15) (v := ?vo_w11) (w1:=(wr.setCell ⟨go6,(x2_1 : Int).toNat,none⟩ (.int .u8 (((rd x0_1 x2_1)+1) % 256)))) ?hg ?ho ?hn ?hr ?_;(case ho=>rfl);(case hg=>rfl);(case hn=>rfl);(case hr=>first|(go_simp;done)|(go_simp;rfl));intro w11 hw;have hg : wr.grownBy w11 (some go6):=(by rw [hw];exact HP10.2);have hp_ : Kd.R (Kd.int .u8) 5 w11 w0.heap.size (fun k_=>(P0_ k_∨w.heap.size≤k_)) (.slice (some ⟨go6,0,none⟩) x0_1.length co2) y118:=(by rw [hw,Ny118.out];exact HP10.1);clear HP10;replace HB:=zm ((by rw [hw];exact zk (HB.out) GB6.out : Below w0.heap.size w0 w11));replace HK:=zm (Kept.of_grown (S:=(fun k_=>P0_ k_)) hg (by repeat (first|(with_reducible first|exact HK.out|apply Kept.alloc|apply Kept.drewN|apply Kept.drew)|exact HK.out)) (fun k_ e_=>(HO_0.out.1 k_ e_)));replace HO_0:=zm (hp_);clear hg hw hp_;have p119 : 0≤(x2_1 : Int):=yt;have q119 : x2_1 < (y118.length : Int):=(by have h_ : (x2_1 : Int) < ((x0_1.length : Int) : Int):=yt;first|(have e_:=(Kd.R_reads' HO_0.out).1;omega)|simpa only [Ny118.out,List.length_set] using h_);have ql119 : ((x2_1 : Int) < ((x0_1.length : Int) : Int))=True:=eq_true (yt);obtain ⟨ad119,e119,hx119_0⟩:=Kd.at_int (Kd.R_reads' HO_0.out).2.2 x2_1 p119 q119;obtain rfl : (⟨go6,0,none⟩ : Addr)=ad119:=(by injection e119);(first|simp only [add_plain] at hx119_0|simp only [add_at] at hx119_0|simp only [Addr.add,Nat.zero_add] at hx119_0|skip);replace p119:=eq_true p119;replace q119:=eq_true q119))
    first|go_end0|((try simp only [Exit.inBlock,Exit.then]);refine bodyPost_ret (results_none rfl _ _ _) rfl ?_)
    exact ⟨ye,(by first|exact (yr HO_0)|(simp only [hl0_1];exact (yr HO_0))),yhb,by repeat (first|(with_reducible first|exact HK.out|apply Kept.alloc|apply Kept.drewN|apply Kept.drew)|exact HK.out)⟩
  ·
   rw [if_neg c3] at H
   have c3b0 : decide (0≤x2_1)=false:=decide_eq_false c3
   clear c3
   obtain rfl:=Option.some.inj H
   go_wp2
   first|go_end0|((try simp only [Exit.inBlock,Exit.then]);refine bodyPost_ret (results_none rfl _ _ _) rfl ?_)
   exact ⟨ye,(by first|exact (yr HO_0)|(simp only [hl0_1];exact (yr HO_0))),yhb,by repeat (first|(with_reducible first|exact HK.out|apply Kept.alloc|apply Kept.drewN|apply Kept.drew)|exact HK.out)⟩
def coder_fair.f (a0 : Int) (a1 : Int) (a2 : Int) : Option (Bool):=if a0 ≥ 0 then (if a0 < a1 then (if a1≤a2 then (some (decide (a2≤65536))) else (some false)) else (some false)) else (some false)
set_option maxHeartbeats 8000000 in
set_option maxRecDepth 100000 in
theorem coder_fair.calls (a0 : Int) (a1 : Int) (a2 : Int) (r : Bool) (w : World) (h : coder_fair.f a0 a1 a2=some r) :
  Calls Try.prog 52 #[.int .i64 a0, .int .i64 a1, .int .i64 a2] w fun e w' => e=.returned (.bool r)∧Drawn0 w w' := by
 have H : (if a0 ≥ 0 then (if a0 < a1 then (if a1≤a2 then (some (decide (a2≤65536))) else (some false)) else (some false)) else (some false))=some r:=h
 clear h
 by_cases c4 : a0 ≥ 0
 ·
  rw [if_pos c4] at H
  have c4b0 : decide (0≤a0)=true:=decide_eq_true c4
  clear c4
  by_cases c5 : a0 < a1
  ·
   rw [if_pos c5] at H
   have c5b0 : decide (a0 < a1)=true:=decide_eq_true c5
   clear c5
   by_cases c6 : a1≤a2
   ·
    rw [if_pos c6] at H
    have c6b0 : decide (a1≤a2)=true:=decide_eq_true c6
    clear c6
    obtain rfl:=Option.some.inj H
    go_enter Try.func52,Try.ntmps52
    go_wp2
    go_ret
    exact ⟨yq,yd⟩
   ·
    rw [if_neg c6] at H
    have c6b0 : decide (a1≤a2)=false:=decide_eq_false c6
    clear c6
    obtain rfl:=Option.some.inj H
    go_enter Try.func52,Try.ntmps52
    go_wp2
    go_ret
    exact ⟨yq,yd⟩
  ·
   rw [if_neg c5] at H
   have c5b0 : decide (a0 < a1)=false:=decide_eq_false c5
   clear c5
   obtain rfl:=Option.some.inj H
   go_enter Try.func52,Try.ntmps52
   go_wp2
   go_ret
   exact ⟨yq,yd⟩
 ·
  rw [if_neg c4] at H
  have c4b0 : decide (0≤a0)=false:=decide_eq_false c4
  clear c4
  obtain rfl:=Option.some.inj H
  go_enter Try.func52,Try.ntmps52
  go_wp2
  go_ret
  exact ⟨yq,yd⟩
def coder_part.f (a0 : Int) (a1 : Int) (a2 : Int) (a3 : Int) : Option (Int × Int):=if ((a3) % 4294967296)=0 then (none) else (if a2=a3 then (some ((a0 - ((IntKind.u64.wrap (((Int.tdiv a0 ((a3) % 4294967296)) % 4294967296) * (IntKind.u64.wrap (a1)))) % 4294967296)) % 4294967296,IntKind.u64.wrap (((Int.tdiv a0 ((a3) % 4294967296)) % 4294967296) * (IntKind.u64.wrap (a1))))) else (some ((((Int.tdiv a0 ((a3) % 4294967296)) % 4294967296) * ((wrap64 (a2 - a1)) % 4294967296)) % 4294967296,IntKind.u64.wrap (((Int.tdiv a0 ((a3) % 4294967296)) % 4294967296) * (IntKind.u64.wrap (a1))))))
set_option maxHeartbeats 8000000 in
set_option maxRecDepth 100000 in
theorem coder_part.calls (a0 : Int) (a1 : Int) (a2 : Int) (a3 : Int) (r1 : Int) (r2 : Int) (w : World) (h : coder_part.f a0 a1 a2 a3=some (r1,r2)) :
  Calls Try.prog 53 #[.int .u32 a0, .int .i64 a1, .int .i64 a2, .int .i64 a3] w fun e w' => e=.returned (.tuple #[.int .u32 r1, .int .u64 r2])∧Drawn0 w w' := by
 have H : (if ((a3) % 4294967296)=0 then (none) else (if a2=a3 then (some ((a0 - ((IntKind.u64.wrap (((Int.tdiv a0 ((a3) % 4294967296)) % 4294967296) * (IntKind.u64.wrap (a1)))) % 4294967296)) % 4294967296,IntKind.u64.wrap (((Int.tdiv a0 ((a3) % 4294967296)) % 4294967296) * (IntKind.u64.wrap (a1))))) else (some ((((Int.tdiv a0 ((a3) % 4294967296)) % 4294967296) * ((wrap64 (a2 - a1)) % 4294967296)) % 4294967296,IntKind.u64.wrap (((Int.tdiv a0 ((a3) % 4294967296)) % 4294967296) * (IntKind.u64.wrap (a1)))))))=some (r1,r2):=h
 clear h
 replace H:=yie H;obtain ⟨c5,H⟩:=H
 have c5b0 : (((a3) % 4294967296) == 0)=false:=beq_eq_false_iff_ne.mpr c5
 have c5b1 : (((a3) % 4294967296) != 0)=true:=bne_iff_ne.mpr c5
 by_cases c6 : a2=a3
 ·
  rw [if_pos c6] at H
  have c6b0 : (a2 == a3)=true:=beq_iff_eq.mpr c6
  have c6b1 : (a2 != a3)=false:=bne_eq_false_iff_eq.mpr c6
  clear c6
  simp only [Option.some.injEq,Prod.mk.injEq] at H
  obtain ⟨rfl,rfl⟩:=H
  go_enter Try.func53,Try.ntmps53
  go_wp2
  go_ret2
  exact ⟨yq,yd⟩
 ·
  rw [if_neg c6] at H
  have c6b0 : (a2 == a3)=false:=beq_eq_false_iff_ne.mpr c6
  have c6b1 : (a2 != a3)=true:=bne_iff_ne.mpr c6
  simp only [Option.some.injEq,Prod.mk.injEq] at H
  obtain ⟨rfl,rfl⟩:=H
  go_enter Try.func53,Try.ntmps53
  go_wp2
  go_ret2
  exact ⟨yq,yd⟩
mutual
def coder_Put.j0 : Nat→Int→Int→Int→List Int→Option (Int × Int × List Int × Int)
 | 0,_,_,_,_=>none
 | k+1,x10,x121000,x121001,x121002=>coder_Put.l0 k x10 x121000 x121001 x121002
def coder_Put.l0 : Nat→Int→Int→Int→List Int→Option (Int × Int × List Int × Int)
 | 0,_,_,_,_=>none
 | k+1,x10,x121000,x121001,x121002=>if x10 < 16777216 then (if x121002.length < 140737488355328 then (coder_Put.l0 k ((x10 * 256) % 4294967296) (Go.bits .and .u64 (IntKind.u64.wrap (x121000 * 256)) 4294967295) x121001 (x121002 ++ [(x121000 / 16777216) % 256])) else (none)) else (some (x121000,x10,x121002,0))
end
def coder_Put.f (k : Nat) (a0_0 : Int) (a0_1 : Int) (l0_2 : List Int) (a1 : Int) (a2 : Int) (a3 : Int) : Option (Int × Int × List Int × Int):=(coder_own.f a0_0 a0_1 l0_2).bind fun bt122=>((coder_fair.f a1 a2 a3).bind fun t127=>(if t127=true then (if (bt122.2.2.length : Int) ≥ 3996 then (some (bt122.1,bt122.2.1,bt122.2.2,3)) else ((coder_part.f bt122.2.1 a1 a2 a3).bind fun bt128=>(if (IntKind.u64.wrap (bt122.1+bt128.2)) > 4294967295 then ((coder_carry.f k bt122.2.2).bind fun t130=>(coder_Put.j0 k bt128.1 (Go.bits .and .u64 (IntKind.u64.wrap (bt122.1+bt128.2)) 4294967295) bt122.2.1 t130)) else (coder_Put.j0 k bt128.1 (IntKind.u64.wrap (bt122.1+bt128.2)) bt122.2.1 bt122.2.2)))) else (some (bt122.1,bt122.2.1,bt122.2.2,1))))
theorem coder_Put.mono_l : ∀ k,(∀ y0 y1 y2 y3,LeO (coder_Put.j0 k y0 y1 y2 y3) (coder_Put.j0 (k+1) y0 y1 y2 y3))∧(∀ y0 y1 y2 y3,LeO (coder_Put.l0 k y0 y1 y2 y3) (coder_Put.l0 (k+1) y0 y1 y2 y3))
 | 0=>⟨fun _ _ _ _ r h=>by simp [coder_Put.j0] at h,fun _ _ _ _ r h=>by simp [coder_Put.l0] at h⟩
 | k+1=>by
  obtain ⟨ih0,ih1⟩:=coder_Put.mono_l k
  refine ⟨?_, ?_⟩
  ·
   intro y0 y1 y2 y3
   unfold coder_Put.j0
   repeat' with_reducible first|apply ih0|apply ih1|apply coder_carry.mono|apply yLr|apply yLn|apply yLi|apply yLb|intro _
  ·
   intro y0 y1 y2 y3
   unfold coder_Put.l0
   repeat' with_reducible first|apply ih0|apply ih1|apply coder_carry.mono|apply yLr|apply yLn|apply yLi|apply yLb|intro _
theorem coder_Put.mono : ∀ a0 a1 a2 a3 a4 a5 k,LeO (coder_Put.f k a0 a1 a2 a3 a4 a5) (coder_Put.f (k+1) a0 a1 a2 a3 a4 a5):=by
 intro a0 a1 a2 a3 a4 a5 k
 obtain ⟨ih0,ih1⟩:=coder_Put.mono_l k
 unfold coder_Put.f
 repeat' with_reducible first|apply ih0|apply ih1|apply coder_carry.mono|apply yLr|apply yLn|apply yLi|apply yLb|intro _
set_option maxHeartbeats 8000000 in
set_option maxRecDepth 100000 in
theorem coder_Put.calls (k : Nat) (a0_0 : Int) (a0_1 : Int) (A0_2 : Option Addr) (c0_2 : Nat) (l0_2 : List Int) (a1 : Int) (a2 : Int) (a3 : Int) (r1 : Int) (r2 : Int) (r3 : List Int) (r4 : Int) (w : World) (hr0_2 : Kd.C (Kd.int .u8) w A0_2 l0_2.length l0_2) (hc0_2 : l0_2.length≤c0_2) (h : coder_Put.f k a0_0 a0_1 l0_2 a1 a2 a3=some (r1,r2,r3,r4)) :
  Calls Try.prog 18 #[.agg #[.int .u64 a0_0, .int .u32 a0_1, .slice A0_2 l0_2.length c0_2], .int .i64 a1, .int .i64 a2, .int .i64 a3] w fun e w' => ∃ v2_ : Value,e=.returned (.tuple #[.agg #[.int .u64 r1, .int .u32 r2,v2_], .int .i64 r4])∧Kd.R (Kd.int .u8) 5 w' w.heap.size (fun _=>True) v2_ r3∧Below w.heap.size w w' := by
 have hu26:=Try.underlying26;have HR0_2:=zm hr0_2;have HC0_2:=zm hc0_2;clear hr0_2 hc0_2;have HB:=zm (Below.refl w.heap.size w)
 have H : ((coder_own.f a0_0 a0_1 l0_2).bind fun bt122=>((coder_fair.f a1 a2 a3).bind fun t127=>(if t127=true then (if (bt122.2.2.length : Int) ≥ 3996 then (some (bt122.1,bt122.2.1,bt122.2.2,3)) else ((coder_part.f bt122.2.1 a1 a2 a3).bind fun bt128=>(if (IntKind.u64.wrap (bt122.1+bt128.2)) > 4294967295 then ((coder_carry.f k bt122.2.2).bind fun t130=>(coder_Put.j0 k bt128.1 (Go.bits .and .u64 (IntKind.u64.wrap (bt122.1+bt128.2)) 4294967295) bt122.2.1 t130)) else (coder_Put.j0 k bt128.1 (IntKind.u64.wrap (bt122.1+bt128.2)) bt122.2.1 bt122.2.2)))) else (some (bt122.1,bt122.2.1,bt122.2.2,1)))))=some (r1,r2,r3,r4):=h
 clear h
 replace H:=ybi H;obtain ⟨⟨t122,t123,t124⟩,A5,H⟩:=H
 try dsimp only at H
 replace H:=ybi H;obtain ⟨t127,A6,H⟩:=H
 by_cases c7 : t127=true
 ·
  subst c7
  rw [if_pos rfl] at H
  by_cases c8 : (t124.length : Int) ≥ 3996
  ·
   rw [if_pos c8] at H
   have c8b0 : decide (3996≤(t124.length : Int))=true:=decide_eq_true c8
   have c8b1 : decide (3996≤t124.length)=true:=decide_eq_true (by omega)
   clear c8
   simp only [Option.some.injEq,Prod.mk.injEq] at H
   obtain ⟨rfl,rfl,rfl,rfl⟩:=H
   go_enter Try.func18,Try.ntmps18
   go_wp2_with (first|((with_reducible refine gate_dst (N:=4) rfl ?_);refine ybx 4 #[.int .u64 a0_0, .int .u32 a0_1, .slice A0_2 l0_2.length c0_2] 26 ?_;intro gb120 hg w9 hbox hb;have BK120:=zm (hbox);have GW120:=ygw hg;have GE120:=ygw hg;replace HB:=ybs hb;clear hb hbox hg)|((with_reducible refine gate_dst (N:=8) rfl ?_);refine ybx 8 #[.int .u64 0, .int .u32 0, .slice none 0 0] 26 ?_;intro gb121 hg w10 hbox hb;have BK121:=zm (hbox);have GW121:=ygw hg;have GE121:=ygw hg;replace HB:=ybs hb;have NB120_121:=ynl BK120 hg;have NB121_120:=yng BK120 hg;replace BK120:=ybb BK120 hb;clear hb hbox hg;have:=NB120_121.out;have:=NB121_120.out;obtain ⟨hcz12_0,hcz12_1,hcz12_2,hfz12_0,hfz12_1,hfz12_2⟩:=yc3 BK120)|((with_reducible refine gate_callee (f:=51) rfl ?_);refine ygl 13 Try.func51 #[.agg #[.int .u64 a0_0, .int .u32 a0_1, .slice A0_2 l0_2.length c0_2]] ?_;(with_reducible refine (coder_own.calls a0_0 a0_1 _ _ l0_2 t122 t123 t124 _ ?side1 HC0_2.out A5.out).mono ?_);(case side1=>exact ycb HR0_2);rintro e w13 ⟨v125,rfl,ho0,hb⟩;refine ⟨_,rfl, ?_⟩;have HO126:=zm (Kd.R_lower ho0 (zE yhb));replace BK120:=ybb BK120 hb;replace BK121:=ybb BK121 hb;replace HB:=ybs hb;(try clear hb);(try clear ho0);obtain ⟨hcz14_0,hcz14_1,hcz14_2,hfz14_0,hfz14_1,hfz14_2⟩:=yc3 BK120;obtain ⟨Ao15,co15,eo15⟩:=Kd.R_slice HO126.out;subst eo15)|((with_reducible refine gate_store (t:=26) (p:=4) rfl ?_);refine store_event (t:=26) (p:=4) (v := ?vo_w16) (w1:=(((w13.setCell ⟨gb120,0,none⟩ (.int .u64 t122)).setCell ⟨gb120,1,none⟩ (.int .u32 t123)).setCell ⟨gb120,2,none⟩ (.slice Ao15 t124.length co15))) ?hg ?ho ?hn ?hr ?_;(case ho=>rfl);(case hg=>rfl);(case hn=>rfl);(case hr=>first|(go_simp;done)|(go_simp;rfl));intro w16 hw;replace HO126 : Aside0 (Kd.R (Kd.int .u8) 5 w16 w.heap.size (fun _=>True) (.slice Ao15 t124.length co15) t124):=⟨(by rw [hw];exact (yR1 HO126 BK120))⟩;replace BK120 : Aside0 (w16.heap[gb120]? = some (.cells #[.int .u64 t122, .int .u32 t123, .slice Ao15 t124.length co15] 26 (0,0))):=⟨(by rw [hw];exact (ykp BK120))⟩;replace BK121 : Aside0 (w16.heap[gb121]? = some (.cells #[.int .u64 0, .int .u32 0, .slice none 0 0] 26 (0,0))):=⟨(by rw [hw];exact (yk BK121))⟩;replace HB : Aside0 (Below w.heap.size w w16):=⟨(by rw [hw];exact yhb)⟩;clear hw)|((with_reducible refine gate_callee (f:=52) rfl ?_);refine ygl 17 Try.func52 #[.int .i64 a1, .int .i64 a2, .int .i64 a3] ?_;(with_reducible refine (coder_fair.calls a1 a2 a3 true _ A6.out).mono ?_);rintro e w' ⟨rfl,⟨nd,rfl⟩⟩;refine ⟨_,rfl, ?_⟩;(try (rw [drewN_self w16];generalize hq_ : World.drewN w16 _=w16;have n0_ : Aside0 (Kd.R (Kd.int .u8) 5 w16 w.heap.size (fun _=>True) (.slice Ao15 t124.length co15) t124):=⟨by rw [← hq_];exact (yr HO126)⟩;have n1_ : Aside0 (w16.heap[gb120]? = some (.cells #[.int .u64 t122, .int .u32 t123, .slice Ao15 t124.length co15] 26 (0,0))):=⟨by rw [← hq_];exact (yk BK120)⟩;have n2_ : Aside0 (w16.heap[gb121]? = some (.cells #[.int .u64 0, .int .u32 0, .slice none 0 0] 26 (0,0))):=⟨by rw [← hq_];exact (yk BK121)⟩;have n3_ : Aside0 (Below w.heap.size w w16):=⟨by rw [← hq_];exact yhb⟩;clear HO126 BK120 BK121 HB hq_;have HO126:=n0_;have BK120:=n1_;have BK121:=n2_;have HB:=n3_;clear n0_ n1_ n2_ n3_));obtain ⟨hcz17_0,hcz17_1,hcz17_2,hfz17_0,hfz17_1,hfz17_2⟩:=yc3 BK120;obtain ⟨hcz18_0,hcz18_1,hcz18_2,hfz18_0,hfz18_1,hfz18_2⟩:=yc3 BK121))
   refine bodyPost_ret (results_ct rfl _ _ gb121 26 #[.int .u64 t122, .int .u32 t123, .slice Ao15 t124.length co15] (0,0) _ rfl (ykp BK121) Try.underlying26 rfl (by kernel_rfl)) rfl ?_
   exact ⟨_,ye,yR1 HO126 BK121,yhb⟩
  ·
   rw [if_neg c8] at H
   have c8b0 : decide (3996≤(t124.length : Int))=false:=decide_eq_false c8
   have c8b1 : decide (3996≤t124.length)=false:=decide_eq_false (by omega)
   clear c8
   replace H:=ybi H;obtain ⟨⟨t128,t129⟩,A19,H⟩:=H
   try dsimp only at H
   have HC20:=zm H;clear H
   go_enter Try.func18,Try.ntmps18
   go_upto_if 41 with (first|((with_reducible refine gate_dst (N:=4) rfl ?_);refine ybx 4 #[.int .u64 a0_0, .int .u32 a0_1, .slice A0_2 l0_2.length c0_2] 26 ?_;intro gb120 hg w21 hbox hb;have BK120:=zm (hbox);have GW120:=ygw hg;have GE120:=ygw hg;replace HB:=ybs hb;clear hb hbox hg)|((with_reducible refine gate_dst (N:=8) rfl ?_);refine ybx 8 #[.int .u64 0, .int .u32 0, .slice none 0 0] 26 ?_;intro gb121 hg w22 hbox hb;have BK121:=zm (hbox);have GW121:=ygw hg;have GE121:=ygw hg;replace HB:=ybs hb;have NB120_121:=ynl BK120 hg;have NB121_120:=yng BK120 hg;replace BK120:=ybb BK120 hb;clear hb hbox hg;have:=NB120_121.out;have:=NB121_120.out;obtain ⟨hcz24_0,hcz24_1,hcz24_2,hfz24_0,hfz24_1,hfz24_2⟩:=yc3 BK120)|((with_reducible refine gate_callee (f:=51) rfl ?_);refine ygl 13 Try.func51 #[.agg #[.int .u64 a0_0, .int .u32 a0_1, .slice A0_2 l0_2.length c0_2]] ?_;(with_reducible refine (coder_own.calls a0_0 a0_1 _ _ l0_2 t122 t123 t124 _ ?side1 HC0_2.out A5.out).mono ?_);(case side1=>exact ycb HR0_2);rintro e w25 ⟨v125,rfl,ho0,hb⟩;refine ⟨_,rfl, ?_⟩;have HO126:=zm (Kd.R_lower ho0 (zE yhb));replace BK120:=ybb BK120 hb;replace BK121:=ybb BK121 hb;replace HB:=ybs hb;(try clear hb);(try clear ho0);obtain ⟨hcz26_0,hcz26_1,hcz26_2,hfz26_0,hfz26_1,hfz26_2⟩:=yc3 BK120;obtain ⟨Ao27,co27,eo27⟩:=Kd.R_slice HO126.out;subst eo27)|((with_reducible refine gate_store (t:=26) (p:=4) rfl ?_);refine store_event (t:=26) (p:=4) (v := ?vo_w28) (w1:=(((w25.setCell ⟨gb120,0,none⟩ (.int .u64 t122)).setCell ⟨gb120,1,none⟩ (.int .u32 t123)).setCell ⟨gb120,2,none⟩ (.slice Ao27 t124.length co27))) ?hg ?ho ?hn ?hr ?_;(case ho=>rfl);(case hg=>rfl);(case hn=>rfl);(case hr=>first|(go_simp;done)|(go_simp;rfl));intro w28 hw;replace HO126 : Aside0 (Kd.R (Kd.int .u8) 5 w28 w.heap.size (fun _=>True) (.slice Ao27 t124.length co27) t124):=⟨(by rw [hw];exact (yR1 HO126 BK120))⟩;replace BK120 : Aside0 (w28.heap[gb120]? = some (.cells #[.int .u64 t122, .int .u32 t123, .slice Ao27 t124.length co27] 26 (0,0))):=⟨(by rw [hw];exact (ykp BK120))⟩;replace BK121 : Aside0 (w28.heap[gb121]? = some (.cells #[.int .u64 0, .int .u32 0, .slice none 0 0] 26 (0,0))):=⟨(by rw [hw];exact (yk BK121))⟩;replace HB : Aside0 (Below w.heap.size w w28):=⟨(by rw [hw];exact yhb)⟩;clear hw)|((with_reducible refine gate_callee (f:=52) rfl ?_);refine ygl 17 Try.func52 #[.int .i64 a1, .int .i64 a2, .int .i64 a3] ?_;(with_reducible refine (coder_fair.calls a1 a2 a3 true _ A6.out).mono ?_);rintro e w' ⟨rfl,⟨nd,rfl⟩⟩;refine ⟨_,rfl, ?_⟩;(try (rw [drewN_self w28];generalize hq_ : World.drewN w28 _=w28;have n0_ : Aside0 (Kd.R (Kd.int .u8) 5 w28 w.heap.size (fun _=>True) (.slice Ao27 t124.length co27) t124):=⟨by rw [← hq_];exact (yr HO126)⟩;have n1_ : Aside0 (w28.heap[gb120]? = some (.cells #[.int .u64 t122, .int .u32 t123, .slice Ao27 t124.length co27] 26 (0,0))):=⟨by rw [← hq_];exact (yk BK120)⟩;have n2_ : Aside0 (w28.heap[gb121]? = some (.cells #[.int .u64 0, .int .u32 0, .slice none 0 0] 26 (0,0))):=⟨by rw [← hq_];exact (yk BK121)⟩;have n3_ : Aside0 (Below w.heap.size w w28):=⟨by rw [← hq_];exact yhb⟩;clear HO126 BK120 BK121 HB hq_;have HO126:=n0_;have BK120:=n1_;have BK121:=n2_;have HB:=n3_;clear n0_ n1_ n2_ n3_));obtain ⟨hcz29_0,hcz29_1,hcz29_2,hfz29_0,hfz29_1,hfz29_2⟩:=yc3 BK120)|((with_reducible refine gate_callee (f:=53) rfl ?_);refine ygl 31 Try.func53 #[.int .u32 t123, .int .i64 a1, .int .i64 a2, .int .i64 a3] ?_;(with_reducible refine (coder_part.calls t123 a1 a2 a3 t128 t129 _ A19.out).mono ?_);rintro e w' ⟨rfl,⟨nd,rfl⟩⟩;refine ⟨_,rfl, ?_⟩;(try (rw [drewN_self w28];generalize hq_ : World.drewN w28 _=w28;have n0_ : Aside0 (Kd.R (Kd.int .u8) 5 w28 w.heap.size (fun _=>True) (.slice Ao27 t124.length co27) t124):=⟨by rw [← hq_];exact (yr HO126)⟩;have n1_ : Aside0 (w28.heap[gb120]? = some (.cells #[.int .u64 t122, .int .u32 t123, .slice Ao27 t124.length co27] 26 (0,0))):=⟨by rw [← hq_];exact (yk BK120)⟩;have n2_ : Aside0 (w28.heap[gb121]? = some (.cells #[.int .u64 0, .int .u32 0, .slice none 0 0] 26 (0,0))):=⟨by rw [← hq_];exact (yk BK121)⟩;have n3_ : Aside0 (Below w.heap.size w w28):=⟨by rw [← hq_];exact yhb⟩;clear HO126 BK120 BK121 HB hq_;have HO126:=n0_;have BK120:=n1_;have BK121:=n2_;have HB:=n3_;clear n0_ n1_ n2_ n3_));obtain ⟨hcz30_0,hcz30_1,hcz30_2,hfz30_0,hfz30_1,hfz30_2⟩:=yc3 BK120))
   (try simp only [Act.put,List.setIfInBounds_toArray,List.set_cons_zero,List.set_cons_succ])
   go_cut [] (fun wc => ∃ (kq : Nat) (x121000_19 : Int) (x121002_19 : List Int) (u121002 : Value),Aside0 (coder_Put.j0 kq t128 x121000_19 t123 x121002_19=some (r1,r2,r3,r4))∧Aside0 (kq≤k)∧Aside0 (Kd.R (Kd.int .u8) 5 wc w.heap.size (fun _=>True) u121002 x121002_19)∧Aside0 (wc.heap[gb120]? = some (.cells #[.int .u64 x121000_19, .int .u32 t123,u121002] 26 (0,0)))∧Aside0 (wc.heap[gb121]? = some (.cells #[.int .u64 0, .int .u32 0,(.slice none 0 0)] 26 (0,0)))∧Aside0 (Below w.heap.size w wc))
   case first =>
    have H:=HC20.out;clear HC20
    by_cases c31 : (IntKind.u64.wrap (t122+t129)) > 4294967295
    ·
     rw [if_pos c31] at H
     have c31b0 : decide (4294967295 < (IntKind.u64.wrap (t122+t129)))=true:=decide_eq_true c31
     clear c31
     (first|rw [c31b0]|(simp only [i64_w,i32_w];rw [c31b0])|skip)
     replace H:=ybi H;obtain ⟨t130,A32,H⟩:=H
     have H' := zm H
     clear H
     have:=NB120_121.out
     have:=NB121_120.out
     obtain ⟨_,_,_,_,_,_⟩:=yc3 BK120
     go_wp2_with (first|((with_reducible refine gate_store (t:=22) (p:=45) rfl ?_);refine store_event (t:=22) (p:=45) (v := ?vo_w35) (w1:=((w28.setCell ⟨gb120,0,none⟩ (.int .u64 (IntKind.u64.wrap (t122+t129)))).setCell ⟨gb120,0,none⟩ (.int .u64 (Go.bits .and .u64 (IntKind.u64.wrap (t122+t129)) 4294967295)))) ?hg ?ho ?hn ?hr ?_;(case ho=>rfl);(case hg=>rfl);(case hn=>rfl);(case hr=>first|(go_simp;done)|(go_simp;rfl));intro w35 hw;replace HO126 : Aside0 (Kd.R (Kd.int .u8) 5 w35 w.heap.size (fun _=>True) (.slice Ao27 t124.length co27) t124):=⟨(by rw [hw];exact (yR1 HO126 BK120))⟩;replace BK120 : Aside0 (w35.heap[gb120]? = some (.cells #[.int .u64 (Go.bits .and .u64 (IntKind.u64.wrap (t122+t129)) 4294967295), .int .u32 t123, .slice Ao27 t124.length co27] 26 (0,0))):=⟨(by rw [hw];exact (ykp BK120))⟩;replace BK121 : Aside0 (w35.heap[gb121]? = some (.cells #[.int .u64 0, .int .u32 0, .slice none 0 0] 26 (0,0))):=⟨(by rw [hw];exact (yk BK121))⟩;replace HB : Aside0 (Below w.heap.size w w35):=⟨(by rw [hw];exact yhb)⟩;clear hw;obtain ⟨_,_,_,_,_,_⟩:=yc3 BK120)|((with_reducible refine gate_callee (f:=54) rfl ?_);refine ygl 48 Try.func54 #[.slice Ao27 t124.length co27] ?_;(with_reducible refine (coder_carry.calls k (fun k_=>some k_=(.slice Ao27 t124.length co27 : Value).ownBlock) (.slice Ao27 t124.length co27) t124 t130 w _ ?side1 ?side2 A32.out).mono ?_);(case side1=>exact yhb);(case side2=>exact Kd.R_tight rfl HO126.out);rintro e w37 ⟨rfl,hy0,hb,hkp⟩;refine ⟨_,rfl, ?_⟩;replace BK120:=zm (blk_kept (yk BK120) hkp (fun hs_=>(fun e_=>(zu HO126.out BK120.out (by decide)) e_) hs_));replace BK121:=zm (blk_kept (yk BK121) hkp (fun hs_=>(fun e_=>(zu HO126.out BK121.out (by decide)) e_) hs_));replace HO126:=zm (Kd.R_reok rfl hy0 (fun k_ e_=>HO126.out.1 k_ e_));replace HB:=zm (hb);(try clear hb);(try clear hkp);(try clear hy0)))
     go_meet
     case rel=>exact ⟨_,(Go.bits .and .u64 (IntKind.u64.wrap (t122+t129)) 4294967295),(t130),(.slice Ao27 t124.length co27),H',⟨yo⟩,⟨yr HO126⟩,⟨yk BK120⟩,⟨yk BK121⟩,⟨yhb⟩⟩
    ·
     rw [if_neg c31] at H
     have c31b0 : decide (4294967295 < (IntKind.u64.wrap (t122+t129)))=false:=decide_eq_false c31
     clear c31
     (first|rw [c31b0]|(simp only [i64_w,i32_w];rw [c31b0])|skip)
     have H' := zm H
     clear H
     go_wp2
     go_meet
     case rel=>exact ⟨_,(IntKind.u64.wrap (t122+t129)),(t124),(.slice Ao27 t124.length co27),H',⟨yo⟩,⟨yR1 HO126 BK120⟩,⟨ykp BK120⟩,⟨yk BK121⟩,⟨yhb⟩⟩
   case rest =>
    clear HC20
    try clear c8b0
    try clear c8b1
    try clear hcz12_0
    try clear hcz12_1
    try clear hcz12_2
    try clear hcz14_0
    try clear hcz14_1
    try clear hcz14_2
    try clear hcz17_0
    try clear hcz17_1
    try clear hcz17_2
    try clear hcz18_0
    try clear hcz18_1
    try clear hcz18_2
    try clear hcz24_0
    try clear hcz24_1
    try clear hcz24_2
    try clear hcz26_0
    try clear hcz26_1
    try clear hcz26_2
    try clear hcz29_0
    try clear hcz29_1
    try clear hcz29_2
    try clear hcz30_0
    try clear hcz30_1
    try clear hcz30_2
    try clear hfz12_0
    try clear hfz12_1
    try clear hfz12_2
    try clear hfz14_0
    try clear hfz14_1
    try clear hfz14_2
    try clear hfz17_0
    try clear hfz17_1
    try clear hfz17_2
    try clear hfz18_0
    try clear hfz18_1
    try clear hfz18_2
    try clear hfz24_0
    try clear hfz24_1
    try clear hfz24_2
    try clear hfz26_0
    try clear hfz26_1
    try clear hfz26_2
    try clear hfz29_0
    try clear hfz29_1
    try clear hfz29_2
    try clear hfz30_0
    try clear hfz30_1
    try clear hfz30_2
    obtain ⟨kq,x121000_19,x121002_19,u121002,HA,HJ19,HO_121002,BK120,BK121,HB⟩:=hcut
    obtain ⟨kj19,rfl⟩:=ysu kq (fun h=>by subst h;exact absurd HA.out (by simp [coder_Put.j0]))
    have H:=HA.out;clear HA
    simp only [coder_Put.j0] at H
    have H' := zm H
    clear H
    go_wp2
    go_loopg [10] kj19 (fun kq v10 w' => ∃ (x10_2 : Int) (x121000_2 : Int) (x121002_2 : List Int) (u121002 : Value),v10=.int .u32 x10_2∧Aside0 (coder_Put.l0 kq x10_2 x121000_2 t123 x121002_2=some (r1,r2,r3,r4))∧Aside0 (kq≤kj19)∧Aside0 (Kd.R (Kd.int .u8) 5 w' w.heap.size (fun _=>True) u121002 x121002_2)∧Aside0 (w'.heap[gb120]? = some (.cells #[.int .u64 x121000_2, .int .u32 t123,u121002] 26 (0,0)))∧Aside0 (w'.heap[gb121]? = some (.cells #[.int .u64 0, .int .u32 0,(.slice none 0 0)] 26 (0,0)))∧Aside0 (Below w.heap.size w w'))
    case atStart=>exact ⟨(t128),(x121000_19),(x121002_19),(u121002),yq,H',⟨Nat.le_refl _⟩,⟨yr HO_121002⟩,⟨yk BK120⟩,⟨yk BK121⟩,⟨yhb⟩⟩
    case round =>
     clear H'
     obtain ⟨x10_2,x121000_2,x121002_2,u121002,rfl,HA,HK2,HO_121002,BK120,BK121,HB⟩:=hrel
     obtain ⟨k2,rfl⟩:=ysu gk (fun h=>by subst h;exact absurd HA.out (by simp [coder_Put.l0]))
     have H:=HA.out;clear HA
     simp only [coder_Put.l0] at H
     by_cases c38 : x10_2 < 16777216
     ·
      rw [if_pos c38] at H
      have c38b0 : decide (x10_2 < 16777216)=true:=decide_eq_true c38
      clear c38
      replace H:=yif H;obtain ⟨c39,H⟩:=H
      have LMc39:=zm c39;clear c39
      obtain ⟨y131,hy131⟩ : ∃ y_ : List Int,y_=(x121002_2 ++ [(x121000_2 / 16777216) % 256]):=⟨_,rfl⟩
      replace H : (coder_Put.l0 k2 ((x10_2 * 256) % 4294967296) (Go.bits .and .u64 (IntKind.u64.wrap (x121000_2 * 256)) 4294967295) t123 y131)=some (r1,r2,r3,r4):=yrw hy131 H
      have Ny131:=zm hy131;clear hy131
      have H' := zm H
      clear H
      have:=NB120_121.out
      have:=NB121_120.out
      obtain ⟨_,_,_,_,_,_⟩:=yc3 BK120
      go_wp2_with (first|((with_reducible refine gate_builtin (b:=.append) (xs := #[.tmp 52, .tmp 57]) rfl ?_);at_builtin;refine Kd.R_append (Kd.int .u8) (w0:=w) w.heap.size rfl (.tmp 52) (.tmp 57) 24 5 (.int .u8 0) 1 rfl Try.underlying24 info5 rfl (by decide) (by omega) u121002 x121002_2 ((x121000_2 / 16777216) % 256) [.int .u8 ((x121000_2 / 16777216) % 256)] (fun _=>True) (fun _=>False) rfl rfl ?aP (fun _ hk=>hk.elim) ?aF ?aO ?aB ?aS ?aL ?_;(case aP=>exact rfl);(case aB=>exact yhb);(case aF=>exact (fun _ _=>trivial));(case aO=>exact (yr HO_121002));(case aS=>exact (zE yhb));(case aL=>have:=LMc39.out;omega);intro v132 w42 ho hb hg hat;rw [← Ny131.out] at ho;replace BK120:=zm (blk_grown (yk BK120) hg (zu HO_121002.out BK120.out (by decide)));replace BK121:=zm (blk_grown (yk BK121) hg (zu HO_121002.out BK121.out (by decide)));replace HB:=zm (hb);have HO133:=zm (ho);clear HO_121002;clear ho hb hg hat;obtain ⟨Ao43,co43,eo43⟩:=Kd.R_slice HO133.out;subst eo43;obtain ⟨_,_,_,_,_,_⟩:=yc3 BK120))
      go_roundg k2
      case measure=>exact yom2 HJ19 HK2
      case rel=>exact ⟨((x10_2 * 256) % 4294967296),(Go.bits .and .u64 (IntKind.u64.wrap (x121000_2 * 256)) 4294967295),(y131),(.slice Ao43 y131.length co43),yq,H',⟨yom2 HJ19 HK2⟩,⟨yR1 HO133 BK120⟩,⟨ykp BK120⟩,⟨yk BK121⟩,⟨yhb⟩⟩
     ·
      rw [if_neg c38] at H
      have c38b0 : decide (x10_2 < 16777216)=false:=decide_eq_false c38
      clear c38
      simp only [Option.some.injEq,Prod.mk.injEq] at H
      obtain ⟨rfl,rfl,rfl,rfl⟩:=H
      have:=NB120_121.out
      have:=NB121_120.out
      obtain ⟨_,_,_,_,_,_⟩:=yc3 BK120
      obtain ⟨_,_,_,_,_,_⟩:=yc3 BK121
      obtain ⟨Ao48,co48,eo48⟩:=Kd.R_slice HO_121002.out
      subst eo48
      go_wp2
      refine bodyPost_ret (results_ct rfl _ _ gb121 26 #[.int .u64 x121000_2, .int .u32 x10_2, .slice Ao48 x121002_2.length co48] (0,0) _ rfl (ykp BK121) Try.underlying26 rfl (by kernel_rfl)) rfl ?_
      exact ⟨_,ye,yR2 HO_121002 BK120 BK121,yhb⟩
 ·
  replace c7:=Bool.eq_false_iff.mpr c7
  subst c7
  rw [ynf] at H
  simp only [Option.some.injEq,Prod.mk.injEq] at H
  obtain ⟨rfl,rfl,rfl,rfl⟩:=H
  go_enter Try.func18,Try.ntmps18
  go_wp2_with (first|((with_reducible refine gate_dst (N:=4) rfl ?_);refine ybx 4 #[.int .u64 a0_0, .int .u32 a0_1, .slice A0_2 l0_2.length c0_2] 26 ?_;intro gb120 hg w49 hbox hb;have BK120:=zm (hbox);have GW120:=ygw hg;have GE120:=ygw hg;replace HB:=ybs hb;clear hb hbox hg)|((with_reducible refine gate_dst (N:=8) rfl ?_);refine ybx 8 #[.int .u64 0, .int .u32 0, .slice none 0 0] 26 ?_;intro gb121 hg w50 hbox hb;have BK121:=zm (hbox);have GW121:=ygw hg;have GE121:=ygw hg;replace HB:=ybs hb;have NB120_121:=ynl BK120 hg;have NB121_120:=yng BK120 hg;replace BK120:=ybb BK120 hb;clear hb hbox hg;have:=NB120_121.out;have:=NB121_120.out;obtain ⟨_,_,_,_,_,_⟩:=yc3 BK120)|((with_reducible refine gate_callee (f:=51) rfl ?_);refine ygl 13 Try.func51 #[.agg #[.int .u64 a0_0, .int .u32 a0_1, .slice A0_2 l0_2.length c0_2]] ?_;(with_reducible refine (coder_own.calls a0_0 a0_1 _ _ l0_2 t122 t123 t124 _ ?side1 HC0_2.out A5.out).mono ?_);(case side1=>exact ycb HR0_2);rintro e w53 ⟨v125,rfl,ho0,hb⟩;refine ⟨_,rfl, ?_⟩;have HO126:=zm (Kd.R_lower ho0 (zE yhb));replace BK120:=ybb BK120 hb;replace BK121:=ybb BK121 hb;replace HB:=ybs hb;(try clear hb);(try clear ho0);obtain ⟨_,_,_,_,_,_⟩:=yc3 BK120;obtain ⟨Ao55,co55,eo55⟩:=Kd.R_slice HO126.out;subst eo55)|((with_reducible refine gate_store (t:=26) (p:=4) rfl ?_);refine store_event (t:=26) (p:=4) (v := ?vo_w56) (w1:=(((w53.setCell ⟨gb120,0,none⟩ (.int .u64 t122)).setCell ⟨gb120,1,none⟩ (.int .u32 t123)).setCell ⟨gb120,2,none⟩ (.slice Ao55 t124.length co55))) ?hg ?ho ?hn ?hr ?_;(case ho=>rfl);(case hg=>rfl);(case hn=>rfl);(case hr=>first|(go_simp;done)|(go_simp;rfl));intro w56 hw;replace HO126 : Aside0 (Kd.R (Kd.int .u8) 5 w56 w.heap.size (fun _=>True) (.slice Ao55 t124.length co55) t124):=⟨(by rw [hw];exact (yR1 HO126 BK120))⟩;replace BK120 : Aside0 (w56.heap[gb120]? = some (.cells #[.int .u64 t122, .int .u32 t123, .slice Ao55 t124.length co55] 26 (0,0))):=⟨(by rw [hw];exact (ykp BK120))⟩;replace BK121 : Aside0 (w56.heap[gb121]? = some (.cells #[.int .u64 0, .int .u32 0, .slice none 0 0] 26 (0,0))):=⟨(by rw [hw];exact (yk BK121))⟩;replace HB : Aside0 (Below w.heap.size w w56):=⟨(by rw [hw];exact yhb)⟩;clear hw)|((with_reducible refine gate_callee (f:=52) rfl ?_);refine ygl 17 Try.func52 #[.int .i64 a1, .int .i64 a2, .int .i64 a3] ?_;(with_reducible refine (coder_fair.calls a1 a2 a3 false _ A6.out).mono ?_);rintro e w' ⟨rfl,⟨nd,rfl⟩⟩;refine ⟨_,rfl, ?_⟩;(try (rw [drewN_self w56];generalize hq_ : World.drewN w56 _=w56;have n0_ : Aside0 (Kd.R (Kd.int .u8) 5 w56 w.heap.size (fun _=>True) (.slice Ao55 t124.length co55) t124):=⟨by rw [← hq_];exact (yr HO126)⟩;have n1_ : Aside0 (w56.heap[gb120]? = some (.cells #[.int .u64 t122, .int .u32 t123, .slice Ao55 t124.length co55] 26 (0,0))):=⟨by rw [← hq_];exact (yk BK120)⟩;have n2_ : Aside0 (w56.heap[gb121]? = some (.cells #[.int .u64 0, .int .u32 0, .slice none 0 0] 26 (0,0))):=⟨by rw [← hq_];exact (yk BK121)⟩;have n3_ : Aside0 (Below w.heap.size w w56):=⟨by rw [← hq_];exact yhb⟩;clear HO126 BK120 BK121 HB hq_;have HO126:=n0_;have BK120:=n1_;have BK121:=n2_;have HB:=n3_;clear n0_ n1_ n2_ n3_));obtain ⟨_,_,_,_,_,_⟩:=yc3 BK120;obtain ⟨_,_,_,_,_,_⟩:=yc3 BK121))
  refine bodyPost_ret (results_ct rfl _ _ gb121 26 #[.int .u64 t122, .int .u32 t123, .slice Ao55 t124.length co55] (0,0) _ rfl (ykp BK121) Try.underlying26 rfl (by kernel_rfl)) rfl ?_
  exact ⟨_,ye,yR1 HO126 BK121,yhb⟩
def gain_Right.l0 : Nat→List Int→List Int→Int→Int→Option (Bool)
 | 0,_,_,_,_=>none
 | k+1,x0,x5,x6,x7=>if x7 < x6 then (if 0≤x7 then (if x7 < (x5.length : Int) then (if (rd x5 x7) < 0 then (some false) else (if (rd x5 x7) > 44 then (some false) else (gain_Right.l0 k x0 x5 x6 (wrap64 (x7+1))))) else (none)) else (none)) else (some ((x0.length : Int) == 5))
def gain_Right.f (k : Nat) (l0 : List Int) : Option (Bool):=gain_Right.l0 k l0 l0 (l0.length : Int) 0
theorem gain_Right.mono_l : ∀ k,(∀ y0 y1 y2 y3,LeO (gain_Right.l0 k y0 y1 y2 y3) (gain_Right.l0 (k+1) y0 y1 y2 y3))
 | 0=>fun _ _ _ _ r h=>by simp [gain_Right.l0] at h
 | k+1=>by
  have ih0:=gain_Right.mono_l k
  ·
   intro y0 y1 y2 y3
   unfold gain_Right.l0
   repeat' with_reducible first|apply ih0|apply yLr|apply yLn|apply yLi|apply yLb|intro _
theorem gain_Right.mono : ∀ a0 k,LeO (gain_Right.f k a0) (gain_Right.f (k+1) a0):=by
 intro a0 k
 have ih0:=gain_Right.mono_l k
 unfold gain_Right.f
 repeat' with_reducible first|apply ih0|apply yLr|apply yLn|apply yLi|apply yLb|intro _
set_option maxHeartbeats 8000000 in
set_option maxRecDepth 100000 in
theorem gain_Right.calls (k : Nat) (A0 : Option Addr) (c0 : Nat) (l0 : List Int) (r : Bool) (w : World) (hr0 : Kd.C (Kd.int .i64) w A0 l0.length l0) (hc0 : l0.length≤c0) (h : gain_Right.f k l0=some r) :
  Calls Try.prog 45 #[.slice A0 l0.length c0] w fun e w' => e=.returned (.bool r)∧Drawn0 w w' := by
 have HR0:=zm hr0;have HC0:=zm hc0;clear hr0 hc0
 have H : (gain_Right.l0 k l0 l0 (l0.length : Int) 0)=some r:=h
 clear h
 have H' := zm H
 clear H
 go_enter Try.func45,Try.ntmps45
 go_wp2
 go_loopg [7] k (fun kq v7 w' => ∃ (x7_1 : Int),v7=.int .i64 x7_1∧Aside0 (gain_Right.l0 kq l0 l0 (l0.length : Int) x7_1=some r)∧Aside0 (kq≤k)∧Drawn0 w w')
 case atStart=>exact ⟨(0),yq,H',⟨Nat.le_refl _⟩,yd⟩
 case round =>
  clear H'
  obtain ⟨x7_1,rfl,HA,HK1,⟨m1,rfl⟩⟩:=hrel
  obtain ⟨k1,rfl⟩:=ysu gk (fun h=>by subst h;exact absurd HA.out (by simp [gain_Right.l0]))
  have H:=HA.out;clear HA
  simp only [gain_Right.l0] at H
  by_cases c2 : x7_1 < (l0.length : Int)
  ·
   rw [if_pos c2] at H
   have c2b0 : decide (x7_1 < (l0.length : Int))=true:=decide_eq_true c2
   clear c2
   replace H:=yif H;obtain ⟨c3,H⟩:=H
   have c3b0 : decide (0≤x7_1)=true:=decide_eq_true c3
   clear c3
   replace H:=yif H;obtain ⟨c4,H⟩:=H
   have c4b0 : decide (x7_1 < (l0.length : Int))=true:=decide_eq_true c4
   clear c4
   by_cases c5 : (rd l0 x7_1) < 0
   ·
    rw [if_pos c5] at H
    have c5b0 : decide ((rd l0 x7_1) < 0)=true:=decide_eq_true c5
    clear c5
    obtain rfl:=Option.some.inj H
    obtain ⟨ad661,e661,hx661_0,p661,q661⟩:=yai HR0 x7_1
    cases e661
    go_wp2
    go_ret
    exact ⟨yq,yd⟩
   ·
    rw [if_neg c5] at H
    have c5b0 : decide ((rd l0 x7_1) < 0)=false:=decide_eq_false c5
    clear c5
    by_cases c6 : (rd l0 x7_1) > 44
    ·
     rw [if_pos c6] at H
     have c6b0 : decide (44 < (rd l0 x7_1))=true:=decide_eq_true c6
     clear c6
     obtain rfl:=Option.some.inj H
     obtain ⟨ad661,e661,hx661_0,p661,q661⟩:=yai HR0 x7_1
     cases e661
     go_wp2
     go_ret
     exact ⟨yq,yd⟩
    ·
     rw [if_neg c6] at H
     have c6b0 : decide (44 < (rd l0 x7_1))=false:=decide_eq_false c6
     clear c6
     have H' := zm H
     clear H
     obtain ⟨ad661,e661,hx661_0,p661,q661⟩:=yai HR0 x7_1
     cases e661
     go_wp2
     go_roundg k1
     case measure=>exact yom1 HK1
     case rel=>exact ⟨(wrap64 (x7_1+1)),yq,H',⟨yom1 HK1⟩,yd⟩
  ·
   rw [if_neg c2] at H
   have c2b0 : decide (x7_1 < (l0.length : Int))=false:=decide_eq_false c2
   clear c2
   obtain rfl:=Option.some.inj H
   go_wp2
   go_ret
   exact ⟨yq,yd⟩
def coder_halves.f (a0 : Int) : Option (Int × Int):=if a0≤65536 then (some (wrap64 (a0),1)) else (some (wrap64 ((wrap64 (IntKind.u64.wrap (Int.tdiv (IntKind.u64.wrap (a0 - 1)) 65536)))+1),65536))
set_option maxHeartbeats 8000000 in
set_option maxRecDepth 100000 in
theorem coder_halves.calls (a0 : Int) (r1 : Int) (r2 : Int) (w : World) (h : coder_halves.f a0=some (r1,r2)) :
  Calls Try.prog 63 #[.int .u64 a0] w fun e w' => e=.returned (.tuple #[.int .i64 r1, .int .i64 r2])∧Drawn0 w w' := by
 have H : (if a0≤65536 then (some (wrap64 (a0),1)) else (some (wrap64 ((wrap64 (IntKind.u64.wrap (Int.tdiv (IntKind.u64.wrap (a0 - 1)) 65536)))+1),65536)))=some (r1,r2):=h
 clear h
 by_cases c2 : a0≤65536
 ·
  rw [if_pos c2] at H
  have c2b0 : decide (a0≤65536)=true:=decide_eq_true c2
  clear c2
  simp only [Option.some.injEq,Prod.mk.injEq] at H
  obtain ⟨rfl,rfl⟩:=H
  go_enter Try.func63,Try.ntmps63
  go_wp2
  go_ret2
  exact ⟨yq,yd⟩
 ·
  rw [if_neg c2] at H
  have c2b0 : decide (a0≤65536)=false:=decide_eq_false c2
  clear c2
  simp only [Option.some.injEq,Prod.mk.injEq] at H
  obtain ⟨rfl,rfl⟩:=H
  go_enter Try.func63,Try.ntmps63
  go_wp2
  go_ret2
  exact ⟨yq,yd⟩
mutual
def coder_PutNum.j0 : Nat→Int→Int→Bool→Int→Int→List Int→Option (Int × Int × List Int × Int)
 | 0,_,_,_,_,_,_=>none
 | k+1,x1,x2,x26,x473000,x473001,x473002=>if x26=true then (some (x473000,x473001,x473002,1)) else ((coder_halves.f x2).bind fun bt479=>(if bt479.2=0 then (none) else ((coder_Put.f k x473000 x473001 x473002 (wrap64 (Int.tdiv (wrap64 (x1)) bt479.2)) (wrap64 ((wrap64 (Int.tdiv (wrap64 (x1)) bt479.2))+1)) bt479.1).bind fun bt481=>(if bt481.2.2.2=0 then (coder_PutNum.j1 k bt479.2 (Int.tmod (wrap64 (x1)) bt479.2) bt481.2.2.2 (decide (bt479.2 > 1)) x473000 x473001 x473002 bt481.1 bt481.2.1 bt481.2.2.1) else (coder_PutNum.j1 k bt479.2 (Int.tmod (wrap64 (x1)) bt479.2) bt481.2.2.2 false x473000 x473001 x473002 bt481.1 bt481.2.1 bt481.2.2.1)))))
def coder_PutNum.j1 : Nat→Int→Int→Int→Bool→Int→Int→List Int→Int→Int→List Int→Option (Int × Int × List Int × Int)
 | 0,_,_,_,_,_,_,_,_,_,_=>none
 | k+1,x9,x11,x13,x55,x473000,x473001,x473002,x488000,x488001,x488002=>if x55=true then ((coder_Put.f k x488000 x488001 x488002 x11 (wrap64 (x11+1)) x9).bind fun bt488=>(if bt488.2.2.2=0 then (some (bt488.1,bt488.2.1,bt488.2.2.1,0)) else (some (x473000,x473001,x473002,bt488.2.2.2)))) else (if x13=0 then (some (x488000,x488001,x488002,0)) else (some (x473000,x473001,x473002,x13)))
end
def coder_PutNum.f (k : Nat) (a0_0 : Int) (a0_1 : Int) (l0_2 : List Int) (a1 : Int) (a2 : Int) : Option (Int × Int × List Int × Int):=(coder_own.f a0_0 a0_1 l0_2).bind fun bt474=>(if a2 < 1 then (coder_PutNum.j0 k a1 a2 true bt474.1 bt474.2.1 bt474.2.2) else (if a2 > 4294967296 then (coder_PutNum.j0 k a1 a2 true bt474.1 bt474.2.1 bt474.2.2) else (coder_PutNum.j0 k a1 a2 (decide (a1 ≥ a2)) bt474.1 bt474.2.1 bt474.2.2)))
theorem coder_PutNum.mono_l : ∀ k,(∀ y0 y1 y2 y3 y4 y5,LeO (coder_PutNum.j0 k y0 y1 y2 y3 y4 y5) (coder_PutNum.j0 (k+1) y0 y1 y2 y3 y4 y5))∧(∀ y0 y1 y2 y3 y4 y5 y6 y7 y8 y9,LeO (coder_PutNum.j1 k y0 y1 y2 y3 y4 y5 y6 y7 y8 y9) (coder_PutNum.j1 (k+1) y0 y1 y2 y3 y4 y5 y6 y7 y8 y9))
 | 0=>⟨fun _ _ _ _ _ _ r h=>by simp [coder_PutNum.j0] at h,fun _ _ _ _ _ _ _ _ _ _ r h=>by simp [coder_PutNum.j1] at h⟩
 | k+1=>by
  obtain ⟨ih0,ih1⟩:=coder_PutNum.mono_l k
  refine ⟨?_, ?_⟩
  ·
   intro y0 y1 y2 y3 y4 y5
   unfold coder_PutNum.j0
   repeat' with_reducible first|apply ih0|apply ih1|apply coder_Put.mono|apply yLr|apply yLn|apply yLi|apply yLb|intro _
  ·
   intro y0 y1 y2 y3 y4 y5 y6 y7 y8 y9
   unfold coder_PutNum.j1
   repeat' with_reducible first|apply ih0|apply ih1|apply coder_Put.mono|apply yLr|apply yLn|apply yLi|apply yLb|intro _
theorem coder_PutNum.mono : ∀ a0 a1 a2 a3 a4 k,LeO (coder_PutNum.f k a0 a1 a2 a3 a4) (coder_PutNum.f (k+1) a0 a1 a2 a3 a4):=by
 intro a0 a1 a2 a3 a4 k
 obtain ⟨ih0,ih1⟩:=coder_PutNum.mono_l k
 unfold coder_PutNum.f
 repeat' with_reducible first|apply ih0|apply ih1|apply coder_Put.mono|apply yLr|apply yLn|apply yLi|apply yLb|intro _
set_option maxHeartbeats 8000000 in
set_option maxRecDepth 100000 in
theorem coder_PutNum.calls (k : Nat) (a0_0 : Int) (a0_1 : Int) (A0_2 : Option Addr) (c0_2 : Nat) (l0_2 : List Int) (a1 : Int) (a2 : Int) (r1 : Int) (r2 : Int) (r3 : List Int) (r4 : Int) (w : World) (hr0_2 : Kd.C (Kd.int .u8) w A0_2 l0_2.length l0_2) (hc0_2 : l0_2.length≤c0_2) (h : coder_PutNum.f k a0_0 a0_1 l0_2 a1 a2=some (r1,r2,r3,r4)) :
  Calls Try.prog 37 #[.agg #[.int .u64 a0_0, .int .u32 a0_1, .slice A0_2 l0_2.length c0_2], .int .u64 a1, .int .u64 a2] w fun e w' => ∃ v2_ : Value,e=.returned (.tuple #[.agg #[.int .u64 r1, .int .u32 r2,v2_], .int .i64 r4])∧Kd.R (Kd.int .u8) 5 w' w.heap.size (fun _=>True) v2_ r3∧Below w.heap.size w w' := by
 have hu26:=Try.underlying26;have HR0_2:=zm hr0_2;have HC0_2:=zm hc0_2;clear hr0_2 hc0_2;have HB:=zm (Below.refl w.heap.size w)
 have H : ((coder_own.f a0_0 a0_1 l0_2).bind fun bt474=>(if a2 < 1 then (coder_PutNum.j0 k a1 a2 true bt474.1 bt474.2.1 bt474.2.2) else (if a2 > 4294967296 then (coder_PutNum.j0 k a1 a2 true bt474.1 bt474.2.1 bt474.2.2) else (coder_PutNum.j0 k a1 a2 (decide (a1 ≥ a2)) bt474.1 bt474.2.1 bt474.2.2))))=some (r1,r2,r3,r4):=h
 clear h
 replace H:=ybi H;obtain ⟨⟨t474,t475,t476⟩,A4,H⟩:=H
 try dsimp only at H
 have HC5:=zm H;clear H
 go_enter Try.func37,Try.ntmps37
 go_upto_region 2 with (first|((with_reducible refine gate_dst (N:=3) rfl ?_);refine ybx 3 #[.int .u64 a0_0, .int .u32 a0_1, .slice A0_2 l0_2.length c0_2] 26 ?_;intro gb472 hg w6 hbox hb;have BK472:=zm (hbox);have GW472:=ygw hg;have GE472:=ygw hg;replace HB:=ybs hb;clear hb hbox hg)|((with_reducible refine gate_dst (N:=6) rfl ?_);refine ybx 6 #[.int .u64 0, .int .u32 0, .slice none 0 0] 26 ?_;intro gb473 hg w7 hbox hb;have BK473:=zm (hbox);have GW473:=ygw hg;have GE473:=ygw hg;replace HB:=ybs hb;have NB472_473:=ynl BK472 hg;have NB473_472:=yng BK472 hg;replace BK472:=ybb BK472 hb;clear hb hbox hg;have:=NB472_473.out;have:=NB473_472.out;obtain ⟨hcz9_0,hcz9_1,hcz9_2,hfz9_0,hfz9_1,hfz9_2⟩:=yc3 BK472)|(go_at_call 51;(with_reducible refine (coder_own.calls a0_0 a0_1 _ _ l0_2 t474 t475 t476 _ ?side1 HC0_2.out A4.out).mono ?_);(case side1=>exact ycb HR0_2);rintro e w10 ⟨v477,rfl,ho0,hb⟩;have HO478:=zm (Kd.R_lower ho0 (zE yhb));replace BK472:=ybb BK472 hb;replace BK473:=ybb BK473 hb;replace HB:=ybs hb;(try clear hb);(try clear ho0);obtain ⟨hcz11_0,hcz11_1,hcz11_2,hfz11_0,hfz11_1,hfz11_2⟩:=yc3 BK472;obtain ⟨Ao12,co12,eo12⟩:=Kd.R_slice HO478.out;subst eo12))
 repeat (go_quiet (first|((with_reducible refine gate_dst (N:=3) rfl ?_);refine ybx 3 #[.int .u64 a0_0, .int .u32 a0_1, .slice A0_2 l0_2.length c0_2] 26 ?_;intro gb472 hg w6 hbox hb;have BK472:=zm (hbox);have GW472:=ygw hg;have GE472:=ygw hg;replace HB:=ybs hb;clear hb hbox hg)|((with_reducible refine gate_dst (N:=6) rfl ?_);refine ybx 6 #[.int .u64 0, .int .u32 0, .slice none 0 0] 26 ?_;intro gb473 hg w7 hbox hb;have BK473:=zm (hbox);have GW473:=ygw hg;have GE473:=ygw hg;replace HB:=ybs hb;have NB472_473:=ynl BK472 hg;have NB473_472:=yng BK472 hg;replace BK472:=ybb BK472 hb;clear hb hbox hg;have:=NB472_473.out;have:=NB473_472.out;obtain ⟨hcz9_0,hcz9_1,hcz9_2,hfz9_0,hfz9_1,hfz9_2⟩:=yc3 BK472)|(go_at_call 51;(with_reducible refine (coder_own.calls a0_0 a0_1 _ _ l0_2 t474 t475 t476 _ ?side1 HC0_2.out A4.out).mono ?_);(case side1=>exact ycb HR0_2);rintro e w10 ⟨v477,rfl,ho0,hb⟩;have HO478:=zm (Kd.R_lower ho0 (zE yhb));replace BK472:=ybb BK472 hb;replace BK473:=ybb BK473 hb;replace HB:=ybs hb;(try clear hb);(try clear ho0);obtain ⟨hcz11_0,hcz11_1,hcz11_2,hfz11_0,hfz11_1,hfz11_2⟩:=yc3 BK472;obtain ⟨Ao12,co12,eo12⟩:=Kd.R_slice HO478.out;subst eo12));go_upto_region 2 with (first|((with_reducible refine gate_dst (N:=3) rfl ?_);refine ybx 3 #[.int .u64 a0_0, .int .u32 a0_1, .slice A0_2 l0_2.length c0_2] 26 ?_;intro gb472 hg w6 hbox hb;have BK472:=zm (hbox);have GW472:=ygw hg;have GE472:=ygw hg;replace HB:=ybs hb;clear hb hbox hg)|((with_reducible refine gate_dst (N:=6) rfl ?_);refine ybx 6 #[.int .u64 0, .int .u32 0, .slice none 0 0] 26 ?_;intro gb473 hg w7 hbox hb;have BK473:=zm (hbox);have GW473:=ygw hg;have GE473:=ygw hg;replace HB:=ybs hb;have NB472_473:=ynl BK472 hg;have NB473_472:=yng BK472 hg;replace BK472:=ybb BK472 hb;clear hb hbox hg;have:=NB472_473.out;have:=NB473_472.out;obtain ⟨hcz9_0,hcz9_1,hcz9_2,hfz9_0,hfz9_1,hfz9_2⟩:=yc3 BK472)|(go_at_call 51;(with_reducible refine (coder_own.calls a0_0 a0_1 _ _ l0_2 t474 t475 t476 _ ?side1 HC0_2.out A4.out).mono ?_);(case side1=>exact ycb HR0_2);rintro e w10 ⟨v477,rfl,ho0,hb⟩;have HO478:=zm (Kd.R_lower ho0 (zE yhb));replace BK472:=ybb BK472 hb;replace BK473:=ybb BK473 hb;replace HB:=ybs hb;(try clear hb);(try clear ho0);obtain ⟨hcz11_0,hcz11_1,hcz11_2,hfz11_0,hfz11_1,hfz11_2⟩:=yc3 BK472;obtain ⟨Ao12,co12,eo12⟩:=Kd.R_slice HO478.out;subst eo12)))
 (try simp only [Act.put,List.setIfInBounds_toArray,List.set_cons_zero,List.set_cons_succ])
 go_cut [26] (fun v26 wc => ∃ (kq : Nat) (x26_4 : Bool),v26=.bool x26_4∧Aside0 (coder_PutNum.j0 kq a1 a2 x26_4 t474 t475 t476=some (r1,r2,r3,r4))∧Aside0 (kq≤k)∧Aside0 (Kd.R (Kd.int .u8) 5 wc w.heap.size (fun _=>True) (.slice Ao12 t476.length co12) t476)∧Aside0 (wc.heap[gb472]? = some (.cells #[.int .u64 t474, .int .u32 t475,(.slice Ao12 t476.length co12)] 26 (0,0)))∧Aside0 (wc.heap[gb473]? = some (.cells #[.int .u64 0, .int .u32 0,(.slice none 0 0)] 26 (0,0)))∧Aside0 (Below w.heap.size w wc))
 case first =>
  have H:=HC5.out;clear HC5
  by_cases c13 : a2 < 1
  ·
   rw [if_pos c13] at H
   have c13b0 : decide (a2 < 1)=true:=decide_eq_true c13
   clear c13
   (first|rw [c13b0]|(simp only [i64_w,i32_w];rw [c13b0])|skip)
   have H' := zm H
   clear H
   go_wp2
   repeat (go_quiet (fail);try go_wp2)
   go_meet
   case rel=>exact ⟨_,(true),yq,H',⟨yo⟩,⟨yR1 HO478 BK472⟩,⟨ykp BK472⟩,⟨yk BK473⟩,⟨yhb⟩⟩
  ·
   rw [if_neg c13] at H
   have c13b0 : decide (a2 < 1)=false:=decide_eq_false c13
   clear c13
   (first|rw [c13b0]|(simp only [i64_w,i32_w];rw [c13b0])|skip)
   by_cases c14 : a2 > 4294967296
   ·
    rw [if_pos c14] at H
    have c14b0 : decide (4294967296 < a2)=true:=decide_eq_true c14
    clear c14
    have H' := zm H
    clear H
    go_wp2
    repeat (go_quiet (fail);try go_wp2)
    go_meet
    case rel=>exact ⟨_,(true),yq,H',⟨yo⟩,⟨yR1 HO478 BK472⟩,⟨ykp BK472⟩,⟨yk BK473⟩,⟨yhb⟩⟩
   ·
    rw [if_neg c14] at H
    have c14b0 : decide (4294967296 < a2)=false:=decide_eq_false c14
    clear c14
    have H' := zm H
    clear H
    go_wp2
    repeat (go_quiet (fail);try go_wp2)
    go_meet
    case rel=>exact ⟨_,(decide (a1 ≥ a2)),yq,H',⟨yo⟩,⟨yR1 HO478 BK472⟩,⟨ykp BK472⟩,⟨yk BK473⟩,⟨yhb⟩⟩
 case rest =>
  clear HC5
  try clear hcz11_0
  try clear hcz11_1
  try clear hcz11_2
  try clear hcz9_0
  try clear hcz9_1
  try clear hcz9_2
  try clear hfz11_0
  try clear hfz11_1
  try clear hfz11_2
  try clear hfz9_0
  try clear hfz9_1
  try clear hfz9_2
  obtain ⟨kq,x26_4,rfl,HA,HJ4,HO_473002,BK472,BK473,HB⟩:=hcut
  obtain ⟨kj4,rfl⟩:=ysu kq (fun h=>by subst h;exact absurd HA.out (by simp [coder_PutNum.j0]))
  have H:=HA.out;clear HA
  simp only [coder_PutNum.j0] at H
  by_cases c15 : x26_4=true
  ·
   subst c15
   rw [if_pos rfl] at H
   simp only [Option.some.injEq,Prod.mk.injEq] at H
   obtain ⟨rfl,rfl,rfl,rfl⟩:=H
   have:=NB472_473.out
   have:=NB473_472.out
   obtain ⟨hcz17_0,hcz17_1,hcz17_2,hfz17_0,hfz17_1,hfz17_2⟩:=yc3 BK472
   obtain ⟨hcz18_0,hcz18_1,hcz18_2,hfz18_0,hfz18_1,hfz18_2⟩:=yc3 BK473
   go_wp2
   repeat (go_quiet (fail);try go_wp2)
   refine bodyPost_ret (results_ct rfl _ _ gb473 26 #[.int .u64 t474, .int .u32 t475, .slice Ao12 t476.length co12] (0,0) _ rfl (ykp BK473) Try.underlying26 rfl (by kernel_rfl)) rfl ?_
   exact ⟨_,ye,yR1 HO_473002 BK473,yhb⟩
  ·
   replace c15:=Bool.eq_false_iff.mpr c15
   subst c15
   rw [ynf] at H
   replace H:=ybi H;obtain ⟨⟨t479,t480⟩,A19,H⟩:=H
   try dsimp only at H
   replace H:=yie H;obtain ⟨c20,H⟩:=H
   have c20b0 : (t480 == 0)=false:=beq_eq_false_iff_ne.mpr c20
   have c20b1 : (t480 != 0)=true:=bne_iff_ne.mpr c20
   replace H:=ybi H;obtain ⟨⟨t481,t482,t483,t486⟩,A21,H⟩:=H
   try dsimp only at H
   have HC22:=zm H;clear H
   go_upto_region 7 with (first|(go_at_call 63;(with_reducible refine (coder_halves.calls a2 t479 t480 _ A19.out).mono ?_);rintro e w' ⟨rfl,⟨nd,rfl⟩⟩;(try exact yww);have:=NB472_473.out;have:=NB473_472.out;obtain ⟨hcz24_0,hcz24_1,hcz24_2,hfz24_0,hfz24_1,hfz24_2⟩:=yc3 BK472)|(go_at_call 18;(with_reducible refine (coder_Put.calls kj4 t474 t475 _ _ t476 (wrap64 (Int.tdiv (wrap64 (a1)) t480)) (wrap64 ((wrap64 (Int.tdiv (wrap64 (a1)) t480))+1)) t479 t481 t482 t483 t486 _ ?side1 ?side2 A21.out).mono ?_);(case side1=>exact yce (Kd.R_reads' HO_473002.out).2.2);(case side2=>exact (Kd.R_reads' HO_473002.out).2.1);rintro e w25 ⟨v484,rfl,ho0,hb⟩;have HO485:=zm (Kd.R_lower (Kd.R_new' ho0 (Kd.R_lt (yr HO_473002))) (zE yhb));replace HO_473002:=zm (Kd.R_elder' (yr HO_473002) (Kd.R_base ho0) hb);replace BK472:=ybb BK472 hb;replace BK473:=ybb BK473 hb;replace HB:=ybs hb;(try clear hb);(try clear ho0))|((with_reducible refine gate_dst (N:=12) rfl ?_);refine ybx 12 #[.int .u64 0, .int .u32 0, .slice none 0 0] 26 ?_;intro gb487 hg w26 hbox hb;replace HO_473002:=yRb HO_473002 hb;replace HO485:=yRb HO485 hb;have BK487:=zm (hbox);have GW487:=ygw hg;have GE487:=ygw hg;replace HB:=ybs hb;have NB472_487:=ynl BK472 hg;have NB487_472:=yng BK472 hg;replace BK472:=ybb BK472 hb;have NB473_487:=ynl BK473 hg;have NB487_473:=yng BK473 hg;replace BK473:=ybb BK473 hb;clear hb hbox hg;have:=NB487_472.out;have:=NB472_487.out;have:=NB487_473.out;have:=NB473_487.out;obtain ⟨hcz29_0,hcz29_1,hcz29_2,hfz29_0,hfz29_1,hfz29_2⟩:=yc3 BK487;obtain ⟨Ao30,co30,eo30⟩:=Kd.R_slice HO485.out;subst eo30))
   repeat (go_quiet (first|(go_at_call 63;(with_reducible refine (coder_halves.calls a2 t479 t480 _ A19.out).mono ?_);rintro e w' ⟨rfl,⟨nd,rfl⟩⟩;(try exact yww);have:=NB472_473.out;have:=NB473_472.out;obtain ⟨hcz24_0,hcz24_1,hcz24_2,hfz24_0,hfz24_1,hfz24_2⟩:=yc3 BK472)|(go_at_call 18;(with_reducible refine (coder_Put.calls kj4 t474 t475 _ _ t476 (wrap64 (Int.tdiv (wrap64 (a1)) t480)) (wrap64 ((wrap64 (Int.tdiv (wrap64 (a1)) t480))+1)) t479 t481 t482 t483 t486 _ ?side1 ?side2 A21.out).mono ?_);(case side1=>exact yce (Kd.R_reads' HO_473002.out).2.2);(case side2=>exact (Kd.R_reads' HO_473002.out).2.1);rintro e w25 ⟨v484,rfl,ho0,hb⟩;have HO485:=zm (Kd.R_lower (Kd.R_new' ho0 (Kd.R_lt (yr HO_473002))) (zE yhb));replace HO_473002:=zm (Kd.R_elder' (yr HO_473002) (Kd.R_base ho0) hb);replace BK472:=ybb BK472 hb;replace BK473:=ybb BK473 hb;replace HB:=ybs hb;(try clear hb);(try clear ho0))|((with_reducible refine gate_dst (N:=12) rfl ?_);refine ybx 12 #[.int .u64 0, .int .u32 0, .slice none 0 0] 26 ?_;intro gb487 hg w26 hbox hb;replace HO_473002:=yRb HO_473002 hb;replace HO485:=yRb HO485 hb;have BK487:=zm (hbox);have GW487:=ygw hg;have GE487:=ygw hg;replace HB:=ybs hb;have NB472_487:=ynl BK472 hg;have NB487_472:=yng BK472 hg;replace BK472:=ybb BK472 hb;have NB473_487:=ynl BK473 hg;have NB487_473:=yng BK473 hg;replace BK473:=ybb BK473 hb;clear hb hbox hg;have:=NB487_472.out;have:=NB472_487.out;have:=NB487_473.out;have:=NB473_487.out;obtain ⟨hcz29_0,hcz29_1,hcz29_2,hfz29_0,hfz29_1,hfz29_2⟩:=yc3 BK487;obtain ⟨Ao30,co30,eo30⟩:=Kd.R_slice HO485.out;subst eo30));go_upto_region 7 with (first|(go_at_call 63;(with_reducible refine (coder_halves.calls a2 t479 t480 _ A19.out).mono ?_);rintro e w' ⟨rfl,⟨nd,rfl⟩⟩;(try exact yww);have:=NB472_473.out;have:=NB473_472.out;obtain ⟨hcz24_0,hcz24_1,hcz24_2,hfz24_0,hfz24_1,hfz24_2⟩:=yc3 BK472)|(go_at_call 18;(with_reducible refine (coder_Put.calls kj4 t474 t475 _ _ t476 (wrap64 (Int.tdiv (wrap64 (a1)) t480)) (wrap64 ((wrap64 (Int.tdiv (wrap64 (a1)) t480))+1)) t479 t481 t482 t483 t486 _ ?side1 ?side2 A21.out).mono ?_);(case side1=>exact yce (Kd.R_reads' HO_473002.out).2.2);(case side2=>exact (Kd.R_reads' HO_473002.out).2.1);rintro e w25 ⟨v484,rfl,ho0,hb⟩;have HO485:=zm (Kd.R_lower (Kd.R_new' ho0 (Kd.R_lt (yr HO_473002))) (zE yhb));replace HO_473002:=zm (Kd.R_elder' (yr HO_473002) (Kd.R_base ho0) hb);replace BK472:=ybb BK472 hb;replace BK473:=ybb BK473 hb;replace HB:=ybs hb;(try clear hb);(try clear ho0))|((with_reducible refine gate_dst (N:=12) rfl ?_);refine ybx 12 #[.int .u64 0, .int .u32 0, .slice none 0 0] 26 ?_;intro gb487 hg w26 hbox hb;replace HO_473002:=yRb HO_473002 hb;replace HO485:=yRb HO485 hb;have BK487:=zm (hbox);have GW487:=ygw hg;have GE487:=ygw hg;replace HB:=ybs hb;have NB472_487:=ynl BK472 hg;have NB487_472:=yng BK472 hg;replace BK472:=ybb BK472 hb;have NB473_487:=ynl BK473 hg;have NB487_473:=yng BK473 hg;replace BK473:=ybb BK473 hb;clear hb hbox hg;have:=NB487_472.out;have:=NB472_487.out;have:=NB487_473.out;have:=NB473_487.out;obtain ⟨hcz29_0,hcz29_1,hcz29_2,hfz29_0,hfz29_1,hfz29_2⟩:=yc3 BK487;obtain ⟨Ao30,co30,eo30⟩:=Kd.R_slice HO485.out;subst eo30)))
   (try simp only [Act.put,List.setIfInBounds_toArray,List.set_cons_zero,List.set_cons_succ])
   go_cut [55] (fun v55 wc => ∃ (kq : Nat) (x55_21 : Bool),v55=.bool x55_21∧Aside0 (coder_PutNum.j1 kq t480 (Int.tmod (wrap64 (a1)) t480) t486 x55_21 t474 t475 t476 t481 t482 t483=some (r1,r2,r3,r4))∧Aside0 (kq≤kj4)∧Aside0 (Kd.R (Kd.int .u8) 5 wc w.heap.size (fun k_=>some k_≠((.slice Ao30 t483.length co30) : Value).ownBlock) (.slice Ao12 t476.length co12) t476)∧Aside0 (Kd.R (Kd.int .u8) 5 wc w.heap.size (fun k_=>some k_≠((.slice Ao12 t476.length co12) : Value).ownBlock) (.slice Ao30 t483.length co30) t483)∧Aside0 (wc.heap[gb472]? = some (.cells #[.int .u64 t474, .int .u32 t475,(.slice Ao12 t476.length co12)] 26 (0,0)))∧Aside0 (wc.heap[gb473]? = some (.cells #[.int .u64 0, .int .u32 0,(.slice none 0 0)] 26 (0,0)))∧Aside0 (wc.heap[gb487]? = some (.cells #[.int .u64 t481, .int .u32 t482,(.slice Ao30 t483.length co30)] 26 (0,0)))∧Aside0 (Below w.heap.size w wc))
   case first =>
    have H:=HC22.out;clear HC22
    by_cases c31 : t486=0
    ·
     rw [if_pos c31] at H
     have c31b0 : (t486 == 0)=true:=beq_iff_eq.mpr c31
     have c31b1 : (t486 != 0)=false:=bne_eq_false_iff_eq.mpr c31
     clear c31
     (first|rw [c31b0]|(simp only [i64_w,i32_w];rw [c31b0])|skip)
     have H' := zm H
     clear H
     go_wp2
     repeat (go_quiet (fail);try go_wp2)
     go_meet
     case rel=>exact ⟨_,(decide (t480 > 1)),yq,H',⟨yom1 HJ4⟩,⟨yR1 HO_473002 BK487⟩,⟨yR1 HO485 BK487⟩,⟨yk BK472⟩,⟨yk BK473⟩,⟨ykp BK487⟩,⟨yhb⟩⟩
    ·
     rw [if_neg c31] at H
     have c31b0 : (t486 == 0)=false:=beq_eq_false_iff_ne.mpr c31
     have c31b1 : (t486 != 0)=true:=bne_iff_ne.mpr c31
     (first|rw [c31b0]|(simp only [i64_w,i32_w];rw [c31b0])|skip)
     have H' := zm H
     clear H
     go_wp2
     repeat (go_quiet (fail);try go_wp2)
     go_meet
     case rel=>exact ⟨_,(false),yq,H',⟨yom1 HJ4⟩,⟨yR1 HO_473002 BK487⟩,⟨yR1 HO485 BK487⟩,⟨yk BK472⟩,⟨yk BK473⟩,⟨ykp BK487⟩,⟨yhb⟩⟩
   case rest =>
    clear HC22
    try clear c20
    try clear c20b0
    try clear c20b1
    try clear hcz17_0
    try clear hcz17_1
    try clear hcz17_2
    try clear hcz18_0
    try clear hcz18_1
    try clear hcz18_2
    try clear hcz24_0
    try clear hcz24_1
    try clear hcz24_2
    try clear hcz29_0
    try clear hcz29_1
    try clear hcz29_2
    try clear hfz17_0
    try clear hfz17_1
    try clear hfz17_2
    try clear hfz18_0
    try clear hfz18_1
    try clear hfz18_2
    try clear hfz24_0
    try clear hfz24_1
    try clear hfz24_2
    try clear hfz29_0
    try clear hfz29_1
    try clear hfz29_2
    obtain ⟨kq,x55_21,rfl,HA,HJ21,HO_473002,HO_488002,BK472,BK473,BK487,HB⟩:=hcut
    obtain ⟨kj21,rfl⟩:=ysu kq (fun h=>by subst h;exact absurd HA.out (by simp [coder_PutNum.j1]))
    have H:=HA.out;clear HA
    simp only [coder_PutNum.j1] at H
    by_cases c32 : x55_21=true
    ·
     subst c32
     rw [if_pos rfl] at H
     replace H:=ybi H;obtain ⟨⟨t488,t489,t490,t493⟩,A33,H⟩:=H
     try dsimp only at H
     by_cases c34 : t493=0
     ·
      rw [if_pos c34] at H
      have c34b0 : (t493 == 0)=true:=beq_iff_eq.mpr c34
      have c34b1 : (t493 != 0)=false:=bne_eq_false_iff_eq.mpr c34
      clear c34
      simp only [Option.some.injEq,Prod.mk.injEq] at H
      obtain ⟨rfl,rfl,rfl,rfl⟩:=H
      have:=NB487_472.out
      have:=NB472_487.out
      have:=NB487_473.out
      have:=NB473_487.out
      obtain ⟨_,_,_,_,_,_⟩:=yc3 BK487
      go_wp2_with (first|(go_at_call 18;(with_reducible refine (coder_Put.calls kj21 t481 t482 _ _ t483 (Int.tmod (wrap64 (a1)) t480) (wrap64 ((Int.tmod (wrap64 (a1)) t480)+1)) t480 t488 t489 t490 t493 _ ?side1 ?side2 A33.out).mono ?_);(case side1=>exact yce (Kd.R_reads' HO_488002.out).2.2);(case side2=>exact (Kd.R_reads' HO_488002.out).2.1);rintro e w38 ⟨v491,rfl,ho0,hb⟩;have HO492:=zm (Kd.R_lower (Kd.R_new' (Kd.R_new' ho0 (Kd.R_lt (yr HO_473002))) (Kd.R_lt (yr HO_488002))) (zE yhb));replace HO_473002:=zm (Kd.R_elder' (yr HO_473002) (Kd.R_base ho0) hb);replace HO_488002:=zm (Kd.R_elder' (yr HO_488002) (Kd.R_base ho0) hb);replace BK472:=ybb BK472 hb;replace BK473:=ybb BK473 hb;replace BK487:=ybb BK487 hb;replace HB:=ybs hb;(try clear hb);(try clear ho0);obtain ⟨_,_,_,_,_,_⟩:=yc3 BK487;obtain ⟨Ao40,co40,eo40⟩:=Kd.R_slice HO492.out;subst eo40;have:=NB473_472.out;have:=NB472_473.out;obtain ⟨_,_,_,_,_,_⟩:=yc3 BK473))
      repeat (go_quiet (first|(go_at_call 18;(with_reducible refine (coder_Put.calls kj21 t481 t482 _ _ t483 (Int.tmod (wrap64 (a1)) t480) (wrap64 ((Int.tmod (wrap64 (a1)) t480)+1)) t480 t488 t489 t490 t493 _ ?side1 ?side2 A33.out).mono ?_);(case side1=>exact yce (Kd.R_reads' HO_488002.out).2.2);(case side2=>exact (Kd.R_reads' HO_488002.out).2.1);rintro e w38 ⟨v491,rfl,ho0,hb⟩;have HO492:=zm (Kd.R_lower (Kd.R_new' (Kd.R_new' ho0 (Kd.R_lt (yr HO_473002))) (Kd.R_lt (yr HO_488002))) (zE yhb));replace HO_473002:=zm (Kd.R_elder' (yr HO_473002) (Kd.R_base ho0) hb);replace HO_488002:=zm (Kd.R_elder' (yr HO_488002) (Kd.R_base ho0) hb);replace BK472:=ybb BK472 hb;replace BK473:=ybb BK473 hb;replace BK487:=ybb BK487 hb;replace HB:=ybs hb;(try clear hb);(try clear ho0);obtain ⟨_,_,_,_,_,_⟩:=yc3 BK487;obtain ⟨Ao40,co40,eo40⟩:=Kd.R_slice HO492.out;subst eo40;have:=NB473_472.out;have:=NB472_473.out;obtain ⟨_,_,_,_,_,_⟩:=yc3 BK473));try go_wp2_with (first|(go_at_call 18;(with_reducible refine (coder_Put.calls kj21 t481 t482 _ _ t483 (Int.tmod (wrap64 (a1)) t480) (wrap64 ((Int.tmod (wrap64 (a1)) t480)+1)) t480 t488 t489 t490 t493 _ ?side1 ?side2 A33.out).mono ?_);(case side1=>exact yce (Kd.R_reads' HO_488002.out).2.2);(case side2=>exact (Kd.R_reads' HO_488002.out).2.1);rintro e w38 ⟨v491,rfl,ho0,hb⟩;have HO492:=zm (Kd.R_lower (Kd.R_new' (Kd.R_new' ho0 (Kd.R_lt (yr HO_473002))) (Kd.R_lt (yr HO_488002))) (zE yhb));replace HO_473002:=zm (Kd.R_elder' (yr HO_473002) (Kd.R_base ho0) hb);replace HO_488002:=zm (Kd.R_elder' (yr HO_488002) (Kd.R_base ho0) hb);replace BK472:=ybb BK472 hb;replace BK473:=ybb BK473 hb;replace BK487:=ybb BK487 hb;replace HB:=ybs hb;(try clear hb);(try clear ho0);obtain ⟨_,_,_,_,_,_⟩:=yc3 BK487;obtain ⟨Ao40,co40,eo40⟩:=Kd.R_slice HO492.out;subst eo40;have:=NB473_472.out;have:=NB472_473.out;obtain ⟨_,_,_,_,_,_⟩:=yc3 BK473)))
      refine bodyPost_ret (results_ct rfl _ _ gb473 26 #[.int .u64 t488, .int .u32 t489, .slice Ao40 t490.length co40] (0,0) _ rfl (ykp BK473) Try.underlying26 rfl (by kernel_rfl)) rfl ?_
      exact ⟨_,ye,yR2 HO492 BK487 BK473,yhb⟩
     ·
      rw [if_neg c34] at H
      have c34b0 : (t493 == 0)=false:=beq_eq_false_iff_ne.mpr c34
      have c34b1 : (t493 != 0)=true:=bne_iff_ne.mpr c34
      simp only [Option.some.injEq,Prod.mk.injEq] at H
      obtain ⟨rfl,rfl,rfl,rfl⟩:=H
      have:=NB487_472.out
      have:=NB472_487.out
      have:=NB487_473.out
      have:=NB473_487.out
      obtain ⟨_,_,_,_,_,_⟩:=yc3 BK487
      go_wp2_with (first|(go_at_call 18;(with_reducible refine (coder_Put.calls kj21 t481 t482 _ _ t483 (Int.tmod (wrap64 (a1)) t480) (wrap64 ((Int.tmod (wrap64 (a1)) t480)+1)) t480 t488 t489 t490 t493 _ ?side1 ?side2 A33.out).mono ?_);(case side1=>exact yce (Kd.R_reads' HO_488002.out).2.2);(case side2=>exact (Kd.R_reads' HO_488002.out).2.1);rintro e w46 ⟨v491,rfl,ho0,hb⟩;have HO492:=zm (Kd.R_lower (Kd.R_new' (Kd.R_new' ho0 (Kd.R_lt (yr HO_473002))) (Kd.R_lt (yr HO_488002))) (zE yhb));replace HO_473002:=zm (Kd.R_elder' (yr HO_473002) (Kd.R_base ho0) hb);replace HO_488002:=zm (Kd.R_elder' (yr HO_488002) (Kd.R_base ho0) hb);replace BK472:=ybb BK472 hb;replace BK473:=ybb BK473 hb;replace BK487:=ybb BK487 hb;replace HB:=ybs hb;(try clear hb);(try clear ho0);obtain ⟨_,_,_,_,_,_⟩:=yc3 BK487;obtain ⟨Ao48,co48,eo48⟩:=Kd.R_slice HO492.out;subst eo48;have:=NB472_473.out;have:=NB473_472.out;obtain ⟨_,_,_,_,_,_⟩:=yc3 BK472;obtain ⟨_,_,_,_,_,_⟩:=yc3 BK473))
      repeat (go_quiet (first|(go_at_call 18;(with_reducible refine (coder_Put.calls kj21 t481 t482 _ _ t483 (Int.tmod (wrap64 (a1)) t480) (wrap64 ((Int.tmod (wrap64 (a1)) t480)+1)) t480 t488 t489 t490 t493 _ ?side1 ?side2 A33.out).mono ?_);(case side1=>exact yce (Kd.R_reads' HO_488002.out).2.2);(case side2=>exact (Kd.R_reads' HO_488002.out).2.1);rintro e w46 ⟨v491,rfl,ho0,hb⟩;have HO492:=zm (Kd.R_lower (Kd.R_new' (Kd.R_new' ho0 (Kd.R_lt (yr HO_473002))) (Kd.R_lt (yr HO_488002))) (zE yhb));replace HO_473002:=zm (Kd.R_elder' (yr HO_473002) (Kd.R_base ho0) hb);replace HO_488002:=zm (Kd.R_elder' (yr HO_488002) (Kd.R_base ho0) hb);replace BK472:=ybb BK472 hb;replace BK473:=ybb BK473 hb;replace BK487:=ybb BK487 hb;replace HB:=ybs hb;(try clear hb);(try clear ho0);obtain ⟨_,_,_,_,_,_⟩:=yc3 BK487;obtain ⟨Ao48,co48,eo48⟩:=Kd.R_slice HO492.out;subst eo48;have:=NB472_473.out;have:=NB473_472.out;obtain ⟨_,_,_,_,_,_⟩:=yc3 BK472;obtain ⟨_,_,_,_,_,_⟩:=yc3 BK473));try go_wp2_with (first|(go_at_call 18;(with_reducible refine (coder_Put.calls kj21 t481 t482 _ _ t483 (Int.tmod (wrap64 (a1)) t480) (wrap64 ((Int.tmod (wrap64 (a1)) t480)+1)) t480 t488 t489 t490 t493 _ ?side1 ?side2 A33.out).mono ?_);(case side1=>exact yce (Kd.R_reads' HO_488002.out).2.2);(case side2=>exact (Kd.R_reads' HO_488002.out).2.1);rintro e w46 ⟨v491,rfl,ho0,hb⟩;have HO492:=zm (Kd.R_lower (Kd.R_new' (Kd.R_new' ho0 (Kd.R_lt (yr HO_473002))) (Kd.R_lt (yr HO_488002))) (zE yhb));replace HO_473002:=zm (Kd.R_elder' (yr HO_473002) (Kd.R_base ho0) hb);replace HO_488002:=zm (Kd.R_elder' (yr HO_488002) (Kd.R_base ho0) hb);replace BK472:=ybb BK472 hb;replace BK473:=ybb BK473 hb;replace BK487:=ybb BK487 hb;replace HB:=ybs hb;(try clear hb);(try clear ho0);obtain ⟨_,_,_,_,_,_⟩:=yc3 BK487;obtain ⟨Ao48,co48,eo48⟩:=Kd.R_slice HO492.out;subst eo48;have:=NB472_473.out;have:=NB473_472.out;obtain ⟨_,_,_,_,_,_⟩:=yc3 BK472;obtain ⟨_,_,_,_,_,_⟩:=yc3 BK473)))
      refine bodyPost_ret (results_ct rfl _ _ gb473 26 #[.int .u64 t474, .int .u32 t475, .slice Ao12 t476.length co12] (0,0) _ rfl (ykp BK473) Try.underlying26 rfl (by kernel_rfl)) rfl ?_
      exact ⟨_,ye,yR2 HO_473002 BK487 BK473,yhb⟩
    ·
     replace c32:=Bool.eq_false_iff.mpr c32
     subst c32
     rw [ynf] at H
     by_cases c52 : t486=0
     ·
      rw [if_pos c52] at H
      have c52b0 : (t486 == 0)=true:=beq_iff_eq.mpr c52
      have c52b1 : (t486 != 0)=false:=bne_eq_false_iff_eq.mpr c52
      clear c52
      simp only [Option.some.injEq,Prod.mk.injEq] at H
      obtain ⟨rfl,rfl,rfl,rfl⟩:=H
      have:=NB487_472.out
      have:=NB472_487.out
      have:=NB487_473.out
      have:=NB473_487.out
      obtain ⟨_,_,_,_,_,_⟩:=yc3 BK487
      have:=NB473_472.out
      have:=NB472_473.out
      obtain ⟨_,_,_,_,_,_⟩:=yc3 BK473
      go_wp2
      repeat (go_quiet (fail);try go_wp2)
      refine bodyPost_ret (results_ct rfl _ _ gb473 26 #[.int .u64 t481, .int .u32 t482, .slice Ao30 t483.length co30] (0,0) _ rfl (ykp BK473) Try.underlying26 rfl (by kernel_rfl)) rfl ?_
      exact ⟨_,ye,yR1 HO_488002 BK473,yhb⟩
     ·
      rw [if_neg c52] at H
      have c52b0 : (t486 == 0)=false:=beq_eq_false_iff_ne.mpr c52
      have c52b1 : (t486 != 0)=true:=bne_iff_ne.mpr c52
      simp only [Option.some.injEq,Prod.mk.injEq] at H
      obtain ⟨rfl,rfl,rfl,rfl⟩:=H
      have:=NB472_473.out
      have:=NB473_472.out
      have:=NB472_487.out
      have:=NB487_472.out
      obtain ⟨_,_,_,_,_,_⟩:=yc3 BK472
      have:=NB473_487.out
      have:=NB487_473.out
      obtain ⟨_,_,_,_,_,_⟩:=yc3 BK473
      go_wp2
      repeat (go_quiet (fail);try go_wp2)
      refine bodyPost_ret (results_ct rfl _ _ gb473 26 #[.int .u64 t474, .int .u32 t475, .slice Ao12 t476.length co12] (0,0) _ rfl (ykp BK473) Try.underlying26 rfl (by kernel_rfl)) rfl ?_
      exact ⟨_,ye,yR1 HO_473002 BK473,yhb⟩
def gain_put.j0 : Nat→Int→Int→Bool→Int→Int→List Int→Option (Int × Int × List Int × Int)
 | 0,_,_,_,_,_,_=>none
 | k+1,x1,x10,x23,x663000,x663001,x663002=>if x23=true then ((coder_Put.f k x663000 x663001 x663002 (wrap64 (x10+3)) (wrap64 ((wrap64 (x10+3))+1)) 8).bind fun bt670=>(some (bt670.1,bt670.2.1,bt670.2.2.1,bt670.2.2.2))) else ((coder_Put.f k x663000 x663001 x663002 7 8 8).bind fun bt676=>(if bt676.2.2.2=0 then ((coder_PutNum.f k bt676.1 bt676.2.1 bt676.2.2.1 (IntKind.u64.wrap (x1)) 45).bind fun bt683=>(some (bt683.1,bt683.2.1,bt683.2.2.1,bt683.2.2.2))) else (some (bt676.1,bt676.2.1,bt676.2.2.1,bt676.2.2.2))))
def gain_put.f (k : Nat) (a0_0 : Int) (a0_1 : Int) (l0_2 : List Int) (a1 : Int) (a2 : Int) (a3 : Bool) : Option (Int × Int × List Int × Int):=if a3=true then ((coder_PutNum.f k a0_0 a0_1 l0_2 (IntKind.u64.wrap (a1)) 45).bind fun bt664=>(some (bt664.1,bt664.2.1,bt664.2.2.1,bt664.2.2.2))) else (if (wrap64 (a1 - a2)) ≥ (-3) then (gain_put.j0 k a1 (wrap64 (a1 - a2)) (decide ((wrap64 (a1 - a2))≤3)) a0_0 a0_1 l0_2) else (gain_put.j0 k a1 (wrap64 (a1 - a2)) false a0_0 a0_1 l0_2))
theorem gain_put.mono_l : ∀ k,(∀ y0 y1 y2 y3 y4 y5,LeO (gain_put.j0 k y0 y1 y2 y3 y4 y5) (gain_put.j0 (k+1) y0 y1 y2 y3 y4 y5))
 | 0=>fun _ _ _ _ _ _ r h=>by simp [gain_put.j0] at h
 | k+1=>by
  have ih0:=gain_put.mono_l k
  ·
   intro y0 y1 y2 y3 y4 y5
   unfold gain_put.j0
   repeat' with_reducible first|apply ih0|apply coder_Put.mono|apply coder_PutNum.mono|apply yLr|apply yLn|apply yLi|apply yLb|intro _
theorem gain_put.mono : ∀ a0 a1 a2 a3 a4 a5 k,LeO (gain_put.f k a0 a1 a2 a3 a4 a5) (gain_put.f (k+1) a0 a1 a2 a3 a4 a5):=by
 intro a0 a1 a2 a3 a4 a5 k
 have ih0:=gain_put.mono_l k
 unfold gain_put.f
 repeat' with_reducible first|apply ih0|apply coder_Put.mono|apply coder_PutNum.mono|apply yLr|apply yLn|apply yLi|apply yLb|intro _
set_option maxHeartbeats 8000000 in
set_option maxRecDepth 100000 in
theorem gain_put.calls (k : Nat) (a0_0 : Int) (a0_1 : Int) (A0_2 : Option Addr) (c0_2 : Nat) (l0_2 : List Int) (a1 : Int) (a2 : Int) (a3 : Bool) (r1 : Int) (r2 : Int) (r3 : List Int) (r4 : Int) (w : World) (hr0_2 : Kd.C (Kd.int .u8) w A0_2 l0_2.length l0_2) (hc0_2 : l0_2.length≤c0_2) (h : gain_put.f k a0_0 a0_1 l0_2 a1 a2 a3=some (r1,r2,r3,r4)) :
  Calls Try.prog 64 #[.agg #[.int .u64 a0_0, .int .u32 a0_1, .slice A0_2 l0_2.length c0_2], .int .i64 a1, .int .i64 a2, .bool a3] w fun e w' => ∃ v2_ : Value,e=.returned (.tuple #[.agg #[.int .u64 r1, .int .u32 r2,v2_], .int .i64 r4])∧Kd.R (Kd.int .u8) 5 w' w.heap.size (fun _=>True) v2_ r3∧Below w.heap.size w w' := by
 have hu26:=Try.underlying26;have HR0_2:=zm hr0_2;have HC0_2:=zm hc0_2;clear hr0_2 hc0_2;have HB:=zm (Below.refl w.heap.size w)
 have H : (if a3=true then ((coder_PutNum.f k a0_0 a0_1 l0_2 (IntKind.u64.wrap (a1)) 45).bind fun bt664=>(some (bt664.1,bt664.2.1,bt664.2.2.1,bt664.2.2.2))) else (if (wrap64 (a1 - a2)) ≥ (-3) then (gain_put.j0 k a1 (wrap64 (a1 - a2)) (decide ((wrap64 (a1 - a2))≤3)) a0_0 a0_1 l0_2) else (gain_put.j0 k a1 (wrap64 (a1 - a2)) false a0_0 a0_1 l0_2)))=some (r1,r2,r3,r4):=h
 clear h
 by_cases c5 : a3=true
 ·
  subst c5
  rw [if_pos rfl] at H
  replace H:=ybi H;obtain ⟨⟨t664,t665,t666,t669⟩,A6,H⟩:=H
  try dsimp only at H
  simp only [Option.some.injEq,Prod.mk.injEq] at H
  obtain ⟨rfl,rfl,rfl,rfl⟩:=H
  go_enter Try.func64,Try.ntmps64
  go_wp2_with (first|((with_reducible refine gate_dst (N:=4) rfl ?_);refine ybx 4 #[.int .u64 a0_0, .int .u32 a0_1, .slice A0_2 l0_2.length c0_2] 26 ?_;intro gb662 hg w7 hbox hb;have BK662:=zm (hbox);have GW662:=ygw hg;have GE662:=ygw hg;replace HB:=ybs hb;clear hb hbox hg)|((with_reducible refine gate_dst (N:=8) rfl ?_);refine ybx 8 #[.int .u64 0, .int .u32 0, .slice none 0 0] 26 ?_;intro gb663 hg w8 hbox hb;have BK663:=zm (hbox);have GW663:=ygw hg;have GE663:=ygw hg;replace HB:=ybs hb;have NB662_663:=ynl BK662 hg;have NB663_662:=yng BK662 hg;replace BK662:=ybb BK662 hb;clear hb hbox hg;have:=NB662_663.out;have:=NB663_662.out;obtain ⟨hcz10_0,hcz10_1,hcz10_2,hfz10_0,hfz10_1,hfz10_2⟩:=yc3 BK662)|((with_reducible refine gate_callee (f:=37) rfl ?_);refine ygl 46 Try.func37 #[.agg #[.int .u64 a0_0, .int .u32 a0_1, .slice A0_2 l0_2.length c0_2], .int .u64 (IntKind.u64.wrap (a1)), .int .u64 45] ?_;(with_reducible refine (coder_PutNum.calls k a0_0 a0_1 _ _ l0_2 (IntKind.u64.wrap (a1)) 45 t664 t665 t666 t669 _ ?side1 HC0_2.out A6.out).mono ?_);(case side1=>exact ycb HR0_2);rintro e w11 ⟨v667,rfl,ho0,hb⟩;refine ⟨_,rfl, ?_⟩;have HO668:=zm (Kd.R_lower ho0 (zE yhb));replace BK662:=ybb BK662 hb;replace BK663:=ybb BK663 hb;replace HB:=ybs hb;(try clear hb);(try clear ho0);obtain ⟨hcz12_0,hcz12_1,hcz12_2,hfz12_0,hfz12_1,hfz12_2⟩:=yc3 BK663;obtain ⟨Ao13,co13,eo13⟩:=Kd.R_slice HO668.out;subst eo13))
  refine bodyPost_ret (results_ct rfl _ _ gb663 26 #[.int .u64 t664, .int .u32 t665, .slice Ao13 t666.length co13] (0,0) _ rfl (ykp BK663) Try.underlying26 rfl (by kernel_rfl)) rfl ?_
  exact ⟨_,ye,yR1 HO668 BK663,yhb⟩
 ·
  replace c5:=Bool.eq_false_iff.mpr c5
  subst c5
  rw [ynf] at H
  have HC14:=zm H;clear H
  go_enter Try.func64,Try.ntmps64
  go_upto_region 3 with (first|((with_reducible refine gate_dst (N:=4) rfl ?_);refine ybx 4 #[.int .u64 a0_0, .int .u32 a0_1, .slice A0_2 l0_2.length c0_2] 26 ?_;intro gb662 hg w15 hbox hb;have BK662:=zm (hbox);have GW662:=ygw hg;have GE662:=ygw hg;replace HB:=ybs hb;clear hb hbox hg)|((with_reducible refine gate_dst (N:=8) rfl ?_);refine ybx 8 #[.int .u64 0, .int .u32 0, .slice none 0 0] 26 ?_;intro gb663 hg w16 hbox hb;have BK663:=zm (hbox);have GW663:=ygw hg;have GE663:=ygw hg;replace HB:=ybs hb;have NB662_663:=ynl BK662 hg;have NB663_662:=yng BK662 hg;replace BK662:=ybb BK662 hb;clear hb hbox hg))
  (try simp only [Act.put,List.setIfInBounds_toArray,List.set_cons_zero,List.set_cons_succ])
  go_cut [23] (fun v23 wc => ∃ (kq : Nat) (x23_13 : Bool),v23=.bool x23_13∧Aside0 (gain_put.j0 kq a1 (wrap64 (a1 - a2)) x23_13 a0_0 a0_1 l0_2=some (r1,r2,r3,r4))∧Aside0 (kq≤k)∧Aside0 (wc.heap[gb662]? = some (.cells #[.int .u64 a0_0, .int .u32 a0_1,(.slice A0_2 l0_2.length c0_2)] 26 (0,0)))∧Aside0 (wc.heap[gb663]? = some (.cells #[.int .u64 0, .int .u32 0,(.slice none 0 0)] 26 (0,0)))∧Aside0 (Below w.heap.size w wc))
  case first =>
   have H:=HC14.out;clear HC14
   by_cases c17 : (wrap64 (a1 - a2)) ≥ (-3)
   ·
    rw [if_pos c17] at H
    have c17b0 : decide ((-3)≤(wrap64 (a1 - a2)))=true:=decide_eq_true c17
    clear c17
    (first|rw [c17b0]|(simp only [i64_w,i32_w];rw [c17b0])|skip)
    have H' := zm H
    clear H
    go_wp2
    go_meet
    case rel=>exact ⟨_,(decide ((wrap64 (a1 - a2))≤3)),yq,H',⟨yo⟩,⟨yk BK662⟩,⟨yk BK663⟩,⟨yhb⟩⟩
   ·
    rw [if_neg c17] at H
    have c17b0 : decide ((-3)≤(wrap64 (a1 - a2)))=false:=decide_eq_false c17
    clear c17
    (first|rw [c17b0]|(simp only [i64_w,i32_w];rw [c17b0])|skip)
    have H' := zm H
    clear H
    go_wp2
    go_meet
    case rel=>exact ⟨_,(false),yq,H',⟨yo⟩,⟨yk BK662⟩,⟨yk BK663⟩,⟨yhb⟩⟩
  case rest =>
   clear HC14
   try clear hcz10_0
   try clear hcz10_1
   try clear hcz10_2
   try clear hcz12_0
   try clear hcz12_1
   try clear hcz12_2
   try clear hfz10_0
   try clear hfz10_1
   try clear hfz10_2
   try clear hfz12_0
   try clear hfz12_1
   try clear hfz12_2
   obtain ⟨kq,x23_13,rfl,HA,HJ13,BK662,BK663,HB⟩:=hcut
   obtain ⟨kj13,rfl⟩:=ysu kq (fun h=>by subst h;exact absurd HA.out (by simp [gain_put.j0]))
   have H:=HA.out;clear HA
   simp only [gain_put.j0] at H
   by_cases c18 : x23_13=true
   ·
    subst c18
    rw [if_pos rfl] at H
    replace H:=ybi H;obtain ⟨⟨t670,t671,t672,t675⟩,A19,H⟩:=H
    try dsimp only at H
    simp only [Option.some.injEq,Prod.mk.injEq] at H
    obtain ⟨rfl,rfl,rfl,rfl⟩:=H
    have:=NB662_663.out
    have:=NB663_662.out
    obtain ⟨_,_,_,_,_,_⟩:=yc3 BK662
    go_wp2_with (first|((with_reducible refine gate_callee (f:=18) rfl ?_);refine ygl 30 Try.func18 #[.agg #[.int .u64 a0_0, .int .u32 a0_1, .slice A0_2 l0_2.length c0_2], .int .i64 (wrap64 ((wrap64 (a1 - a2))+3)), .int .i64 (wrap64 ((wrap64 ((wrap64 (a1 - a2))+3))+1)), .int .i64 8] ?_;(with_reducible refine (coder_Put.calls kj13 a0_0 a0_1 _ _ l0_2 (wrap64 ((wrap64 (a1 - a2))+3)) (wrap64 ((wrap64 ((wrap64 (a1 - a2))+3))+1)) 8 t670 t671 t672 t675 _ ?side1 HC0_2.out A19.out).mono ?_);(case side1=>exact ycb HR0_2);rintro e w22 ⟨v673,rfl,ho0,hb⟩;refine ⟨_,rfl, ?_⟩;have HO674:=zm (Kd.R_lower ho0 (zE yhb));replace BK662:=ybb BK662 hb;replace BK663:=ybb BK663 hb;replace HB:=ybs hb;(try clear hb);(try clear ho0);obtain ⟨_,_,_,_,_,_⟩:=yc3 BK663;obtain ⟨Ao24,co24,eo24⟩:=Kd.R_slice HO674.out;subst eo24))
    refine bodyPost_ret (results_ct rfl _ _ gb663 26 #[.int .u64 t670, .int .u32 t671, .slice Ao24 t672.length co24] (0,0) _ rfl (ykp BK663) Try.underlying26 rfl (by kernel_rfl)) rfl ?_
    exact ⟨_,ye,yR1 HO674 BK663,yhb⟩
   ·
    replace c18:=Bool.eq_false_iff.mpr c18
    subst c18
    rw [ynf] at H
    replace H:=ybi H;obtain ⟨⟨t676,t677,t678,t681⟩,A25,H⟩:=H
    try dsimp only at H
    by_cases c26 : t681=0
    ·
     rw [if_pos c26] at H
     have c26b0 : (t681 == 0)=true:=beq_iff_eq.mpr c26
     have c26b1 : (t681 != 0)=false:=bne_eq_false_iff_eq.mpr c26
     clear c26
     replace H:=ybi H;obtain ⟨⟨t683,t684,t685,t688⟩,A27,H⟩:=H
     try dsimp only at H
     simp only [Option.some.injEq,Prod.mk.injEq] at H
     obtain ⟨rfl,rfl,rfl,rfl⟩:=H
     have:=NB662_663.out
     have:=NB663_662.out
     obtain ⟨_,_,_,_,_,_⟩:=yc3 BK662
     go_wp2_with (first|((with_reducible refine gate_callee (f:=18) rfl ?_);refine ygl 35 Try.func18 #[.agg #[.int .u64 a0_0, .int .u32 a0_1, .slice A0_2 l0_2.length c0_2], .int .i64 7, .int .i64 8, .int .i64 8] ?_;(with_reducible refine (coder_Put.calls kj13 a0_0 a0_1 _ _ l0_2 7 8 8 t676 t677 t678 t681 _ ?side1 HC0_2.out A25.out).mono ?_);(case side1=>exact ycb HR0_2);rintro e w30 ⟨v679,rfl,ho0,hb⟩;refine ⟨_,rfl, ?_⟩;have HO680:=zm (Kd.R_lower ho0 (zE yhb));replace BK662:=ybb BK662 hb;replace BK663:=ybb BK663 hb;replace HB:=ybs hb;(try clear hb);(try clear ho0))|((with_reducible refine gate_dst (N:=11) rfl ?_);refine ybx 11 #[.int .u64 0, .int .u32 0, .slice none 0 0] 26 ?_;intro gb682 hg w31 hbox hb;replace HO680:=yRb HO680 hb;have BK682:=zm (hbox);have GW682:=ygw hg;have GE682:=ygw hg;replace HB:=ybs hb;have NB662_682:=ynl BK662 hg;have NB682_662:=yng BK662 hg;replace BK662:=ybb BK662 hb;have NB663_682:=ynl BK663 hg;have NB682_663:=yng BK663 hg;replace BK663:=ybb BK663 hb;clear hb hbox hg;have:=NB682_662.out;have:=NB662_682.out;have:=NB682_663.out;have:=NB663_682.out;obtain ⟨_,_,_,_,_,_⟩:=yc3 BK682;obtain ⟨Ao35,co35,eo35⟩:=Kd.R_slice HO680.out;subst eo35;obtain ⟨_,_,_,_,_,_⟩:=yc3 BK662)|((with_reducible refine gate_callee (f:=37) rfl ?_);refine ygl 46 Try.func37 #[.agg #[.int .u64 t676, .int .u32 t677, .slice Ao35 t678.length co35], .int .u64 (IntKind.u64.wrap (a1)), .int .u64 45] ?_;(with_reducible refine (coder_PutNum.calls kj13 t676 t677 _ _ t678 (IntKind.u64.wrap (a1)) 45 t683 t684 t685 t688 _ ?side1 ?side2 A27.out).mono ?_);(case side1=>refine (Kd.R_reads' (e:=5) (base:=w.heap.size) (ok:=fun k_=>True) (n:=t678.length) (c:=co35) ?_).2.2;exact (yR2 HO680 BK682 BK662));(case side2=>exact (Kd.R_reads' HO680.out).2.1);rintro e w37 ⟨v686,rfl,ho0,hb⟩;refine ⟨_,rfl, ?_⟩;have HO687:=zm (Kd.R_lower (Kd.R_new' ho0 (Kd.R_lt (yR2 HO680 BK682 BK662))) (zE yhb));replace HO680:=zm (Kd.R_elder' (yR2 HO680 BK682 BK662) (Kd.R_base ho0) hb);replace BK662:=zm (zF (g:=gb662) (o:=.cells #[.int .u64 t676, .int .u32 t677, .slice Ao35 t678.length co35] 26 (0,0)) (ykp BK662) hb);replace BK663:=ybb BK663 hb;replace BK682:=zm (zF (g:=gb682) (o:=.cells #[.int .u64 t676, .int .u32 t677, .slice Ao35 t678.length co35] 26 (0,0)) (ykp BK682) hb);replace HB:=ybs hb;(try clear hb);(try clear ho0);obtain ⟨_,_,_,_,_,_⟩:=yc3 BK663;obtain ⟨Ao39,co39,eo39⟩:=Kd.R_slice HO687.out;subst eo39))
     refine bodyPost_ret (results_ct rfl _ _ gb663 26 #[.int .u64 t683, .int .u32 t684, .slice Ao39 t685.length co39] (0,0) _ rfl (ykp BK663) Try.underlying26 rfl (by kernel_rfl)) rfl ?_
     exact ⟨_,ye,yR1 HO687 BK663,yhb⟩
    ·
     rw [if_neg c26] at H
     have c26b0 : (t681 == 0)=false:=beq_eq_false_iff_ne.mpr c26
     have c26b1 : (t681 != 0)=true:=bne_iff_ne.mpr c26
     simp only [Option.some.injEq,Prod.mk.injEq] at H
     obtain ⟨rfl,rfl,rfl,rfl⟩:=H
     have:=NB662_663.out
     have:=NB663_662.out
     obtain ⟨_,_,_,_,_,_⟩:=yc3 BK662
     go_wp2_with (first|((with_reducible refine gate_callee (f:=18) rfl ?_);refine ygl 35 Try.func18 #[.agg #[.int .u64 a0_0, .int .u32 a0_1, .slice A0_2 l0_2.length c0_2], .int .i64 7, .int .i64 8, .int .i64 8] ?_;(with_reducible refine (coder_Put.calls kj13 a0_0 a0_1 _ _ l0_2 7 8 8 t676 t677 t678 t681 _ ?side1 HC0_2.out A25.out).mono ?_);(case side1=>exact ycb HR0_2);rintro e w42 ⟨v679,rfl,ho0,hb⟩;refine ⟨_,rfl, ?_⟩;have HO680:=zm (Kd.R_lower ho0 (zE yhb));replace BK662:=ybb BK662 hb;replace BK663:=ybb BK663 hb;replace HB:=ybs hb;(try clear hb);(try clear ho0))|((with_reducible refine gate_dst (N:=11) rfl ?_);refine ybx 11 #[.int .u64 0, .int .u32 0, .slice none 0 0] 26 ?_;intro gb682 hg w43 hbox hb;replace HO680:=yRb HO680 hb;have BK682:=zm (hbox);have GW682:=ygw hg;have GE682:=ygw hg;replace HB:=ybs hb;have NB662_682:=ynl BK662 hg;have NB682_662:=yng BK662 hg;replace BK662:=ybb BK662 hb;have NB663_682:=ynl BK663 hg;have NB682_663:=yng BK663 hg;replace BK663:=ybb BK663 hb;clear hb hbox hg;have:=NB682_662.out;have:=NB662_682.out;have:=NB682_663.out;have:=NB663_682.out;obtain ⟨_,_,_,_,_,_⟩:=yc3 BK682;obtain ⟨Ao47,co47,eo47⟩:=Kd.R_slice HO680.out;subst eo47;obtain ⟨_,_,_,_,_,_⟩:=yc3 BK663))
     refine bodyPost_ret (results_ct rfl _ _ gb663 26 #[.int .u64 t676, .int .u32 t677, .slice Ao47 t678.length co47] (0,0) _ rfl (ykp BK663) Try.underlying26 rfl (by kernel_rfl)) rfl ?_
     exact ⟨_,ye,yR2 HO680 BK682 BK663,yhb⟩
mutual
def gain_Put.j0 : Nat→List Int→List Int→Bool→Bool→Int→Int→List Int→Int→Int→List Int→Option (Int × Int × List Int × Int)
 | 0,_,_,_,_,_,_,_,_,_,_=>none
 | k+1,x1,x2,x3,x33,x690000,x690001,x690002,x698000,x698001,x698002=>if x33=true then (some (x698000,x698001,x698002,1)) else (gain_Put.l0 k x1 x2 x3 0 x698000 x698001 x698002 x690000 x690001 x690002)
def gain_Put.l0 : Nat→List Int→List Int→Bool→Int→Int→Int→List Int→Int→Int→List Int→Option (Int × Int × List Int × Int)
 | 0,_,_,_,_,_,_,_,_,_,_=>none
 | k+1,x1,x2,x3,x36,x698000,x698001,x698002,x701000,x701001,x701002=>if x36 < 5 then (if x3=true then (gain_Put.j2 k x1 x2 x3 x36 0 x36 x698000 x698001 x698002 x701000 x701001 x701002) else (if 0≤x36 then (if x36 < (x2.length : Int) then (gain_Put.j2 k x1 x2 x3 x36 (rd x2 x36) x36 x698000 x698001 x698002 x701000 x701001 x701002) else (none)) else (none))) else (some (x701000,x701001,x701002,0))
def gain_Put.j2 : Nat→List Int→List Int→Bool→Int→Int→Int→Int→Int→List Int→Int→Int→List Int→Option (Int × Int × List Int × Int)
 | 0,_,_,_,_,_,_,_,_,_,_,_,_=>none
 | k+1,x1,x2,x3,x13,x14,x36,x698000,x698001,x698002,x701000,x701001,x701002=>if 0≤x13 then (if x13 < (x1.length : Int) then ((gain_put.f k x701000 x701001 x701002 (rd x1 x13) x14 x3).bind fun bt703=>(if bt703.2.2.2=0 then (gain_Put.l0 k x1 x2 x3 (wrap64 (x36+1)) x698000 x698001 x698002 bt703.1 bt703.2.1 bt703.2.2.1) else (some (x698000,x698001,x698002,bt703.2.2.2)))) else (none)) else (none)
end
def gain_Put.f (k : Nat) (a0_0 : Int) (a0_1 : Int) (l0_2 : List Int) (l1 : List Int) (l2 : List Int) (a3 : Bool) : Option (Int × Int × List Int × Int):=(coder_Put.f k a0_0 a0_1 l0_2 0 1 0).bind fun bt691=>((gain_Right.f k l1).bind fun t698=>(if t698=true then (if a3=true then (gain_Put.j0 k l1 l2 a3 false a0_0 a0_1 l0_2 bt691.1 bt691.2.1 bt691.2.2.1) else ((gain_Right.f k l2).bind fun t699=>(gain_Put.j0 k l1 l2 a3 (!t699) a0_0 a0_1 l0_2 bt691.1 bt691.2.1 bt691.2.2.1))) else (gain_Put.j0 k l1 l2 a3 true a0_0 a0_1 l0_2 bt691.1 bt691.2.1 bt691.2.2.1)))
theorem gain_Put.mono_l : ∀ k,(∀ y0 y1 y2 y3 y4 y5 y6 y7 y8 y9,LeO (gain_Put.j0 k y0 y1 y2 y3 y4 y5 y6 y7 y8 y9) (gain_Put.j0 (k+1) y0 y1 y2 y3 y4 y5 y6 y7 y8 y9))∧(∀ y0 y1 y2 y3 y4 y5 y6 y7 y8 y9,LeO (gain_Put.l0 k y0 y1 y2 y3 y4 y5 y6 y7 y8 y9) (gain_Put.l0 (k+1) y0 y1 y2 y3 y4 y5 y6 y7 y8 y9))∧(∀ y0 y1 y2 y3 y4 y5 y6 y7 y8 y9 y10 y11,LeO (gain_Put.j2 k y0 y1 y2 y3 y4 y5 y6 y7 y8 y9 y10 y11) (gain_Put.j2 (k+1) y0 y1 y2 y3 y4 y5 y6 y7 y8 y9 y10 y11))
 | 0=>⟨fun _ _ _ _ _ _ _ _ _ _ r h=>by simp [gain_Put.j0] at h,fun _ _ _ _ _ _ _ _ _ _ r h=>by simp [gain_Put.l0] at h,fun _ _ _ _ _ _ _ _ _ _ _ _ r h=>by simp [gain_Put.j2] at h⟩
 | k+1=>by
  obtain ⟨ih0,ih1,ih2⟩:=gain_Put.mono_l k
  refine ⟨?_, ?_, ?_⟩
  ·
   intro y0 y1 y2 y3 y4 y5 y6 y7 y8 y9
   unfold gain_Put.j0
   repeat' with_reducible first|apply ih0|apply ih1|apply ih2|apply coder_Put.mono|apply gain_Right.mono|apply gain_put.mono|apply yLr|apply yLn|apply yLi|apply yLb|intro _
  ·
   intro y0 y1 y2 y3 y4 y5 y6 y7 y8 y9
   unfold gain_Put.l0
   repeat' with_reducible first|apply ih0|apply ih1|apply ih2|apply coder_Put.mono|apply gain_Right.mono|apply gain_put.mono|apply yLr|apply yLn|apply yLi|apply yLb|intro _
  ·
   intro y0 y1 y2 y3 y4 y5 y6 y7 y8 y9 y10 y11
   unfold gain_Put.j2
   repeat' with_reducible first|apply ih0|apply ih1|apply ih2|apply coder_Put.mono|apply gain_Right.mono|apply gain_put.mono|apply yLr|apply yLn|apply yLi|apply yLb|intro _
theorem gain_Put.mono : ∀ a0 a1 a2 a3 a4 a5 k,LeO (gain_Put.f k a0 a1 a2 a3 a4 a5) (gain_Put.f (k+1) a0 a1 a2 a3 a4 a5):=by
 intro a0 a1 a2 a3 a4 a5 k
 obtain ⟨ih0,ih1,ih2⟩:=gain_Put.mono_l k
 unfold gain_Put.f
 repeat' with_reducible first|apply ih0|apply ih1|apply ih2|apply coder_Put.mono|apply gain_Right.mono|apply gain_put.mono|apply yLr|apply yLn|apply yLi|apply yLb|intro _
def gain_Put.T11 : Bool × List (List Nat × List Nat):=(true, [([], []),([], []),([], []),([1,2], [1,2]),([3], [3]),([], []),([], []),([0,4,5,6], [0,4,5,6]),([7], [7]),([8], [8]),([8], [8]),([], []),([11,9,7,0,1,2,3,4,5,6,7,8,9,11], [9,11]),([10,12,0,1,2,3,4,5,6,7,8,9,10,11,12], [10])])
def gain_Put.B11 : List Nat := [0,0,0,6,14,0,0,127,255,511,511,0,3071,8191]
theorem gain_Put.tab11 : rtab .any (opsOf Try.f43 11)=gain_Put.T11:=by kernel_rfl
theorem gain_Put.bits11 : waitsOk gain_Put.T11.2 gain_Put.B11=true:=by kernel_rfl
set_option maxHeartbeats 8000000 in
set_option maxRecDepth 100000 in
theorem gain_Put.calls (k : Nat) (a0_0 : Int) (a0_1 : Int) (P0_2_ : Nat→Prop) (A0_2 : Option Addr) (c0_2 : Nat) (l0_2 : List Int) (A1 : Option Addr) (c1 : Nat) (l1 : List Int) (A2 : Option Addr) (c2 : Nat) (l2 : List Int) (a3 : Bool) (r1 : Int) (r2 : Int) (r3 : List Int) (r4 : Int) (w : World) (hs0_2 : Kd.V (Kd.int .u8) 5 w w.heap.size (fun k_=>P0_2_ k_) (.slice A0_2 l0_2.length c0_2) l0_2) (hr1 : Kd.C (Kd.int .i64) w A1 l1.length l1) (hc1 : l1.length≤c1) (hr2 : Kd.C (Kd.int .i64) w A2 l2.length l2) (hc2 : l2.length≤c2) (h : gain_Put.f k a0_0 a0_1 l0_2 l1 l2 a3=some (r1,r2,r3,r4)) :
  Calls Try.prog 43 #[.agg #[.int .u64 a0_0, .int .u32 a0_1, .slice A0_2 l0_2.length c0_2], .slice A1 l1.length c1, .slice A2 l2.length c2, .bool a3] w fun e w' => ∃ v2_ : Value,e=.returned (.tuple #[.agg #[.int .u64 r1, .int .u32 r2,v2_], .int .i64 r4])∧Kd.V (Kd.int .u8) 5 w' w.heap.size (fun k_=>(P0_2_ k_∨w.heap.size≤k_)) v2_ r3∧Below w.heap.size w w' := by
 have hu26:=Try.underlying26
 have HO0_2:=zm (show Kd.V (Kd.int .u8) 5 w w.heap.size (fun k_=>(P0_2_ k_∨w.heap.size≤k_)) (.slice A0_2 l0_2.length c0_2) l0_2 from zy hs0_2 (fun k_ hk => .inl hk))
 have HR1:=zm hr1;have HC1:=zm hc1;clear hr1 hc1;have HR2:=zm hr2;have HC2:=zm hc2;clear hr2 hc2;have HB:=zm (Below.refl w.heap.size w)
 have H : ((coder_Put.f k a0_0 a0_1 l0_2 0 1 0).bind fun bt691=>((gain_Right.f k l1).bind fun t698=>(if t698=true then (if a3=true then (gain_Put.j0 k l1 l2 a3 false a0_0 a0_1 l0_2 bt691.1 bt691.2.1 bt691.2.2.1) else ((gain_Right.f k l2).bind fun t699=>(gain_Put.j0 k l1 l2 a3 (!t699) a0_0 a0_1 l0_2 bt691.1 bt691.2.1 bt691.2.2.1))) else (gain_Put.j0 k l1 l2 a3 true a0_0 a0_1 l0_2 bt691.1 bt691.2.1 bt691.2.2.1))))=some (r1,r2,r3,r4):=h
 clear h
 replace H:=ybi H;obtain ⟨⟨t691,t692,t693,t696⟩,A5,H⟩:=H
 try dsimp only at H
 have HC6:=zm H;clear H
 go_enter Try.func43,Try.ntmps43
 go_upto_region 2 with (first|((with_reducible refine gate_dst (N:=4) rfl ?_);refine ybx 4 #[.int .u64 a0_0, .int .u32 a0_1, .slice A0_2 l0_2.length c0_2] 26 ?_;intro gb689 hg w7 hbox hb;replace HO0_2:=yVe HO0_2 hg hb;have BK689:=zm (hbox);have GW689:=ygw hg;have GE689:=ygw hg;replace HB:=ybs hb;clear hb hbox hg)|((with_reducible refine gate_dst (N:=8) rfl ?_);refine ybx 8 #[.int .u64 0, .int .u32 0, .slice none 0 0] 26 ?_;intro gb690 hg w8 hbox hb;replace HO0_2:=yVe HO0_2 hg hb;have BK690:=zm (hbox);have GW690:=ygw hg;have GE690:=ygw hg;replace HB:=ybs hb;have NB689_690:=ynl BK689 hg;have NB690_689:=yng BK689 hg;replace BK689:=ybb BK689 hb;clear hb hbox hg;have:=NB689_690.out;have:=NB690_689.out;obtain ⟨hcz10_0,hcz10_1,hcz10_2,hfz10_0,hfz10_1,hfz10_2⟩:=yc3 BK689)|((with_reducible refine gate_callee (f:=18) rfl ?_);refine ygl 19 Try.func18 #[.agg #[.int .u64 a0_0, .int .u32 a0_1, .slice A0_2 l0_2.length c0_2], .int .i64 0, .int .i64 1, .int .i64 0] ?_;(with_reducible refine (coder_Put.calls k a0_0 a0_1 _ _ l0_2 0 1 0 t691 t692 t693 t696 _ ?side1 ?side2 A5.out).mono ?_);(case side1=>exact yce (Kd.V_reads' HO0_2.out).2.2);(case side2=>exact (Kd.V_reads' HO0_2.out).2.1);rintro e w11 ⟨v694,rfl,ho0,hb⟩;refine ⟨_,rfl, ?_⟩;replace HO0_2:=zm (Kd.V_elder' (yr HO0_2) (Kd.R_base ho0) hb);have HO695:=zm (Kd.R_lower (Kd.R_newM (M:=fun k_=>(w.heap.size≤k_)) ho0 (zE yhb) (fun k_ h_=>h_)) (zE yhb));replace BK689:=ybb BK689 hb;replace BK690:=ybb BK690 hb;replace HB:=ybs hb;(try clear hb);(try clear ho0))|((with_reducible refine gate_dst (N:=10) rfl ?_);refine ybx 10 #[.int .u64 0, .int .u32 0, .slice none 0 0] 26 ?_;intro gb697 hg w12 hbox hb;replace HO0_2:=yVe HO0_2 hg hb;replace HO695:=yRb HO695 hb;have BK697:=zm (hbox);have GW697:=ygw hg;have GE697:=ygw hg;replace HB:=ybs hb;have NB689_697:=ynl BK689 hg;have NB697_689:=yng BK689 hg;replace BK689:=ybb BK689 hb;have NB690_697:=ynl BK690 hg;have NB697_690:=yng BK690 hg;replace BK690:=ybb BK690 hb;clear hb hbox hg;have:=NB697_689.out;have:=NB689_697.out;have:=NB697_690.out;have:=NB690_697.out;obtain ⟨hcz15_0,hcz15_1,hcz15_2,hfz15_0,hfz15_1,hfz15_2⟩:=yc3 BK697;obtain ⟨Ao16,co16,eo16⟩:=Kd.R_slice HO695.out;subst eo16))
 (try simp only [Act.put,List.setIfInBounds_toArray,List.set_cons_zero,List.set_cons_succ])
 go_cut [33] (fun v33 wc => ∃ (kq : Nat) (x33_5 : Bool),v33=.bool x33_5∧Aside0 (gain_Put.j0 kq l1 l2 a3 x33_5 a0_0 a0_1 l0_2 t691 t692 t693=some (r1,r2,r3,r4))∧Aside0 (kq≤k)∧Aside0 (Kd.V (Kd.int .u8) 5 wc w.heap.size (fun k_=>(P0_2_ k_∨w.heap.size≤k_)∧some k_≠((.slice Ao16 t693.length co16) : Value).ownBlock∧k_≠gb689∧k_≠gb690∧k_≠gb697) (.slice A0_2 l0_2.length c0_2) l0_2)∧Aside0 (Kd.R (Kd.int .u8) 5 wc w.heap.size (fun k_=>(w.heap.size≤k_)) (.slice Ao16 t693.length co16) t693)∧Aside0 (wc.heap[gb689]? = some (.cells #[.int .u64 a0_0, .int .u32 a0_1,(.slice A0_2 l0_2.length c0_2)] 26 (0,0)))∧Aside0 (wc.heap[gb690]? = some (.cells #[.int .u64 0, .int .u32 0,(.slice none 0 0)] 26 (0,0)))∧Aside0 (wc.heap[gb697]? = some (.cells #[.int .u64 t691, .int .u32 t692,(.slice Ao16 t693.length co16)] 26 (0,0)))∧Aside0 (Below w.heap.size w wc))
 case first =>
  have H:=HC6.out;clear HC6
  replace H:=ybi H;obtain ⟨t698,A17,H⟩:=H
  by_cases c18 : t698=true
  ·
   subst c18
   rw [if_pos rfl] at H
   by_cases c19 : a3=true
   ·
    subst c19
    rw [if_pos rfl] at H
    have H' := zm H
    clear H
    go_wp2_with (first|((with_reducible refine gate_callee (f:=45) rfl ?_);refine ygl 23 Try.func45 #[.slice A1 l1.length c1] ?_;(with_reducible refine (gain_Right.calls k _ _ l1 true _ ?side1 HC1.out A17.out).mono ?_);(case side1=>exact Kd.C_below HR1.out yhb);rintro e w' ⟨rfl,⟨nd,rfl⟩⟩;refine ⟨_,rfl, ?_⟩))
    go_meet
    case rel=>exact ⟨_,(false),yq,H',⟨yo⟩,⟨yV0 HO0_2⟩,⟨yR1 HO695 BK697⟩,⟨yk BK689⟩,⟨yk BK690⟩,⟨ykp BK697⟩,⟨yhb⟩⟩
   ·
    replace c19:=Bool.eq_false_iff.mpr c19
    subst c19
    rw [ynf] at H
    replace H:=ybi H;obtain ⟨t699,A20,H⟩:=H
    have H' := zm H
    clear H
    go_wp2_with (first|((with_reducible refine gate_callee (f:=45) rfl ?_);refine ygl 23 Try.func45 #[.slice A1 l1.length c1] ?_;(with_reducible refine (gain_Right.calls k _ _ l1 true _ ?side1 HC1.out A17.out).mono ?_);(case side1=>exact Kd.C_below HR1.out yhb);rintro e w' ⟨rfl,⟨nd,rfl⟩⟩;refine ⟨_,rfl, ?_⟩)|(go_at_call 45;(with_reducible refine (gain_Right.calls k _ _ l2 t699 _ ?side1 HC2.out A20.out).mono ?_);(case side1=>exact Kd.C_below HR2.out yhb);rintro e w' ⟨rfl,⟨nd,rfl⟩⟩))
    go_meet
    case rel=>exact ⟨_,(!t699),yq,H',⟨yo⟩,⟨yV0 HO0_2⟩,⟨yR1 HO695 BK697⟩,⟨yk BK689⟩,⟨yk BK690⟩,⟨ykp BK697⟩,⟨yhb⟩⟩
  ·
   replace c18:=Bool.eq_false_iff.mpr c18
   subst c18
   rw [ynf] at H
   have H' := zm H
   clear H
   go_wp2_with (first|((with_reducible refine gate_callee (f:=45) rfl ?_);refine ygl 23 Try.func45 #[.slice A1 l1.length c1] ?_;(with_reducible refine (gain_Right.calls k _ _ l1 false _ ?side1 HC1.out A17.out).mono ?_);(case side1=>exact Kd.C_below HR1.out yhb);rintro e w' ⟨rfl,⟨nd,rfl⟩⟩;refine ⟨_,rfl, ?_⟩))
   go_meet
   case rel=>exact ⟨_,(true),yq,H',⟨yo⟩,⟨yV0 HO0_2⟩,⟨yR1 HO695 BK697⟩,⟨yk BK689⟩,⟨yk BK690⟩,⟨ykp BK697⟩,⟨yhb⟩⟩
 case rest =>
  clear HC6
  try clear c1
  try clear c2
  try clear hcz10_0
  try clear hcz10_1
  try clear hcz10_2
  try clear hcz15_0
  try clear hcz15_1
  try clear hcz15_2
  try clear hfz10_0
  try clear hfz10_1
  try clear hfz10_2
  try clear hfz15_0
  try clear hfz15_1
  try clear hfz15_2
  obtain ⟨kq,x33_5,rfl,HA,HJ5,HO_690002,HO_698002,BK689,BK690,BK697,HB⟩:=hcut
  obtain ⟨kj5,rfl⟩:=ysu kq (fun h=>by subst h;exact absurd HA.out (by simp [gain_Put.j0]))
  have H:=HA.out;clear HA
  simp only [gain_Put.j0] at H
  by_cases c21 : x33_5=true
  ·
   subst c21
   rw [if_pos rfl] at H
   simp only [Option.some.injEq,Prod.mk.injEq] at H
   obtain ⟨rfl,rfl,rfl,rfl⟩:=H
   have:=NB697_689.out
   have:=NB689_697.out
   have:=NB697_690.out
   have:=NB690_697.out
   obtain ⟨hcz24_0,hcz24_1,hcz24_2,hfz24_0,hfz24_1,hfz24_2⟩:=yc3 BK697
   have:=NB690_689.out
   have:=NB689_690.out
   obtain ⟨hcz26_0,hcz26_1,hcz26_2,hfz26_0,hfz26_1,hfz26_2⟩:=yc3 BK690
   go_wp2
   refine bodyPost_ret (results_ct rfl _ _ gb690 26 #[.int .u64 t691, .int .u32 t692, .slice Ao16 t693.length co16] (0,0) _ rfl (ykp BK690) Try.underlying26 rfl (by kernel_rfl)) rfl ?_
   exact ⟨_,ye,zy (Kd.R_V (by (with_reducible repeat (first|apply zo|apply zp|apply zq));exact zG (zH (p:=⟨gb690,2,none⟩) (zH (p:=⟨gb690,1,none⟩) (zH (p:=⟨gb690,0,none⟩) (Kd.R_types HO_698002.out BK690.out (by decide)) (fun _ hk=>hk.2) (.int .u64 t691)) (fun _ hk=>hk.2) (.int .u32 t692)) (fun _ hk=>hk.2) (.slice Ao16 t693.length co16)) (fun _ hk=>hk.1))) (fun k_ hk=>by first|exact ⟨(.inr (hk.1)),hk.2⟩|exact (.inr (hk))),yhb⟩
  ·
   replace c21:=Bool.eq_false_iff.mpr c21
   subst c21
   rw [ynf] at H
   have H' := zm H
   clear H
   have:=NB689_690.out
   have:=NB690_689.out
   have:=NB689_697.out
   have:=NB697_689.out
   obtain ⟨hcz29_0,hcz29_1,hcz29_2,hfz29_0,hfz29_1,hfz29_2⟩:=yc3 BK689
   go_wp2_with (first|((with_reducible refine gate_dst (N:=12) rfl ?_);refine ybx 12 #[.int .u64 0, .int .u32 0, .slice none 0 0] 26 ?_;intro gb700 hg w30 hbox hb;replace HO_690002:=yVe HO_690002 hg hb;replace HO_698002:=yRb HO_698002 hb;have BK700:=zm (hbox);have GW700:=ygw hg;have GE700:=ygw hg;replace HB:=ybs hb;have NB689_700:=ynl BK689 hg;have NB700_689:=yng BK689 hg;replace BK689:=ybb BK689 hb;have NB690_700:=ynl BK690 hg;have NB700_690:=yng BK690 hg;replace BK690:=ybb BK690 hb;have NB697_700:=ynl BK697 hg;have NB700_697:=yng BK697 hg;replace BK697:=ybb BK697 hb;clear hb hbox hg;have:=NB700_689.out;have:=NB689_700.out;have:=NB700_690.out;have:=NB690_700.out;have:=NB700_697.out;have:=NB697_700.out;obtain ⟨hcz34_0,hcz34_1,hcz34_2,hfz34_0,hfz34_1,hfz34_2⟩:=yc3 BK700))
   go_loopg [36] kj5 (fun kq v36 w' => ∃ (x36_2 : Int) (x691000_2 : Int) (x691001_2 : Int) (x701000_2 : Int) (x701001_2 : Int) (x701002_2 : List Int) (u701002 : Value),v36=.int .i64 x36_2∧Aside0 (gain_Put.l0 kq l1 l2 a3 x36_2 t691 t692 t693 x701000_2 x701001_2 x701002_2=some (r1,r2,r3,r4))∧Aside0 (kq≤kj5)∧Aside0 (Kd.V (Kd.int .u8) 5 w' w.heap.size (fun k_=>(P0_2_ k_∨w.heap.size≤k_)∧some k_≠((.slice Ao16 t693.length co16) : Value).ownBlock∧k_≠gb689∧k_≠gb690∧k_≠gb697∧k_≠gb700) (.slice A0_2 l0_2.length c0_2) l0_2)∧Aside0 (Kd.R (Kd.int .u8) 5 w' w.heap.size (fun k_=>(w.heap.size≤k_)) (.slice Ao16 t693.length co16) t693)∧Aside0 (Kd.V (Kd.int .u8) 5 w' w.heap.size (fun k_=>(P0_2_ k_∨w.heap.size≤k_)∧some k_≠((.slice Ao16 t693.length co16) : Value).ownBlock∧k_≠gb689∧k_≠gb690∧k_≠gb697∧k_≠gb700) u701002 x701002_2)∧Aside0 (w'.heap[gb689]? = some (.cells #[.int .u64 a0_0, .int .u32 a0_1,(.slice A0_2 l0_2.length c0_2)] 26 (0,0)))∧Aside0 (w'.heap[gb690]? = some (.cells #[.int .u64 x691000_2, .int .u32 x691001_2,(.slice none 0 0)] 26 (0,0)))∧Aside0 (w'.heap[gb697]? = some (.cells #[.int .u64 t691, .int .u32 t692,(.slice Ao16 t693.length co16)] 26 (0,0)))∧Aside0 (w'.heap[gb700]? = some (.cells #[.int .u64 x701000_2, .int .u32 x701001_2,u701002] 26 (0,0)))∧Aside0 (Below w.heap.size w w'))
   case atStart=>exact ⟨(0),(0),(0),(a0_0),(a0_1),(l0_2),(.slice A0_2 l0_2.length c0_2),yq,H',⟨Nat.le_refl _⟩,⟨yV0 HO_690002⟩,⟨yR1 HO_698002 BK700⟩,⟨yV0 HO_690002⟩,⟨yk BK689⟩,⟨yk BK690⟩,⟨yk BK697⟩,⟨ykp BK700⟩,⟨yhb⟩⟩
   case round =>
    clear H'
    try clear hcz24_0
    try clear hcz24_1
    try clear hcz24_2
    try clear hcz26_0
    try clear hcz26_1
    try clear hcz26_2
    try clear hcz29_0
    try clear hcz29_1
    try clear hcz29_2
    try clear hcz34_0
    try clear hcz34_1
    try clear hcz34_2
    try clear hfz24_0
    try clear hfz24_1
    try clear hfz24_2
    try clear hfz26_0
    try clear hfz26_1
    try clear hfz26_2
    try clear hfz29_0
    try clear hfz29_1
    try clear hfz29_2
    try clear hfz34_0
    try clear hfz34_1
    try clear hfz34_2
    obtain ⟨x36_2,x691000_2,x691001_2,x701000_2,x701001_2,x701002_2,u701002,rfl,HA,HK2,HO_690002,HO_698002,HO_701002,BK689,BK690,BK697,BK700,HB⟩:=hrel
    obtain ⟨k2,rfl⟩:=ysu gk (fun h=>by subst h;exact absurd HA.out (by simp [gain_Put.l0]))
    have H:=HA.out;clear HA
    simp only [gain_Put.l0] at H
    by_cases c35 : x36_2 < 5
    ·
     rw [if_pos c35] at H
     have c35b0 : decide (x36_2 < 5)=true:=decide_eq_true c35
     clear c35;have HC36:=zm H;clear H
     go_upto_if 40 with (fail)
     go_cut [14] (fun v14 wc => ∃ (kq : Nat) (x14_35 : Int),v14=.int .i64 x14_35∧Aside0 (gain_Put.j2 kq l1 l2 a3 x36_2 x14_35 x36_2 t691 t692 t693 x701000_2 x701001_2 x701002_2=some (r1,r2,r3,r4))∧Aside0 (kq≤k2)∧Aside0 (Kd.V (Kd.int .u8) 5 wc w.heap.size (fun k_=>(P0_2_ k_∨w.heap.size≤k_)∧some k_≠((.slice Ao16 t693.length co16) : Value).ownBlock∧k_≠gb689∧k_≠gb690∧k_≠gb697∧k_≠gb700) (.slice A0_2 l0_2.length c0_2) l0_2)∧Aside0 (Kd.R (Kd.int .u8) 5 wc w.heap.size (fun k_=>(w.heap.size≤k_)) (.slice Ao16 t693.length co16) t693)∧Aside0 (Kd.V (Kd.int .u8) 5 wc w.heap.size (fun k_=>(P0_2_ k_∨w.heap.size≤k_)∧some k_≠((.slice Ao16 t693.length co16) : Value).ownBlock∧k_≠gb689∧k_≠gb690∧k_≠gb697∧k_≠gb700) u701002 x701002_2)∧Aside0 (wc.heap[gb689]? = some (.cells #[.int .u64 a0_0, .int .u32 a0_1,(.slice A0_2 l0_2.length c0_2)] 26 (0,0)))∧Aside0 (wc.heap[gb690]? = some (.cells #[.int .u64 x691000_2, .int .u32 x691001_2,(.slice none 0 0)] 26 (0,0)))∧Aside0 (wc.heap[gb697]? = some (.cells #[.int .u64 t691, .int .u32 t692,(.slice Ao16 t693.length co16)] 26 (0,0)))∧Aside0 (wc.heap[gb700]? = some (.cells #[.int .u64 x701000_2, .int .u32 x701001_2,u701002] 26 (0,0)))∧Aside0 (Below w.heap.size w wc))
     case first =>
      have H:=HC36.out;clear HC36
      by_cases c37 : a3=true
      ·
       subst c37
       rw [if_pos rfl] at H
       have H' := zm H
       clear H
       go_wp2
       go_meet
       case rel=>exact ⟨_,(0),yq,H',⟨yom2 HJ5 HK2⟩,⟨yr HO_690002⟩,⟨yr HO_698002⟩,⟨yr HO_701002⟩,⟨yk BK689⟩,⟨yk BK690⟩,⟨yk BK697⟩,⟨yk BK700⟩,⟨yhb⟩⟩
      ·
       replace c37:=Bool.eq_false_iff.mpr c37
       subst c37
       rw [ynf] at H
       replace H:=yif H;obtain ⟨c38,H⟩:=H
       have c38b0 : decide (0≤x36_2)=true:=decide_eq_true c38
       clear c38
       (first|rw [c38b0]|(simp only [i64_w,i32_w];rw [c38b0])|skip)
       replace H:=yif H;obtain ⟨c39,H⟩:=H
       have c39b0 : decide (x36_2 < (l2.length : Int))=true:=decide_eq_true c39
       clear c39
       have H' := zm H
       clear H
       have p701 : 0≤(x36_2 : Int):=yt
       have q701 : x36_2 < (l2.length : Int):=yt
       obtain ⟨ad701,e701,hx701_0⟩:=Kd.at_int HR2.out x36_2 p701 q701
       cases e701
       replace hx701_0:=yhx HB hx701_0
       replace p701:=eq_true p701
       replace q701:=eq_true q701
       go_wp2
       go_meet
       case rel=>exact ⟨_,(rd l2 x36_2),yq,H',⟨yom2 HJ5 HK2⟩,⟨yr HO_690002⟩,⟨yr HO_698002⟩,⟨yr HO_701002⟩,⟨yk BK689⟩,⟨yk BK690⟩,⟨yk BK697⟩,⟨yk BK700⟩,⟨yhb⟩⟩
     case rest =>
      clear HC36
      try clear c35b0
      obtain ⟨kq,x14_35,rfl,HA,HJ35,HO_690002,HO_698002,HO_701002,BK689,BK690,BK697,BK700,HB⟩:=hcut
      obtain ⟨kj35,rfl⟩:=ysu kq (fun h=>by subst h;exact absurd HA.out (by simp [gain_Put.j2]))
      have H:=HA.out;clear HA
      simp only [gain_Put.j2] at H
      replace H:=yif H;obtain ⟨c40,H⟩:=H
      have c40b0 : decide (0≤x36_2)=true:=decide_eq_true c40
      clear c40
      replace H:=yif H;obtain ⟨c41,H⟩:=H
      have c41b0 : decide (x36_2 < (l1.length : Int))=true:=decide_eq_true c41
      clear c41
      replace H:=ybi H;obtain ⟨⟨t703,t704,t705,t708⟩,A42,H⟩:=H
      try dsimp only at H
      by_cases c43 : t708=0
      ·
       rw [if_pos c43] at H
       have c43b0 : (t708 == 0)=true:=beq_iff_eq.mpr c43
       have c43b1 : (t708 != 0)=false:=bne_eq_false_iff_eq.mpr c43
       clear c43
       have H' := zm H
       clear H
       obtain ⟨Ao44,co44,eo44⟩:=Kd.V_slice HO_701002.out
       subst eo44
       try go_wp2
       replace HO_690002:=zm (zC HO_690002.out)
       replace HO_698002:=zm (zq HO_698002.out)
       replace HO_701002:=zm (zC HO_701002.out)
       replace BK689:=zm (zj BK689.out)
       replace BK690:=zm (zj BK690.out)
       replace BK697:=zm (zj BK697.out)
       replace BK700:=zm (zj BK700.out)
       replace HB:=zm (zf HB.out)
       have p702 : 0≤(x36_2 : Int):=yt
       have q702 : x36_2 < (l1.length : Int):=yt
       obtain ⟨ad702,e702,hx702_0⟩:=Kd.at_int HR1.out x36_2 p702 q702
       have hw702_0:=hx702_0
       cases e702
       replace hx702_0:=yhx HB hx702_0
       replace p702:=eq_true p702
       replace q702:=eq_true q702
       refine yst (fun w' => w'.cell? ⟨gb700,0,none⟩=some (.int .u64 x701000_2)∧w'.cell? ⟨gb700,1,none⟩=some (.int .u32 x701001_2)∧w'.cell? ⟨gb700,2,none⟩=some (.slice Ao44 x701002_2.length co44)∧w'.cell? (ad702.add (x36_2).toNat)=some (.int .i64 (rd l1 x36_2))) [] 14 gain_Put.tab11 gain_Put.bits11 (fun hHeld HT_ HW_ => ?_)
       generalize wc.drew=w45 at HO_690002 HO_698002 HO_701002 BK689 BK690 BK697 BK700 HB hx702_0 hHeld ⊢
       refine yp 1 47 HT_ ?_
       refine yp 2 48 HT_ ?_
       refine yp 3 49 HT_ ?_
       refine yp 5 51 HT_ ?_
       refine yp 6 52 HT_ ?_
       refine yl 0 46 HT_ HW_ hHeld ?_
       refine yl 4 50 HT_ HW_ hHeld ?_
       refine join_ (σ:=Value × Nat) 2 #[true,true,true,true,true,true,true,true,true,true,true,true,false,false] (fun s_ => [(53, .tuple #[.agg #[.int .u64 t703, .int .u32 t704,s_.1], .int .i64 t708]),(15, .pointer (some ⟨s_.2,0,none⟩)),(45, .tuple #[.agg #[.int .u64 t703, .int .u32 t704,s_.1], .int .i64 t708]),(54, .agg #[.int .u64 t703, .int .u32 t704,s_.1]),(55, .int .i64 t708)]) (fun s_ w' => (w'.cell? ⟨gb700,0,none⟩=some (.int .u64 x701000_2)∧w'.cell? ⟨gb700,1,none⟩=some (.int .u32 x701001_2)∧w'.cell? ⟨gb700,2,none⟩=some (.slice Ao44 x701002_2.length co44)∧w'.cell? (ad702.add (x36_2).toNat)=some (.int .i64 (rd l1 x36_2)))∧(Kd.R (Kd.int .u8) 5 w' w.heap.size (fun k_=>(w.heap.size≤k_)∧some k_≠(.slice Ao16 t693.length co16 : Value).ownBlock) s_.1 t705)∧(Kd.V (Kd.int .u8) 5 w' w.heap.size (fun k_=>(P0_2_ k_∨w.heap.size≤k_)∧some k_≠(s_.1 : Value).ownBlock∧some k_≠(.slice Ao16 t693.length co16 : Value).ownBlock∧k_≠gb689∧k_≠gb690∧k_≠gb697∧k_≠gb700∧k_≠s_.2) (.slice A0_2 l0_2.length c0_2) l0_2)∧(Kd.R (Kd.int .u8) 5 w' w.heap.size (fun k_=>(w.heap.size≤k_)∧some k_≠(s_.1 : Value).ownBlock) (.slice Ao16 t693.length co16) t693)∧(Kd.V (Kd.int .u8) 5 w' w.heap.size (fun k_=>(P0_2_ k_∨w.heap.size≤k_)∧some k_≠(s_.1 : Value).ownBlock∧some k_≠(.slice Ao16 t693.length co16 : Value).ownBlock∧k_≠gb689∧k_≠gb690∧k_≠gb697∧k_≠gb700∧k_≠s_.2) (.slice Ao44 x701002_2.length co44) x701002_2)∧(w'.heap[gb689]? = some (.cells #[.int .u64 a0_0, .int .u32 a0_1, .slice A0_2 l0_2.length c0_2] 26 (0,0)))∧(w'.heap[gb690]? = some (.cells #[.int .u64 x691000_2, .int .u32 x691001_2, .slice none 0 0] 26 (0,0)))∧(w'.heap[gb697]? = some (.cells #[.int .u64 t691, .int .u32 t692, .slice Ao16 t693.length co16] 26 (0,0)))∧(w'.heap[gb700]? = some (.cells #[.int .u64 x701000_2, .int .u32 x701001_2, .slice Ao44 x701002_2.length co44] 26 (0,0)))∧(w'.heap[s_.2]? = some (.cells #[.int .u64 0, .int .u32 0, .slice none 0 0] 26 (0,0)))∧(w.heap.size≤s_.2)∧(w.heap.size≤s_.2)∧(gb689≠s_.2)∧(s_.2≠gb689)∧(gb690≠s_.2)∧(s_.2≠gb690)∧(gb697≠s_.2)∧(s_.2≠gb697)∧(gb700≠s_.2)∧(s_.2≠gb700)∧(Below w.heap.size w w')) ?_ ?_
       rotate_left
       ·
        intro hCont
        refine two_ (i:=7) (j:=11) (Ni:=some 53) (Nj:=some 15) #[true,true,true,true,true,true,true,true,false,false,false,false,false,false] #[true,true,true,true,true,true,true,false,false,false,false,true,false,false] rfl rfl rfl rfl (two_of HT_.out (by kernel_rfl)) (by decide) (by decide) (fun K hK => ?_) (fun K hK => ?_)
        ·
         skip
         refine ygs Try.func64 #[.agg #[.int .u64 x701000_2, .int .u32 x701001_2, .slice Ao44 x701002_2.length co44], .int .i64 (rd l1 x36_2), .int .i64 x14_35, .bool a3] ?_
         with_reducible refine (gain_put.calls kj35 x701000_2 x701001_2 _ _ x701002_2 (rd l1 x36_2) x14_35 a3 t703 t704 t705 t708 _ ?side1 ?side2 A42.out).mono ?_
         (case side1=>exact yce (Kd.V_reads' HO_701002.out).2.2)
         (case side2=>exact (Kd.V_reads' HO_701002.out).2.1)
         rintro e w46 ⟨v706,rfl,ho0,hb⟩
         refine ⟨_,rfl, ?_⟩
         replace HO_690002:=zm (Kd.V_elder' (yr HO_690002) (Kd.R_base ho0) hb)
         replace HO_701002:=zm (Kd.V_elder' (yr HO_701002) (Kd.R_base ho0) hb)
         have HO707:=zm (Kd.R_lower (Kd.R_new' (Kd.R_newM (M:=fun k_=>(w.heap.size≤k_)) ho0 (zE yhb) (fun k_ h_=>h_)) (Kd.R_lt (yr HO_698002))) (zE yhb))
         replace HO_698002:=zm (Kd.R_elder' (yr HO_698002) (Kd.R_base ho0) hb)
         replace BK689:=ybb BK689 hb
         replace BK690:=ybb BK690 hb
         replace BK697:=ybb BK697 hb
         replace BK700:=ybb BK700 hb
         replace HB:=ybs hb
         (try clear hb)
         (try clear ho0)
         refine hK.out _ _ yH (fun hHeld => ?_)
         clear hK K
         refine ym (some 53) ?_
         refine yp 8 45 HT_ ?_
         refine yp 9 54 HT_ ?_
         refine yp 10 55 HT_ ?_
         refine yw 11 15 HT_ (fun K hK => ?_)
         refine box_step ?hg (N:=15) ?hd (cs := #[.int .u64 0, .int .u32 0, .slice none 0 0]) (t:=26) ?hr ?_;(case hd=>rfl);(case hg=>rfl);(case hr=>first|(go_simp;done)|(go_simp;rfl))
         intro gb709 hg w47 hbox hb
         replace HO_690002:=yVe HO_690002 hg hb
         replace HO_698002:=yRb HO_698002 hb
         replace HO_701002:=yVe HO_701002 hg hb
         replace HO707:=yRb HO707 hb
         have BK709:=zm (hbox)
         have GW709:=ygw hg
         have GE709:=ygw hg
         replace HB:=ybs hb
         have NB689_709:=ynl BK689 hg
         have NB709_689:=yng BK689 hg
         replace BK689:=ybb BK689 hb
         have NB690_709:=ynl BK690 hg
         have NB709_690:=yng BK690 hg
         replace BK690:=ybb BK690 hb
         have NB697_709:=ynl BK697 hg
         have NB709_697:=yng BK697 hg
         replace BK697:=ybb BK697 hb
         have NB700_709:=ynl BK700 hg
         have NB709_700:=yng BK700 hg
         replace BK700:=ybb BK700 hb
         clear hb hbox hg
         refine hK.out _ _ yH (fun hHeld => ?_)
         clear hK K
         refine ym (some 15) ?_
         exact norm_ (by simp only [putAll,Act.put,List.setIfInBounds_toArray,List.set_cons_zero,List.set_cons_succ]) (hCont (v706,gb709) _ ⟨hHeld,(yR0 HO707),(yV0 HO_690002),(yr HO_698002),(yV0 HO_701002),(yk BK689),(yk BK690),(yk BK697),(yk BK700),(yk BK709),GW709.out,GE709.out,NB689_709.out,NB709_689.out,NB690_709.out,NB709_690.out,NB697_709.out,NB709_697.out,NB700_709.out,NB709_700.out,yhb⟩)
        ·
         skip
         refine box_step ?hg (N:=15) ?hd (cs := #[.int .u64 0, .int .u32 0, .slice none 0 0]) (t:=26) ?hr ?_;(case hd=>rfl);(case hg=>rfl);(case hr=>first|(go_simp;done)|(go_simp;rfl))
         intro gb709 hg w46 hbox hb
         replace HO_690002:=yVe HO_690002 hg hb
         replace HO_698002:=yRb HO_698002 hb
         replace HO_701002:=yVe HO_701002 hg hb
         have BK709:=zm (hbox)
         have GW709:=ygw hg
         have GE709:=ygw hg
         replace HB:=ybs hb
         have NB689_709:=ynl BK689 hg
         have NB709_689:=yng BK689 hg
         replace BK689:=ybb BK689 hb
         have NB690_709:=ynl BK690 hg
         have NB709_690:=yng BK690 hg
         replace BK690:=ybb BK690 hb
         have NB697_709:=ynl BK697 hg
         have NB709_697:=yng BK697 hg
         replace BK697:=ybb BK697 hb
         have NB700_709:=ynl BK700 hg
         have NB709_700:=yng BK700 hg
         replace BK700:=ybb BK700 hb
         clear hb hbox hg
         refine hK.out _ _ yH (fun hHeld => ?_)
         clear hK K
         refine ym (some 15) ?_
         refine yw 7 53 HT_ (fun K hK => ?_)
         refine ygs Try.func64 #[.agg #[.int .u64 x701000_2, .int .u32 x701001_2, .slice Ao44 x701002_2.length co44], .int .i64 (rd l1 x36_2), .int .i64 x14_35, .bool a3] ?_
         with_reducible refine (gain_put.calls kj35 x701000_2 x701001_2 _ _ x701002_2 (rd l1 x36_2) x14_35 a3 t703 t704 t705 t708 _ ?side1 ?side2 A42.out).mono ?_
         (case side1=>exact yce (Kd.V_reads' HO_701002.out).2.2)
         (case side2=>exact (Kd.V_reads' HO_701002.out).2.1)
         rintro e w47 ⟨v706,rfl,ho0,hb⟩
         refine ⟨_,rfl, ?_⟩
         replace HO_690002:=zm (Kd.V_elder' (yr HO_690002) (Kd.R_base ho0) hb)
         replace HO_701002:=zm (Kd.V_elder' (yr HO_701002) (Kd.R_base ho0) hb)
         have HO707:=zm (Kd.R_lower (Kd.R_new' (Kd.R_newM (M:=fun k_=>(w.heap.size≤k_)) ho0 (zE yhb) (fun k_ h_=>h_)) (Kd.R_lt (yr HO_698002))) (zE yhb))
         replace HO_698002:=zm (Kd.R_elder' (yr HO_698002) (Kd.R_base ho0) hb)
         replace BK689:=ybb BK689 hb
         replace BK690:=ybb BK690 hb
         replace BK697:=ybb BK697 hb
         replace BK700:=ybb BK700 hb
         replace BK709:=ybb BK709 hb
         replace HB:=ybs hb
         (try clear hb)
         (try clear ho0)
         refine hK.out _ _ yH (fun hHeld => ?_)
         clear hK K
         refine ym (some 53) ?_
         refine yp 8 45 HT_ ?_
         refine yp 9 54 HT_ ?_
         refine yp 10 55 HT_ ?_
         exact norm_ (by simp only [putAll,Act.put,List.setIfInBounds_toArray,List.set_cons_zero,List.set_cons_succ]) (hCont (v706,gb709) _ ⟨hHeld,(yR0 HO707),(yV0 HO_690002),(yr HO_698002),(yV0 HO_701002),(yk BK689),(yk BK690),(yk BK697),(yk BK700),(yk BK709),GW709.out,GE709.out,NB689_709.out,NB709_689.out,NB690_709.out,NB709_690.out,NB697_709.out,NB709_697.out,NB700_709.out,NB709_700.out,yhb⟩)
       rintro ⟨v706,gb709⟩ w48 ⟨hS_,h0_,h1_,h2_,h3_,h4_,h5_,h6_,h7_,h8_,h9_,h10_,h11_,h12_,h13_,h14_,h15_,h16_,h17_,h18_,h19_⟩
       have n0_ : Aside0 (Kd.R (Kd.int .u8) 5 w48 w.heap.size (fun k_=>(w.heap.size≤k_)∧some k_≠(.slice Ao16 t693.length co16 : Value).ownBlock) v706 t705):=⟨h0_⟩
       have n1_ : Aside0 (Kd.V (Kd.int .u8) 5 w48 w.heap.size (fun k_=>(P0_2_ k_∨w.heap.size≤k_)∧some k_≠(v706 : Value).ownBlock∧some k_≠(.slice Ao16 t693.length co16 : Value).ownBlock∧k_≠gb689∧k_≠gb690∧k_≠gb697∧k_≠gb700∧k_≠gb709) (.slice A0_2 l0_2.length c0_2) l0_2):=⟨h1_⟩
       have n2_ : Aside0 (Kd.R (Kd.int .u8) 5 w48 w.heap.size (fun k_=>(w.heap.size≤k_)∧some k_≠(v706 : Value).ownBlock) (.slice Ao16 t693.length co16) t693):=⟨h2_⟩
       have n3_ : Aside0 (Kd.V (Kd.int .u8) 5 w48 w.heap.size (fun k_=>(P0_2_ k_∨w.heap.size≤k_)∧some k_≠(v706 : Value).ownBlock∧some k_≠(.slice Ao16 t693.length co16 : Value).ownBlock∧k_≠gb689∧k_≠gb690∧k_≠gb697∧k_≠gb700∧k_≠gb709) (.slice Ao44 x701002_2.length co44) x701002_2):=⟨h3_⟩
       have n4_ : Aside0 (w48.heap[gb689]? = some (.cells #[.int .u64 a0_0, .int .u32 a0_1, .slice A0_2 l0_2.length c0_2] 26 (0,0))):=⟨h4_⟩
       have n5_ : Aside0 (w48.heap[gb690]? = some (.cells #[.int .u64 x691000_2, .int .u32 x691001_2, .slice none 0 0] 26 (0,0))):=⟨h5_⟩
       have n6_ : Aside0 (w48.heap[gb697]? = some (.cells #[.int .u64 t691, .int .u32 t692, .slice Ao16 t693.length co16] 26 (0,0))):=⟨h6_⟩
       have n7_ : Aside0 (w48.heap[gb700]? = some (.cells #[.int .u64 x701000_2, .int .u32 x701001_2, .slice Ao44 x701002_2.length co44] 26 (0,0))):=⟨h7_⟩
       have n8_ : Aside0 (w48.heap[gb709]? = some (.cells #[.int .u64 0, .int .u32 0, .slice none 0 0] 26 (0,0))):=⟨h8_⟩
       have n9_ : Aside0 (w.heap.size≤gb709):=⟨h9_⟩
       have n10_ : Aside0 (w.heap.size≤gb709):=⟨h10_⟩
       have n11_ : Aside0 (gb689≠gb709):=⟨h11_⟩
       have n12_ : Aside0 (gb709≠gb689):=⟨h12_⟩
       have n13_ : Aside0 (gb690≠gb709):=⟨h13_⟩
       have n14_ : Aside0 (gb709≠gb690):=⟨h14_⟩
       have n15_ : Aside0 (gb697≠gb709):=⟨h15_⟩
       have n16_ : Aside0 (gb709≠gb697):=⟨h16_⟩
       have n17_ : Aside0 (gb700≠gb709):=⟨h17_⟩
       have n18_ : Aside0 (gb709≠gb700):=⟨h18_⟩
       have n19_ : Aside0 (Below w.heap.size w w48):=⟨h19_⟩
       clear HO_690002;clear HO_698002;clear HO_701002;clear BK689;clear BK690;clear BK697;clear BK700;clear HB;clear h0_ h1_ h2_ h3_ h4_ h5_ h6_ h7_ h8_ h9_ h10_ h11_ h12_ h13_ h14_ h15_ h16_ h17_ h18_ h19_;have HO707:=n0_;have HO_690002:=n1_;have HO_698002:=n2_;have HO_701002:=n3_;have BK689:=n4_;have BK690:=n5_;have BK697:=n6_;have BK700:=n7_;have BK709:=n8_;have GW709:=n9_;have GE709:=n10_;have NB689_709:=n11_;have NB709_689:=n12_;have NB690_709:=n13_;have NB709_690:=n14_;have NB697_709:=n15_;have NB709_697:=n16_;have NB700_709:=n17_;have NB709_700:=n18_;have HB:=n19_;clear n0_ n1_ n2_ n3_ n4_ n5_ n6_ n7_ n8_ n9_ n10_ n11_ n12_ n13_ n14_ n15_ n16_ n17_ n18_ n19_
       have hHeld : w48.cell? ⟨gb700,0,none⟩=some (.int .u64 x701000_2)∧w48.cell? ⟨gb700,1,none⟩=some (.int .u32 x701001_2)∧w48.cell? ⟨gb700,2,none⟩=some (.slice Ao44 x701002_2.length co44)∧w48.cell? (ad702.add (x36_2).toNat)=some (.int .i64 (rd l1 x36_2)):=hS_
       obtain ⟨Ao51,co51,eo51⟩:=Kd.R_slice HO707.out
       (first|subst eo51|(injection eo51 with f1_ f2_ f3_;have f4_:=f1_.symm;have f5_:=f3_.symm;clear f1_ f2_ f3_;subst f4_;subst f5_))
       refine norm_ (a' := ?_) ?_ ?_
       rotate_left
       ·
        simp only [putAll,Act.put,List.setIfInBounds_toArray,List.set_cons_zero,List.set_cons_succ]
        rfl
       refine yv 12 HT_ (fun K hK => ?_)
       have hs49 : w48.cell? ⟨gb709,0,none⟩=some (.int .u64 0):=(zs BK709.out 0).trans rfl
       have hfs49:=zx BK709.out 0
       have:=NB689_709.out
       have:=NB690_709.out
       have:=NB697_709.out
       have:=NB700_709.out
       have:=NB709_689.out
       have:=NB709_690.out
       have:=NB709_697.out
       have:=NB709_700.out
       have hs50 : w48.cell? ⟨gb709,1,none⟩=some (.int .u32 0):=(zs BK709.out 1).trans rfl
       have hfs50:=zx BK709.out 1
       have:=NB689_709.out
       have:=NB690_709.out
       have:=NB697_709.out
       have:=NB700_709.out
       have:=NB709_689.out
       have:=NB709_690.out
       have:=NB709_697.out
       have:=NB709_700.out
       have hs52 : w48.cell? ⟨gb709,2,none⟩=some (.slice none 0 0):=(zs BK709.out 2).trans rfl
       have hfs52:=zx BK709.out 2
       have:=NB689_709.out
       have:=NB690_709.out
       have:=NB697_709.out
       have:=NB700_709.out
       have:=NB709_689.out
       have:=NB709_690.out
       have:=NB709_697.out
       have:=NB709_700.out
       refine skip_ (w1 := ?_) (by rfl) rfl ?_ ?_
       rotate_left
       ·
        go_simp
        rfl
       refine hK.out _ _ ⟨((zr (p:=⟨gb709,_,none⟩) NB700_709.out _).trans (((zr (p:=⟨gb709,_,none⟩) NB700_709.out _).trans (((zr (p:=⟨gb709,_,none⟩) NB700_709.out _).trans (hHeld.1)))))),((zr (p:=⟨gb709,_,none⟩) NB700_709.out _).trans (((zr (p:=⟨gb709,_,none⟩) NB700_709.out _).trans (((zr (p:=⟨gb709,_,none⟩) NB700_709.out _).trans (hHeld.2.1)))))),((zr (p:=⟨gb709,_,none⟩) NB700_709.out _).trans (((zr (p:=⟨gb709,_,none⟩) NB700_709.out _).trans (((zr (p:=⟨gb709,_,none⟩) NB700_709.out _).trans (hHeld.2.2.1)))))),((zr (p:=⟨gb709,_,none⟩) (by first|exact zn (zl (by have:=zb _ _ hw702_0;first|rwa [za] at this|exact this) GW709.out)|(rw [za];exact zn (zl (by have:=zb _ _ hw702_0;first|rwa [za] at this|exact this) GW709.out))|(show (Addr.add _ _).block≠_;rw [za];exact zn (zl (by have:=zb _ _ hw702_0;first|rwa [za] at this|exact this) GW709.out))|(dsimp only;exact zn (zl (by have:=zb _ _ hw702_0;first|rwa [za] at this|exact this) GW709.out))) _).trans (((zr (p:=⟨gb709,_,none⟩) (by first|exact zn (zl (by have:=zb _ _ hw702_0;first|rwa [za] at this|exact this) GW709.out)|(rw [za];exact zn (zl (by have:=zb _ _ hw702_0;first|rwa [za] at this|exact this) GW709.out))|(show (Addr.add _ _).block≠_;rw [za];exact zn (zl (by have:=zb _ _ hw702_0;first|rwa [za] at this|exact this) GW709.out))|(dsimp only;exact zn (zl (by have:=zb _ _ hw702_0;first|rwa [za] at this|exact this) GW709.out))) _).trans (((zr (p:=⟨gb709,_,none⟩) (by first|exact zn (zl (by have:=zb _ _ hw702_0;first|rwa [za] at this|exact this) GW709.out)|(rw [za];exact zn (zl (by have:=zb _ _ hw702_0;first|rwa [za] at this|exact this) GW709.out))|(show (Addr.add _ _).block≠_;rw [za];exact zn (zl (by have:=zb _ _ hw702_0;first|rwa [za] at this|exact this) GW709.out))|(dsimp only;exact zn (zl (by have:=zb _ _ hw702_0;first|rwa [za] at this|exact this) GW709.out))) _).trans (hHeld.2.2.2))))))⟩ (fun hHeld => ?_)
       clear hK K
       refine yp 13 16 HT_ ?_
       refine done_ (done_of HT_.out (by kernel_rfl)) ?_
       have:=NB709_689.out
       have:=NB689_709.out
       have:=NB709_690.out
       have:=NB690_709.out
       have:=NB709_697.out
       have:=NB697_709.out
       have:=NB709_700.out
       have:=NB700_709.out
       obtain ⟨_,_,_,_,_,_⟩:=yc3 BK709
       have:=NB700_689.out
       have:=NB689_700.out
       have:=NB700_690.out
       have:=NB690_700.out
       have:=NB700_697.out
       have:=NB697_700.out
       obtain ⟨_,_,_,_,_,_⟩:=yc3 BK700
       try go_wp2
       go_roundg kj35
       case measure=>exact yom3 HJ5 HK2 HJ35
       case rel=>exact ⟨(wrap64 (x36_2+1)),(x691000_2),(x691001_2),(t703),(t704),(t705),(.slice Ao51 t705.length co51),yq,H',⟨yom3 HJ5 HK2 HJ35⟩,⟨yV0 HO_690002⟩,⟨yR2 HO_698002 BK709 BK700⟩,⟨zy (Kd.R_V (ok:=fun k_=>w.heap.size≤k_∧some k_≠((.slice Ao16 t693.length co16) : Value).ownBlock∧k_≠gb689∧k_≠gb690∧k_≠gb697∧k_≠gb700) (by (with_reducible repeat (first|apply zo|apply zp|apply zq));exact zG (zH (p:=⟨gb700,2,none⟩) (zH (p:=⟨gb700,1,none⟩) (zH (p:=⟨gb700,0,none⟩) (zH (p:=⟨gb709,2,none⟩) (zH (p:=⟨gb709,1,none⟩) (zH (p:=⟨gb709,0,none⟩) (Kd.R_types (Kd.R_types (Kd.R_types (Kd.R_types (Kd.R_types (Kd.R_types HO707.out BK689.out (by decide)) BK690.out (by decide)) BK697.out (by decide)) BK700.out (by decide)) BK709.out (by decide)) BK700.out (by decide)) (fun _ hk=>hk.1.2) (.int .u64 t703)) (fun _ hk=>hk.1.2) (.int .u32 t704)) (fun _ hk=>hk.1.2) (.slice Ao51 t705.length co51)) (fun _ hk=>hk.2) (.int .u64 t703)) (fun _ hk=>hk.2) (.int .u32 t704)) (fun _ hk=>hk.2) (.slice Ao51 t705.length co51)) (fun _ hk=>⟨hk.1.1.1.1.1.1.1,⟨hk.1.1.1.1.1.1.2,⟨hk.1.1.1.1.1.2,⟨hk.1.1.1.1.2,⟨hk.1.1.1.2,hk.1.1.2⟩⟩⟩⟩⟩))) (fun k_ hk=>by first|exact ⟨(.inr (hk.1)),hk.2⟩|exact (.inr (hk)))⟩,⟨yk BK689⟩,⟨yk BK690⟩,⟨yk BK697⟩,⟨ykp BK700⟩,⟨yhb⟩⟩
      ·
       rw [if_neg c43] at H
       have c43b0 : (t708 == 0)=false:=beq_eq_false_iff_ne.mpr c43
       have c43b1 : (t708 != 0)=true:=bne_iff_ne.mpr c43
       simp only [Option.some.injEq,Prod.mk.injEq] at H
       obtain ⟨rfl,rfl,rfl,rfl⟩:=H
       obtain ⟨Ao62,co62,eo62⟩:=Kd.V_slice HO_701002.out
       subst eo62
       try go_wp2
       replace HO_690002:=zm (zC HO_690002.out)
       replace HO_698002:=zm (zq HO_698002.out)
       replace HO_701002:=zm (zC HO_701002.out)
       replace BK689:=zm (zj BK689.out)
       replace BK690:=zm (zj BK690.out)
       replace BK697:=zm (zj BK697.out)
       replace BK700:=zm (zj BK700.out)
       replace HB:=zm (zf HB.out)
       have p702 : 0≤(x36_2 : Int):=yt
       have q702 : x36_2 < (l1.length : Int):=yt
       obtain ⟨ad702,e702,hx702_0⟩:=Kd.at_int HR1.out x36_2 p702 q702
       have hw702_0:=hx702_0
       cases e702
       replace hx702_0:=yhx HB hx702_0
       replace p702:=eq_true p702
       replace q702:=eq_true q702
       refine yst (fun w' => w'.cell? ⟨gb700,0,none⟩=some (.int .u64 x701000_2)∧w'.cell? ⟨gb700,1,none⟩=some (.int .u32 x701001_2)∧w'.cell? ⟨gb700,2,none⟩=some (.slice Ao62 x701002_2.length co62)∧w'.cell? (ad702.add (x36_2).toNat)=some (.int .i64 (rd l1 x36_2))) [] 14 gain_Put.tab11 gain_Put.bits11 (fun hHeld HT_ HW_ => ?_)
       generalize wc.drew=w63 at HO_690002 HO_698002 HO_701002 BK689 BK690 BK697 BK700 HB hx702_0 hHeld ⊢
       refine yp 1 47 HT_ ?_
       refine yp 2 48 HT_ ?_
       refine yp 3 49 HT_ ?_
       refine yp 5 51 HT_ ?_
       refine yp 6 52 HT_ ?_
       refine yl 0 46 HT_ HW_ hHeld ?_
       refine yl 4 50 HT_ HW_ hHeld ?_
       refine join_ (σ:=Value × Nat) 2 #[true,true,true,true,true,true,true,true,true,true,true,true,false,false] (fun s_ => [(53, .tuple #[.agg #[.int .u64 t703, .int .u32 t704,s_.1], .int .i64 t708]),(15, .pointer (some ⟨s_.2,0,none⟩)),(45, .tuple #[.agg #[.int .u64 t703, .int .u32 t704,s_.1], .int .i64 t708]),(54, .agg #[.int .u64 t703, .int .u32 t704,s_.1]),(55, .int .i64 t708)]) (fun s_ w' => (w'.cell? ⟨gb700,0,none⟩=some (.int .u64 x701000_2)∧w'.cell? ⟨gb700,1,none⟩=some (.int .u32 x701001_2)∧w'.cell? ⟨gb700,2,none⟩=some (.slice Ao62 x701002_2.length co62)∧w'.cell? (ad702.add (x36_2).toNat)=some (.int .i64 (rd l1 x36_2)))∧(Kd.R (Kd.int .u8) 5 w' w.heap.size (fun k_=>(w.heap.size≤k_)∧some k_≠(.slice Ao16 t693.length co16 : Value).ownBlock) s_.1 t705)∧(Kd.V (Kd.int .u8) 5 w' w.heap.size (fun k_=>(P0_2_ k_∨w.heap.size≤k_)∧some k_≠(s_.1 : Value).ownBlock∧some k_≠(.slice Ao16 t693.length co16 : Value).ownBlock∧k_≠gb689∧k_≠gb690∧k_≠gb697∧k_≠gb700∧k_≠s_.2) (.slice A0_2 l0_2.length c0_2) l0_2)∧(Kd.R (Kd.int .u8) 5 w' w.heap.size (fun k_=>(w.heap.size≤k_)∧some k_≠(s_.1 : Value).ownBlock) (.slice Ao16 t693.length co16) t693)∧(Kd.V (Kd.int .u8) 5 w' w.heap.size (fun k_=>(P0_2_ k_∨w.heap.size≤k_)∧some k_≠(s_.1 : Value).ownBlock∧some k_≠(.slice Ao16 t693.length co16 : Value).ownBlock∧k_≠gb689∧k_≠gb690∧k_≠gb697∧k_≠gb700∧k_≠s_.2) (.slice Ao62 x701002_2.length co62) x701002_2)∧(w'.heap[gb689]? = some (.cells #[.int .u64 a0_0, .int .u32 a0_1, .slice A0_2 l0_2.length c0_2] 26 (0,0)))∧(w'.heap[gb690]? = some (.cells #[.int .u64 x691000_2, .int .u32 x691001_2, .slice none 0 0] 26 (0,0)))∧(w'.heap[gb697]? = some (.cells #[.int .u64 t691, .int .u32 t692, .slice Ao16 t693.length co16] 26 (0,0)))∧(w'.heap[gb700]? = some (.cells #[.int .u64 x701000_2, .int .u32 x701001_2, .slice Ao62 x701002_2.length co62] 26 (0,0)))∧(w'.heap[s_.2]? = some (.cells #[.int .u64 0, .int .u32 0, .slice none 0 0] 26 (0,0)))∧(w.heap.size≤s_.2)∧(w.heap.size≤s_.2)∧(gb689≠s_.2)∧(s_.2≠gb689)∧(gb690≠s_.2)∧(s_.2≠gb690)∧(gb697≠s_.2)∧(s_.2≠gb697)∧(gb700≠s_.2)∧(s_.2≠gb700)∧(Below w.heap.size w w')) ?_ ?_
       rotate_left
       ·
        intro hCont
        refine two_ (i:=7) (j:=11) (Ni:=some 53) (Nj:=some 15) #[true,true,true,true,true,true,true,true,false,false,false,false,false,false] #[true,true,true,true,true,true,true,false,false,false,false,true,false,false] rfl rfl rfl rfl (two_of HT_.out (by kernel_rfl)) (by decide) (by decide) (fun K hK => ?_) (fun K hK => ?_)
        ·
         skip
         refine ygs Try.func64 #[.agg #[.int .u64 x701000_2, .int .u32 x701001_2, .slice Ao62 x701002_2.length co62], .int .i64 (rd l1 x36_2), .int .i64 x14_35, .bool a3] ?_
         with_reducible refine (gain_put.calls kj35 x701000_2 x701001_2 _ _ x701002_2 (rd l1 x36_2) x14_35 a3 t703 t704 t705 t708 _ ?side1 ?side2 A42.out).mono ?_
         (case side1=>exact yce (Kd.V_reads' HO_701002.out).2.2)
         (case side2=>exact (Kd.V_reads' HO_701002.out).2.1)
         rintro e w64 ⟨v706,rfl,ho0,hb⟩
         refine ⟨_,rfl, ?_⟩
         replace HO_690002:=zm (Kd.V_elder' (yr HO_690002) (Kd.R_base ho0) hb)
         replace HO_701002:=zm (Kd.V_elder' (yr HO_701002) (Kd.R_base ho0) hb)
         have HO707:=zm (Kd.R_lower (Kd.R_new' (Kd.R_newM (M:=fun k_=>(w.heap.size≤k_)) ho0 (zE yhb) (fun k_ h_=>h_)) (Kd.R_lt (yr HO_698002))) (zE yhb))
         replace HO_698002:=zm (Kd.R_elder' (yr HO_698002) (Kd.R_base ho0) hb)
         replace BK689:=ybb BK689 hb
         replace BK690:=ybb BK690 hb
         replace BK697:=ybb BK697 hb
         replace BK700:=ybb BK700 hb
         replace HB:=ybs hb
         (try clear hb)
         (try clear ho0)
         refine hK.out _ _ yH (fun hHeld => ?_)
         clear hK K
         refine ym (some 53) ?_
         refine yp 8 45 HT_ ?_
         refine yp 9 54 HT_ ?_
         refine yp 10 55 HT_ ?_
         refine yw 11 15 HT_ (fun K hK => ?_)
         refine box_step ?hg (N:=15) ?hd (cs := #[.int .u64 0, .int .u32 0, .slice none 0 0]) (t:=26) ?hr ?_;(case hd=>rfl);(case hg=>rfl);(case hr=>first|(go_simp;done)|(go_simp;rfl))
         intro gb709 hg w65 hbox hb
         replace HO_690002:=yVe HO_690002 hg hb
         replace HO_698002:=yRb HO_698002 hb
         replace HO_701002:=yVe HO_701002 hg hb
         replace HO707:=yRb HO707 hb
         have BK709:=zm (hbox)
         have GW709:=ygw hg
         have GE709:=ygw hg
         replace HB:=ybs hb
         have NB689_709:=ynl BK689 hg
         have NB709_689:=yng BK689 hg
         replace BK689:=ybb BK689 hb
         have NB690_709:=ynl BK690 hg
         have NB709_690:=yng BK690 hg
         replace BK690:=ybb BK690 hb
         have NB697_709:=ynl BK697 hg
         have NB709_697:=yng BK697 hg
         replace BK697:=ybb BK697 hb
         have NB700_709:=ynl BK700 hg
         have NB709_700:=yng BK700 hg
         replace BK700:=ybb BK700 hb
         clear hb hbox hg
         refine hK.out _ _ yH (fun hHeld => ?_)
         clear hK K
         refine ym (some 15) ?_
         exact norm_ (by simp only [putAll,Act.put,List.setIfInBounds_toArray,List.set_cons_zero,List.set_cons_succ]) (hCont (v706,gb709) _ ⟨hHeld,(yR0 HO707),(yV0 HO_690002),(yr HO_698002),(yV0 HO_701002),(yk BK689),(yk BK690),(yk BK697),(yk BK700),(yk BK709),GW709.out,GE709.out,NB689_709.out,NB709_689.out,NB690_709.out,NB709_690.out,NB697_709.out,NB709_697.out,NB700_709.out,NB709_700.out,yhb⟩)
        ·
         skip
         refine box_step ?hg (N:=15) ?hd (cs := #[.int .u64 0, .int .u32 0, .slice none 0 0]) (t:=26) ?hr ?_;(case hd=>rfl);(case hg=>rfl);(case hr=>first|(go_simp;done)|(go_simp;rfl))
         intro gb709 hg w64 hbox hb
         replace HO_690002:=yVe HO_690002 hg hb
         replace HO_698002:=yRb HO_698002 hb
         replace HO_701002:=yVe HO_701002 hg hb
         have BK709:=zm (hbox)
         have GW709:=ygw hg
         have GE709:=ygw hg
         replace HB:=ybs hb
         have NB689_709:=ynl BK689 hg
         have NB709_689:=yng BK689 hg
         replace BK689:=ybb BK689 hb
         have NB690_709:=ynl BK690 hg
         have NB709_690:=yng BK690 hg
         replace BK690:=ybb BK690 hb
         have NB697_709:=ynl BK697 hg
         have NB709_697:=yng BK697 hg
         replace BK697:=ybb BK697 hb
         have NB700_709:=ynl BK700 hg
         have NB709_700:=yng BK700 hg
         replace BK700:=ybb BK700 hb
         clear hb hbox hg
         refine hK.out _ _ yH (fun hHeld => ?_)
         clear hK K
         refine ym (some 15) ?_
         refine yw 7 53 HT_ (fun K hK => ?_)
         refine ygs Try.func64 #[.agg #[.int .u64 x701000_2, .int .u32 x701001_2, .slice Ao62 x701002_2.length co62], .int .i64 (rd l1 x36_2), .int .i64 x14_35, .bool a3] ?_
         with_reducible refine (gain_put.calls kj35 x701000_2 x701001_2 _ _ x701002_2 (rd l1 x36_2) x14_35 a3 t703 t704 t705 t708 _ ?side1 ?side2 A42.out).mono ?_
         (case side1=>exact yce (Kd.V_reads' HO_701002.out).2.2)
         (case side2=>exact (Kd.V_reads' HO_701002.out).2.1)
         rintro e w65 ⟨v706,rfl,ho0,hb⟩
         refine ⟨_,rfl, ?_⟩
         replace HO_690002:=zm (Kd.V_elder' (yr HO_690002) (Kd.R_base ho0) hb)
         replace HO_701002:=zm (Kd.V_elder' (yr HO_701002) (Kd.R_base ho0) hb)
         have HO707:=zm (Kd.R_lower (Kd.R_new' (Kd.R_newM (M:=fun k_=>(w.heap.size≤k_)) ho0 (zE yhb) (fun k_ h_=>h_)) (Kd.R_lt (yr HO_698002))) (zE yhb))
         replace HO_698002:=zm (Kd.R_elder' (yr HO_698002) (Kd.R_base ho0) hb)
         replace BK689:=ybb BK689 hb
         replace BK690:=ybb BK690 hb
         replace BK697:=ybb BK697 hb
         replace BK700:=ybb BK700 hb
         replace BK709:=ybb BK709 hb
         replace HB:=ybs hb
         (try clear hb)
         (try clear ho0)
         refine hK.out _ _ yH (fun hHeld => ?_)
         clear hK K
         refine ym (some 53) ?_
         refine yp 8 45 HT_ ?_
         refine yp 9 54 HT_ ?_
         refine yp 10 55 HT_ ?_
         exact norm_ (by simp only [putAll,Act.put,List.setIfInBounds_toArray,List.set_cons_zero,List.set_cons_succ]) (hCont (v706,gb709) _ ⟨hHeld,(yR0 HO707),(yV0 HO_690002),(yr HO_698002),(yV0 HO_701002),(yk BK689),(yk BK690),(yk BK697),(yk BK700),(yk BK709),GW709.out,GE709.out,NB689_709.out,NB709_689.out,NB690_709.out,NB709_690.out,NB697_709.out,NB709_697.out,NB700_709.out,NB709_700.out,yhb⟩)
       rintro ⟨v706,gb709⟩ w66 ⟨hS_,h0_,h1_,h2_,h3_,h4_,h5_,h6_,h7_,h8_,h9_,h10_,h11_,h12_,h13_,h14_,h15_,h16_,h17_,h18_,h19_⟩
       have n0_ : Aside0 (Kd.R (Kd.int .u8) 5 w66 w.heap.size (fun k_=>(w.heap.size≤k_)∧some k_≠(.slice Ao16 t693.length co16 : Value).ownBlock) v706 t705):=⟨h0_⟩
       have n1_ : Aside0 (Kd.V (Kd.int .u8) 5 w66 w.heap.size (fun k_=>(P0_2_ k_∨w.heap.size≤k_)∧some k_≠(v706 : Value).ownBlock∧some k_≠(.slice Ao16 t693.length co16 : Value).ownBlock∧k_≠gb689∧k_≠gb690∧k_≠gb697∧k_≠gb700∧k_≠gb709) (.slice A0_2 l0_2.length c0_2) l0_2):=⟨h1_⟩
       have n2_ : Aside0 (Kd.R (Kd.int .u8) 5 w66 w.heap.size (fun k_=>(w.heap.size≤k_)∧some k_≠(v706 : Value).ownBlock) (.slice Ao16 t693.length co16) t693):=⟨h2_⟩
       have n3_ : Aside0 (Kd.V (Kd.int .u8) 5 w66 w.heap.size (fun k_=>(P0_2_ k_∨w.heap.size≤k_)∧some k_≠(v706 : Value).ownBlock∧some k_≠(.slice Ao16 t693.length co16 : Value).ownBlock∧k_≠gb689∧k_≠gb690∧k_≠gb697∧k_≠gb700∧k_≠gb709) (.slice Ao62 x701002_2.length co62) x701002_2):=⟨h3_⟩
       have n4_ : Aside0 (w66.heap[gb689]? = some (.cells #[.int .u64 a0_0, .int .u32 a0_1, .slice A0_2 l0_2.length c0_2] 26 (0,0))):=⟨h4_⟩
       have n5_ : Aside0 (w66.heap[gb690]? = some (.cells #[.int .u64 x691000_2, .int .u32 x691001_2, .slice none 0 0] 26 (0,0))):=⟨h5_⟩
       have n6_ : Aside0 (w66.heap[gb697]? = some (.cells #[.int .u64 t691, .int .u32 t692, .slice Ao16 t693.length co16] 26 (0,0))):=⟨h6_⟩
       have n7_ : Aside0 (w66.heap[gb700]? = some (.cells #[.int .u64 x701000_2, .int .u32 x701001_2, .slice Ao62 x701002_2.length co62] 26 (0,0))):=⟨h7_⟩
       have n8_ : Aside0 (w66.heap[gb709]? = some (.cells #[.int .u64 0, .int .u32 0, .slice none 0 0] 26 (0,0))):=⟨h8_⟩
       have n9_ : Aside0 (w.heap.size≤gb709):=⟨h9_⟩
       have n10_ : Aside0 (w.heap.size≤gb709):=⟨h10_⟩
       have n11_ : Aside0 (gb689≠gb709):=⟨h11_⟩
       have n12_ : Aside0 (gb709≠gb689):=⟨h12_⟩
       have n13_ : Aside0 (gb690≠gb709):=⟨h13_⟩
       have n14_ : Aside0 (gb709≠gb690):=⟨h14_⟩
       have n15_ : Aside0 (gb697≠gb709):=⟨h15_⟩
       have n16_ : Aside0 (gb709≠gb697):=⟨h16_⟩
       have n17_ : Aside0 (gb700≠gb709):=⟨h17_⟩
       have n18_ : Aside0 (gb709≠gb700):=⟨h18_⟩
       have n19_ : Aside0 (Below w.heap.size w w66):=⟨h19_⟩
       clear HO_690002;clear HO_698002;clear HO_701002;clear BK689;clear BK690;clear BK697;clear BK700;clear HB;clear h0_ h1_ h2_ h3_ h4_ h5_ h6_ h7_ h8_ h9_ h10_ h11_ h12_ h13_ h14_ h15_ h16_ h17_ h18_ h19_;have HO707:=n0_;have HO_690002:=n1_;have HO_698002:=n2_;have HO_701002:=n3_;have BK689:=n4_;have BK690:=n5_;have BK697:=n6_;have BK700:=n7_;have BK709:=n8_;have GW709:=n9_;have GE709:=n10_;have NB689_709:=n11_;have NB709_689:=n12_;have NB690_709:=n13_;have NB709_690:=n14_;have NB697_709:=n15_;have NB709_697:=n16_;have NB700_709:=n17_;have NB709_700:=n18_;have HB:=n19_;clear n0_ n1_ n2_ n3_ n4_ n5_ n6_ n7_ n8_ n9_ n10_ n11_ n12_ n13_ n14_ n15_ n16_ n17_ n18_ n19_
       have hHeld : w66.cell? ⟨gb700,0,none⟩=some (.int .u64 x701000_2)∧w66.cell? ⟨gb700,1,none⟩=some (.int .u32 x701001_2)∧w66.cell? ⟨gb700,2,none⟩=some (.slice Ao62 x701002_2.length co62)∧w66.cell? (ad702.add (x36_2).toNat)=some (.int .i64 (rd l1 x36_2)):=hS_
       obtain ⟨Ao69,co69,eo69⟩:=Kd.R_slice HO707.out
       (first|subst eo69|(injection eo69 with f1_ f2_ f3_;have f4_:=f1_.symm;have f5_:=f3_.symm;clear f1_ f2_ f3_;subst f4_;subst f5_))
       refine norm_ (a' := ?_) ?_ ?_
       rotate_left
       ·
        simp only [putAll,Act.put,List.setIfInBounds_toArray,List.set_cons_zero,List.set_cons_succ]
        rfl
       refine yv 12 HT_ (fun K hK => ?_)
       have hs67 : w66.cell? ⟨gb709,0,none⟩=some (.int .u64 0):=(zs BK709.out 0).trans rfl
       have hfs67:=zx BK709.out 0
       have:=NB689_709.out
       have:=NB690_709.out
       have:=NB697_709.out
       have:=NB700_709.out
       have:=NB709_689.out
       have:=NB709_690.out
       have:=NB709_697.out
       have:=NB709_700.out
       have hs68 : w66.cell? ⟨gb709,1,none⟩=some (.int .u32 0):=(zs BK709.out 1).trans rfl
       have hfs68:=zx BK709.out 1
       have:=NB689_709.out
       have:=NB690_709.out
       have:=NB697_709.out
       have:=NB700_709.out
       have:=NB709_689.out
       have:=NB709_690.out
       have:=NB709_697.out
       have:=NB709_700.out
       have hs70 : w66.cell? ⟨gb709,2,none⟩=some (.slice none 0 0):=(zs BK709.out 2).trans rfl
       have hfs70:=zx BK709.out 2
       have:=NB689_709.out
       have:=NB690_709.out
       have:=NB697_709.out
       have:=NB700_709.out
       have:=NB709_689.out
       have:=NB709_690.out
       have:=NB709_697.out
       have:=NB709_700.out
       refine skip_ (w1 := ?_) (by rfl) rfl ?_ ?_
       rotate_left
       ·
        go_simp
        rfl
       refine hK.out _ _ ⟨((zr (p:=⟨gb709,_,none⟩) NB700_709.out _).trans (((zr (p:=⟨gb709,_,none⟩) NB700_709.out _).trans (((zr (p:=⟨gb709,_,none⟩) NB700_709.out _).trans (hHeld.1)))))),((zr (p:=⟨gb709,_,none⟩) NB700_709.out _).trans (((zr (p:=⟨gb709,_,none⟩) NB700_709.out _).trans (((zr (p:=⟨gb709,_,none⟩) NB700_709.out _).trans (hHeld.2.1)))))),((zr (p:=⟨gb709,_,none⟩) NB700_709.out _).trans (((zr (p:=⟨gb709,_,none⟩) NB700_709.out _).trans (((zr (p:=⟨gb709,_,none⟩) NB700_709.out _).trans (hHeld.2.2.1)))))),((zr (p:=⟨gb709,_,none⟩) (by first|exact zn (zl (by have:=zb _ _ hw702_0;first|rwa [za] at this|exact this) GW709.out)|(rw [za];exact zn (zl (by have:=zb _ _ hw702_0;first|rwa [za] at this|exact this) GW709.out))|(show (Addr.add _ _).block≠_;rw [za];exact zn (zl (by have:=zb _ _ hw702_0;first|rwa [za] at this|exact this) GW709.out))|(dsimp only;exact zn (zl (by have:=zb _ _ hw702_0;first|rwa [za] at this|exact this) GW709.out))) _).trans (((zr (p:=⟨gb709,_,none⟩) (by first|exact zn (zl (by have:=zb _ _ hw702_0;first|rwa [za] at this|exact this) GW709.out)|(rw [za];exact zn (zl (by have:=zb _ _ hw702_0;first|rwa [za] at this|exact this) GW709.out))|(show (Addr.add _ _).block≠_;rw [za];exact zn (zl (by have:=zb _ _ hw702_0;first|rwa [za] at this|exact this) GW709.out))|(dsimp only;exact zn (zl (by have:=zb _ _ hw702_0;first|rwa [za] at this|exact this) GW709.out))) _).trans (((zr (p:=⟨gb709,_,none⟩) (by first|exact zn (zl (by have:=zb _ _ hw702_0;first|rwa [za] at this|exact this) GW709.out)|(rw [za];exact zn (zl (by have:=zb _ _ hw702_0;first|rwa [za] at this|exact this) GW709.out))|(show (Addr.add _ _).block≠_;rw [za];exact zn (zl (by have:=zb _ _ hw702_0;first|rwa [za] at this|exact this) GW709.out))|(dsimp only;exact zn (zl (by have:=zb _ _ hw702_0;first|rwa [za] at this|exact this) GW709.out))) _).trans (hHeld.2.2.2))))))⟩ (fun hHeld => ?_)
       clear hK K
       refine yp 13 16 HT_ ?_
       refine done_ (done_of HT_.out (by kernel_rfl)) ?_
       have:=NB697_689.out
       have:=NB689_697.out
       have:=NB697_690.out
       have:=NB690_697.out
       have:=NB697_700.out
       have:=NB700_697.out
       have:=NB697_709.out
       have:=NB709_697.out
       obtain ⟨_,_,_,_,_,_⟩:=yc3 BK697
       have:=NB690_689.out
       have:=NB689_690.out
       have:=NB690_700.out
       have:=NB700_690.out
       have:=NB690_709.out
       have:=NB709_690.out
       obtain ⟨_,_,_,_,_,_⟩:=yc3 BK690
       try go_wp2
       refine bodyPost_ret (results_ct rfl _ _ gb690 26 #[.int .u64 t691, .int .u32 t692, .slice Ao16 t693.length co16] (0,0) _ rfl (ykp BK690) Try.underlying26 rfl (by kernel_rfl)) rfl ?_
       exact ⟨_,ye,zy (Kd.R_V (by (with_reducible repeat (first|apply zo|apply zp|apply zq));exact zG (zH (p:=⟨gb690,2,none⟩) (zH (p:=⟨gb690,1,none⟩) (zH (p:=⟨gb690,0,none⟩) (zH (p:=⟨gb709,2,none⟩) (zH (p:=⟨gb709,1,none⟩) (zH (p:=⟨gb709,0,none⟩) (Kd.R_types (Kd.R_types HO_698002.out BK709.out (by decide)) BK690.out (by decide)) (fun _ hk=>hk.1.2) (.int .u64 t703)) (fun _ hk=>hk.1.2) (.int .u32 t704)) (fun _ hk=>hk.1.2) (.slice Ao69 t705.length co69)) (fun _ hk=>hk.2) (.int .u64 t691)) (fun _ hk=>hk.2) (.int .u32 t692)) (fun _ hk=>hk.2) (.slice Ao16 t693.length co16)) (fun _ hk=>hk.1.1.1))) (fun k_ hk=>by first|exact ⟨(.inr (hk.1)),hk.2⟩|exact (.inr (hk))),yhb⟩
    ·
     rw [if_neg c35] at H
     have c35b0 : decide (x36_2 < 5)=false:=decide_eq_false c35
     clear c35
     simp only [Option.some.injEq,Prod.mk.injEq] at H
     obtain ⟨rfl,rfl,rfl,rfl⟩:=H
     have:=NB700_689.out
     have:=NB689_700.out
     have:=NB700_690.out
     have:=NB690_700.out
     have:=NB700_697.out
     have:=NB697_700.out
     obtain ⟨_,_,_,_,_,_⟩:=yc3 BK700
     have:=NB690_689.out
     have:=NB689_690.out
     have:=NB690_697.out
     have:=NB697_690.out
     obtain ⟨_,_,_,_,_,_⟩:=yc3 BK690
     obtain ⟨Ao87,co87,eo87⟩:=Kd.V_slice HO_701002.out
     subst eo87
     go_wp2
     refine bodyPost_ret (results_ct rfl _ _ gb690 26 #[.int .u64 x701000_2, .int .u32 x701001_2, .slice Ao87 x701002_2.length co87] (0,0) _ rfl (ykp BK690) Try.underlying26 rfl (by kernel_rfl)) rfl ?_
     exact ⟨_,ye,yV0 HO_701002,yhb⟩
def coder_RightDec.f (a0_0 : Int) (a0_1 : Int) (l0_2 : List Int) (a0_3 : Int) : Option (Bool):=if a0_0≤4294967295 then (if a0_1 ≥ 16777216 then (some (decide (a0_3 ≥ 0))) else (some false)) else (some false)
set_option maxHeartbeats 8000000 in
set_option maxRecDepth 100000 in
theorem coder_RightDec.calls (a0_0 : Int) (a0_1 : Int) (A0_2 : Option Addr) (c0_2 : Nat) (l0_2 : List Int) (a0_3 : Int) (r : Bool) (w : World) (hr0_2 : Kd.C (Kd.int .u8) w A0_2 l0_2.length l0_2) (hc0_2 : l0_2.length≤c0_2) (h : coder_RightDec.f a0_0 a0_1 l0_2 a0_3=some r) :
  Calls Try.prog 28 #[.agg #[.int .u64 a0_0, .int .u32 a0_1, .slice A0_2 l0_2.length c0_2, .int .i64 a0_3]] w fun e w' => e=.returned (.bool r)∧Below w.heap.size w w' := by
 have hu43:=Try.underlying43;have HR0_2:=zm hr0_2;have HC0_2:=zm hc0_2;clear hr0_2 hc0_2;have HB:=zm (Below.refl w.heap.size w)
 have H : (if a0_0≤4294967295 then (if a0_1 ≥ 16777216 then (some (decide (a0_3 ≥ 0))) else (some false)) else (some false))=some r:=h
 clear h
 by_cases c2 : a0_0≤4294967295
 ·
  rw [if_pos c2] at H
  have c2b0 : decide (a0_0≤4294967295)=true:=decide_eq_true c2
  clear c2
  by_cases c3 : a0_1 ≥ 16777216
  ·
   rw [if_pos c3] at H
   have c3b0 : decide (16777216≤a0_1)=true:=decide_eq_true c3
   clear c3
   obtain rfl:=Option.some.inj H
   go_enter Try.func28,Try.ntmps28
   go_wp2_with (first|((with_reducible refine gate_dst (N:=1) rfl ?_);refine ybx 1 #[.int .u64 a0_0, .int .u32 a0_1, .slice A0_2 l0_2.length c0_2, .int .i64 a0_3] 43 ?_;intro gb152 hg w4 hbox hb;have BK152:=zm (hbox);have GW152:=ygw hg;have GE152:=ygw hg;replace HB:=ybs hb;clear hb hbox hg;obtain ⟨_,_,_,_,_,_,_,_⟩:=yc4 BK152))
   go_ret
   exact ⟨ye,yhb⟩
  ·
   rw [if_neg c3] at H
   have c3b0 : decide (16777216≤a0_1)=false:=decide_eq_false c3
   clear c3
   obtain rfl:=Option.some.inj H
   go_enter Try.func28,Try.ntmps28
   go_wp2_with (first|((with_reducible refine gate_dst (N:=1) rfl ?_);refine ybx 1 #[.int .u64 a0_0, .int .u32 a0_1, .slice A0_2 l0_2.length c0_2, .int .i64 a0_3] 43 ?_;intro gb152 hg w6 hbox hb;have BK152:=zm (hbox);have GW152:=ygw hg;have GE152:=ygw hg;replace HB:=ybs hb;clear hb hbox hg;obtain ⟨_,_,_,_,_,_,_,_⟩:=yc4 BK152))
   go_ret
   exact ⟨ye,yhb⟩
 ·
  rw [if_neg c2] at H
  have c2b0 : decide (a0_0≤4294967295)=false:=decide_eq_false c2
  clear c2
  obtain rfl:=Option.some.inj H
  go_enter Try.func28,Try.ntmps28
  go_wp2_with (first|((with_reducible refine gate_dst (N:=1) rfl ?_);refine ybx 1 #[.int .u64 a0_0, .int .u32 a0_1, .slice A0_2 l0_2.length c0_2, .int .i64 a0_3] 43 ?_;intro gb152 hg w8 hbox hb;have BK152:=zm (hbox);have GW152:=ygw hg;have GE152:=ygw hg;replace HB:=ybs hb;clear hb hbox hg;obtain ⟨_,_,_,_,_,_,_,_⟩:=yc4 BK152))
  go_ret
  exact ⟨ye,yhb⟩
def coder_good.f (a0_0 : Int) (a0_1 : Int) (l0_2 : List Int) (a0_3 : Int) : Option (Int × Int × List Int × Int):=(coder_RightDec.f a0_0 a0_1 l0_2 a0_3).bind fun t155=>(if t155=true then (some (a0_0,a0_1,l0_2,a0_3)) else ((coder_Open.f ([] : List Int)).bind fun bt156=>(some (bt156.1,bt156.2.1,bt156.2.2.1,bt156.2.2.2))))
set_option maxHeartbeats 8000000 in
set_option maxRecDepth 100000 in
theorem coder_good.calls (a0_0 : Int) (a0_1 : Int) (P0_2_ : Nat→Prop) (A0_2 : Option Addr) (c0_2 : Nat) (l0_2 : List Int) (a0_3 : Int) (r1 : Int) (r2 : Int) (r3 : List Int) (r4 : Int) (w : World) (hs0_2 : Kd.V (Kd.int .u8) 5 w w.heap.size (fun k_=>P0_2_ k_) (.slice A0_2 l0_2.length c0_2) l0_2) (h : coder_good.f a0_0 a0_1 l0_2 a0_3=some (r1,r2,r3,r4)) :
  Calls Try.prog 60 #[.agg #[.int .u64 a0_0, .int .u32 a0_1, .slice A0_2 l0_2.length c0_2, .int .i64 a0_3]] w fun e w' => ∃ v2_ : Value,e=.returned (.agg #[.int .u64 r1, .int .u32 r2,v2_, .int .i64 r4])∧Kd.V (Kd.int .u8) 5 w' w.heap.size (fun k_=>(P0_2_ k_∨w.heap.size≤k_)) v2_ r3∧Below w.heap.size w w' := by
 have hu43:=Try.underlying43
 have HO0_2:=zm (show Kd.V (Kd.int .u8) 5 w w.heap.size (fun k_=>(P0_2_ k_∨w.heap.size≤k_)) (.slice A0_2 l0_2.length c0_2) l0_2 from zy hs0_2 (fun k_ hk => .inl hk))
 have HB:=zm (Below.refl w.heap.size w)
 have H : ((coder_RightDec.f a0_0 a0_1 l0_2 a0_3).bind fun t155=>(if t155=true then (some (a0_0,a0_1,l0_2,a0_3)) else ((coder_Open.f ([] : List Int)).bind fun bt156=>(some (bt156.1,bt156.2.1,bt156.2.2.1,bt156.2.2.2)))))=some (r1,r2,r3,r4):=h
 clear h
 replace H:=ybi H;obtain ⟨t155,A2,H⟩:=H
 by_cases c3 : t155=true
 ·
  subst c3
  rw [if_pos rfl] at H
  simp only [Option.some.injEq,Prod.mk.injEq] at H
  obtain ⟨rfl,rfl,rfl,rfl⟩:=H
  go_enter Try.func60,Try.ntmps60
  go_wp2_with (first|((with_reducible refine gate_dst (N:=1) rfl ?_);refine ybx 1 #[.int .u64 a0_0, .int .u32 a0_1, .slice A0_2 l0_2.length c0_2, .int .i64 a0_3] 43 ?_;intro gb153 hg w4 hbox hb;replace HO0_2:=yVe HO0_2 hg hb;have BK153:=zm (hbox);have GW153:=ygw hg;have GE153:=ygw hg;replace HB:=ybs hb;clear hb hbox hg)|((with_reducible refine gate_dst (N:=2) rfl ?_);refine ybx 2 #[.int .u64 0, .int .u32 0, .slice none 0 0, .int .i64 0] 43 ?_;intro gb154 hg w5 hbox hb;replace HO0_2:=yVe HO0_2 hg hb;have BK154:=zm (hbox);have GW154:=ygw hg;have GE154:=ygw hg;replace HB:=ybs hb;have NB153_154:=ynl BK153 hg;have NB154_153:=yng BK153 hg;replace BK153:=ybb BK153 hb;clear hb hbox hg;have:=NB153_154.out;have:=NB154_153.out;obtain ⟨_,_,_,_,_,_,_,_⟩:=yc4 BK153)|((with_reducible refine gate_callee (f:=28) rfl ?_);refine ygl 4 Try.func28 #[.agg #[.int .u64 a0_0, .int .u32 a0_1, .slice A0_2 l0_2.length c0_2, .int .i64 a0_3]] ?_;(with_reducible refine (coder_RightDec.calls a0_0 a0_1 _ _ l0_2 a0_3 true _ ?side1 ?side2 A2.out).mono ?_);(case side1=>exact yce (Kd.V_reads' HO0_2.out).2.2);(case side2=>exact (Kd.V_reads' HO0_2.out).2.1);rintro e w8 ⟨rfl,hb⟩;refine ⟨_,rfl, ?_⟩;replace HO0_2:=yVb HO0_2 hb;replace BK153:=ybb BK153 hb;replace BK154:=ybb BK154 hb;replace HB:=ybs hb;(try clear hb);obtain ⟨_,_,_,_,_,_,_,_⟩:=yc4 BK153;obtain ⟨_,_,_,_,_,_,_,_⟩:=yc4 BK154))
  refine bodyPost_ret (results_cell_row rfl _ _ gb154 43 #[.int .u64 a0_0, .int .u32 a0_1, .slice A0_2 l0_2.length c0_2, .int .i64 a0_3] (0,0) _ rfl (ykp BK154) Try.underlying43 rfl (by kernel_rfl)) rfl ?_
  exact ⟨_,ye,yV0 HO0_2,yhb⟩
 ·
  replace c3:=Bool.eq_false_iff.mpr c3
  subst c3
  rw [ynf] at H
  replace H:=ybi H;obtain ⟨⟨t156,t157,t158,t161⟩,A11,H⟩:=H
  try dsimp only at H
  simp only [Option.some.injEq,Prod.mk.injEq] at H
  obtain ⟨rfl,rfl,rfl,rfl⟩:=H
  go_enter Try.func60,Try.ntmps60
  go_wp2_with (first|((with_reducible refine gate_dst (N:=1) rfl ?_);refine ybx 1 #[.int .u64 a0_0, .int .u32 a0_1, .slice A0_2 l0_2.length c0_2, .int .i64 a0_3] 43 ?_;intro gb153 hg w12 hbox hb;replace HO0_2:=yVe HO0_2 hg hb;have BK153:=zm (hbox);have GW153:=ygw hg;have GE153:=ygw hg;replace HB:=ybs hb;clear hb hbox hg)|((with_reducible refine gate_dst (N:=2) rfl ?_);refine ybx 2 #[.int .u64 0, .int .u32 0, .slice none 0 0, .int .i64 0] 43 ?_;intro gb154 hg w13 hbox hb;replace HO0_2:=yVe HO0_2 hg hb;have BK154:=zm (hbox);have GW154:=ygw hg;have GE154:=ygw hg;replace HB:=ybs hb;have NB153_154:=ynl BK153 hg;have NB154_153:=yng BK153 hg;replace BK153:=ybb BK153 hb;clear hb hbox hg;have:=NB153_154.out;have:=NB154_153.out;obtain ⟨_,_,_,_,_,_,_,_⟩:=yc4 BK153)|((with_reducible refine gate_callee (f:=28) rfl ?_);refine ygl 4 Try.func28 #[.agg #[.int .u64 a0_0, .int .u32 a0_1, .slice A0_2 l0_2.length c0_2, .int .i64 a0_3]] ?_;(with_reducible refine (coder_RightDec.calls a0_0 a0_1 _ _ l0_2 a0_3 false _ ?side1 ?side2 A2.out).mono ?_);(case side1=>exact yce (Kd.V_reads' HO0_2.out).2.2);(case side2=>exact (Kd.V_reads' HO0_2.out).2.1);rintro e w16 ⟨rfl,hb⟩;refine ⟨_,rfl, ?_⟩;replace HO0_2:=yVb HO0_2 hb;replace BK153:=ybb BK153 hb;replace BK154:=ybb BK154 hb;replace HB:=ybs hb;(try clear hb))|((with_reducible refine gate_callee (f:=26) rfl ?_);refine ygl 6 Try.func26 #[.slice none 0 0] ?_;(refine (coder_Open.calls (fun k_=>False) _ _ ([] : List Int) t156 t157 t158 t161 _ ?side1 A11.out).mono ?_);(case side1=>exact Kd.V_nil _ _ _ _ _);rintro e w17 ⟨v159,rfl,ho0,hb⟩;refine ⟨_,rfl, ?_⟩;replace HO0_2:=yVb HO0_2 hb;have HO160:=yho (fun k_=>(P0_2_ k_∨w.heap.size≤k_)∧k_≠gb153∧k_≠gb154) ho0 (fun k_ hk_=>⟨Or.elim hk_ (fun hs_=>(hs_).elim) (fun hn_=>(.inr (Nat.le_trans (zE yhb) hn_))),yoB BK153 hk_,yoB BK154 hk_⟩);replace BK153:=ybb BK153 hb;replace BK154:=ybb BK154 hb;replace HB:=ybs hb;(try clear hb);(try clear ho0);obtain ⟨_,_,_,_,_,_,_,_⟩:=yc4 BK154;obtain ⟨Ao19,co19,eo19⟩:=Kd.V_slice HO160.out;subst eo19))
  refine bodyPost_ret (results_cell_row rfl _ _ gb154 43 #[.int .u64 t156, .int .u32 t157, .slice Ao19 t158.length co19, .int .i64 t161] (0,0) _ rfl (ykp BK154) Try.underlying43 rfl (by kernel_rfl)) rfl ?_
  exact ⟨_,ye,yV0 HO160,yhb⟩
def coder_Take.l0 : Nat→Int→Int→Int→List Int→Int→Option (Int × Int × List Int × Int × Int)
 | 0,_,_,_,_,_=>none
 | k+1,x10,x354000,x354001,x354002,x354003=>if x10 < 16777216 then ((coder_at.f x354002 x354003).bind fun t364=>(if x354003 < (x354002.length : Int) then (coder_Take.l0 k ((x10 * 256) % 4294967296) (Go.bits .or .u64 (Go.bits .and .u64 (IntKind.u64.wrap (x354000 * 256)) 4294967295) t364) x354001 x354002 (wrap64 (x354003+1))) else (coder_Take.l0 k ((x10 * 256) % 4294967296) (Go.bits .or .u64 (Go.bits .and .u64 (IntKind.u64.wrap (x354000 * 256)) 4294967295) t364) x354001 x354002 x354003))) else (some (x354000,x10,x354002,x354003,0))
def coder_Take.f (k : Nat) (a0_0 : Int) (a0_1 : Int) (l0_2 : List Int) (a0_3 : Int) (a1 : Int) (a2 : Int) (a3 : Int) : Option (Int × Int × List Int × Int × Int):=(coder_good.f a0_0 a0_1 l0_2 a0_3).bind fun bt355=>((coder_fair.f a1 a2 a3).bind fun t361=>(if t361=true then ((coder_part.f bt355.2.1 a1 a2 a3).bind fun bt362=>(coder_Take.l0 k bt362.1 (IntKind.u64.wrap (bt355.1 - (mn bt355.1 bt362.2))) bt355.2.1 bt355.2.2.1 bt355.2.2.2)) else (some (bt355.1,bt355.2.1,bt355.2.2.1,bt355.2.2.2,1))))
theorem coder_Take.mono_l : ∀ k,(∀ y0 y1 y2 y3 y4,LeO (coder_Take.l0 k y0 y1 y2 y3 y4) (coder_Take.l0 (k+1) y0 y1 y2 y3 y4))
 | 0=>fun _ _ _ _ _ r h=>by simp [coder_Take.l0] at h
 | k+1=>by
  have ih0:=coder_Take.mono_l k
  ·
   intro y0 y1 y2 y3 y4
   unfold coder_Take.l0
   repeat' with_reducible first|apply ih0|apply yLr|apply yLn|apply yLi|apply yLb|intro _
theorem coder_Take.mono : ∀ a0 a1 a2 a3 a4 a5 a6 k,LeO (coder_Take.f k a0 a1 a2 a3 a4 a5 a6) (coder_Take.f (k+1) a0 a1 a2 a3 a4 a5 a6):=by
 intro a0 a1 a2 a3 a4 a5 a6 k
 have ih0:=coder_Take.mono_l k
 unfold coder_Take.f
 repeat' with_reducible first|apply ih0|apply yLr|apply yLn|apply yLi|apply yLb|intro _
def coder_Take.T7 : Bool × List (List Nat × List Nat):=(true, [([], []),([0], [0]),([1], [1]),([2], [2]),([], []),([4], [4]),([], []),([6], [6]),([5,7], [5,7]),([3,8], [3,8]),([0,1,2,3,4,5,6,7,8,9], []),([10,9,8,0,1,2,3,4,5,6,7,8,9], [9,10])])
def coder_Take.B7 : List Nat := [0,1,3,7,0,16,0,64,240,511,1023,2047]
theorem coder_Take.tab7 : rtab .any (opsOf Try.f34 7)=coder_Take.T7:=by kernel_rfl
theorem coder_Take.bits7 : waitsOk coder_Take.T7.2 coder_Take.B7=true:=by kernel_rfl
set_option maxHeartbeats 8000000 in
set_option maxRecDepth 100000 in
theorem coder_Take.calls (k : Nat) (a0_0 : Int) (a0_1 : Int) (P0_2_ : Nat→Prop) (A0_2 : Option Addr) (c0_2 : Nat) (l0_2 : List Int) (a0_3 : Int) (a1 : Int) (a2 : Int) (a3 : Int) (r1 : Int) (r2 : Int) (r3 : List Int) (r4 : Int) (r5 : Int) (w : World) (hs0_2 : Kd.V (Kd.int .u8) 5 w w.heap.size (fun k_=>P0_2_ k_) (.slice A0_2 l0_2.length c0_2) l0_2) (h : coder_Take.f k a0_0 a0_1 l0_2 a0_3 a1 a2 a3=some (r1,r2,r3,r4,r5)) :
  Calls Try.prog 34 #[.agg #[.int .u64 a0_0, .int .u32 a0_1, .slice A0_2 l0_2.length c0_2, .int .i64 a0_3], .int .i64 a1, .int .i64 a2, .int .i64 a3] w fun e w' => ∃ v2_ : Value,e=.returned (.tuple #[.agg #[.int .u64 r1, .int .u32 r2,v2_, .int .i64 r4], .int .i64 r5])∧Kd.V (Kd.int .u8) 5 w' w.heap.size (fun k_=>(P0_2_ k_∨w.heap.size≤k_)) v2_ r3∧Below w.heap.size w w' := by
 have hu43:=Try.underlying43
 have HO0_2:=zm (show Kd.V (Kd.int .u8) 5 w w.heap.size (fun k_=>(P0_2_ k_∨w.heap.size≤k_)) (.slice A0_2 l0_2.length c0_2) l0_2 from zy hs0_2 (fun k_ hk => .inl hk))
 have HB:=zm (Below.refl w.heap.size w)
 have H : ((coder_good.f a0_0 a0_1 l0_2 a0_3).bind fun bt355=>((coder_fair.f a1 a2 a3).bind fun t361=>(if t361=true then ((coder_part.f bt355.2.1 a1 a2 a3).bind fun bt362=>(coder_Take.l0 k bt362.1 (IntKind.u64.wrap (bt355.1 - (mn bt355.1 bt362.2))) bt355.2.1 bt355.2.2.1 bt355.2.2.2)) else (some (bt355.1,bt355.2.1,bt355.2.2.1,bt355.2.2.2,1)))))=some (r1,r2,r3,r4,r5):=h
 clear h
 replace H:=ybi H;obtain ⟨⟨t355,t356,t357,t360⟩,A5,H⟩:=H
 try dsimp only at H
 replace H:=ybi H;obtain ⟨t361,A6,H⟩:=H
 by_cases c7 : t361=true
 ·
  subst c7
  rw [if_pos rfl] at H
  replace H:=ybi H;obtain ⟨⟨t362,t363⟩,A8,H⟩:=H
  try dsimp only at H
  obtain ⟨ji9,hji9⟩ : ∃ j_ : Int,(mn t355 t363)=j_:=⟨_,rfl⟩
  replace H : (coder_Take.l0 k t362 (IntKind.u64.wrap (t355 - (ji9))) t356 t357 t360)=some (r1,r2,r3,r4,r5):=by first|(rw [hji9] at H;exact H)|(simp only [hji9] at H ⊢; exact H)
  (try rw [hji9] at A5)
  (try rw [hji9] at A6)
  (try rw [hji9] at A8)
  have hji9_ : (if t363 < t355 then t363 else t355)=ji9:=hji9
  have H' := zm H
  clear H
  go_enter Try.func34,Try.ntmps34
  go_wp2_with (first|((with_reducible refine gate_dst (N:=4) rfl ?_);refine ybx 4 #[.int .u64 a0_0, .int .u32 a0_1, .slice A0_2 l0_2.length c0_2, .int .i64 a0_3] 43 ?_;intro gb353 hg w10 hbox hb;replace HO0_2:=yVe HO0_2 hg hb;have BK353:=zm (hbox);have GW353:=ygw hg;have GE353:=ygw hg;replace HB:=ybs hb;clear hb hbox hg)|((with_reducible refine gate_dst (N:=8) rfl ?_);refine ybx 8 #[.int .u64 0, .int .u32 0, .slice none 0 0, .int .i64 0] 43 ?_;intro gb354 hg w11 hbox hb;replace HO0_2:=yVe HO0_2 hg hb;have BK354:=zm (hbox);have GW354:=ygw hg;have GE354:=ygw hg;replace HB:=ybs hb;have NB353_354:=ynl BK353 hg;have NB354_353:=yng BK353 hg;replace BK353:=ybb BK353 hb;clear hb hbox hg;have:=NB353_354.out;have:=NB354_353.out;obtain ⟨hcz13_0,hcz13_1,hcz13_2,hcz13_3,hfz13_0,hfz13_1,hfz13_2,hfz13_3⟩:=yc4 BK353)|((with_reducible refine gate_callee (f:=60) rfl ?_);refine ygl 13 Try.func60 #[.agg #[.int .u64 a0_0, .int .u32 a0_1, .slice A0_2 l0_2.length c0_2, .int .i64 a0_3]] ?_;(with_reducible refine (coder_good.calls a0_0 a0_1 (fun k_=>(((P0_2_ k_∨w.heap.size≤k_)∧k_≠gb353)∧k_≠gb354)) _ _ l0_2 a0_3 t355 t356 t357 t360 _ HO0_2.out A5.out).mono ?_);rintro e w14 ⟨v358,rfl,ho0,hb⟩;refine ⟨_,rfl, ?_⟩;replace HO0_2:=yVb HO0_2 hb;have HO359:=yho (fun k_=>(P0_2_ k_∨w.heap.size≤k_)∧k_≠gb353∧k_≠gb354) ho0 (fun k_ hk_=>⟨Or.elim hk_ (fun hs_=>hs_.1.1) (fun hn_=>(.inr (Nat.le_trans (zE yhb) hn_))),yoB BK353 hk_,yoB BK354 hk_⟩);replace BK353:=ybb BK353 hb;replace BK354:=ybb BK354 hb;replace HB:=ybs hb;(try clear hb);(try clear ho0);obtain ⟨hcz15_0,hcz15_1,hcz15_2,hcz15_3,hfz15_0,hfz15_1,hfz15_2,hfz15_3⟩:=yc4 BK353;obtain ⟨Ao16,co16,eo16⟩:=Kd.V_slice HO359.out;subst eo16)|((with_reducible refine gate_store (t:=43) (p:=4) rfl ?_);refine store_event (t:=43) (p:=4) (v := ?vo_w17) (w1:=((((w14.setCell ⟨gb353,0,none⟩ (.int .u64 t355)).setCell ⟨gb353,1,none⟩ (.int .u32 t356)).setCell ⟨gb353,2,none⟩ (.slice Ao16 t357.length co16)).setCell ⟨gb353,3,none⟩ (.int .i64 t360))) ?hg ?ho ?hn ?hr ?_;(case ho=>rfl);(case hg=>rfl);(case hn=>rfl);(case hr=>first|(go_simp;done)|(go_simp;rfl));intro w17 hw;replace HO0_2 : Aside0 (Kd.V (Kd.int .u8) 5 w17 w.heap.size (fun k_=>(P0_2_ k_∨w.heap.size≤k_)∧k_≠gb353∧k_≠gb354) (.slice A0_2 l0_2.length c0_2) l0_2):=⟨(by rw [hw];exact (yV0 HO0_2))⟩;replace HO359 : Aside0 (Kd.V (Kd.int .u8) 5 w17 w.heap.size (fun k_=>(P0_2_ k_∨w.heap.size≤k_)∧k_≠gb353∧k_≠gb354) (.slice Ao16 t357.length co16) t357):=⟨(by rw [hw];exact (yV0 HO359))⟩;replace BK353 : Aside0 (w17.heap[gb353]? = some (.cells #[.int .u64 t355, .int .u32 t356, .slice Ao16 t357.length co16, .int .i64 t360] 43 (0,0))):=⟨(by rw [hw];exact (ykp BK353))⟩;replace BK354 : Aside0 (w17.heap[gb354]? = some (.cells #[.int .u64 0, .int .u32 0, .slice none 0 0, .int .i64 0] 43 (0,0))):=⟨(by rw [hw];exact (yk BK354))⟩;replace HB : Aside0 (Below w.heap.size w w17):=⟨(by rw [hw];exact yhb)⟩;clear hw)|((with_reducible refine gate_callee (f:=52) rfl ?_);refine ygl 17 Try.func52 #[.int .i64 a1, .int .i64 a2, .int .i64 a3] ?_;(with_reducible refine (coder_fair.calls a1 a2 a3 true _ A6.out).mono ?_);rintro e w' ⟨rfl,⟨nd,rfl⟩⟩;refine ⟨_,rfl, ?_⟩;(try (rw [drewN_self w17];generalize hq_ : World.drewN w17 _=w17;have n0_ : Aside0 (Kd.V (Kd.int .u8) 5 w17 w.heap.size (fun k_=>(P0_2_ k_∨w.heap.size≤k_)∧k_≠gb353∧k_≠gb354) (.slice A0_2 l0_2.length c0_2) l0_2):=⟨by rw [← hq_];exact (yr HO0_2)⟩;have n1_ : Aside0 (Kd.V (Kd.int .u8) 5 w17 w.heap.size (fun k_=>(P0_2_ k_∨w.heap.size≤k_)∧k_≠gb353∧k_≠gb354) (.slice Ao16 t357.length co16) t357):=⟨by rw [← hq_];exact (yr HO359)⟩;have n2_ : Aside0 (w17.heap[gb353]? = some (.cells #[.int .u64 t355, .int .u32 t356, .slice Ao16 t357.length co16, .int .i64 t360] 43 (0,0))):=⟨by rw [← hq_];exact (yk BK353)⟩;have n3_ : Aside0 (w17.heap[gb354]? = some (.cells #[.int .u64 0, .int .u32 0, .slice none 0 0, .int .i64 0] 43 (0,0))):=⟨by rw [← hq_];exact (yk BK354)⟩;have n4_ : Aside0 (Below w.heap.size w w17):=⟨by rw [← hq_];exact yhb⟩;clear HO0_2 HO359 BK353 BK354 HB hq_;have HO0_2:=n0_;have HO359:=n1_;have BK353:=n2_;have BK354:=n3_;have HB:=n4_;clear n0_ n1_ n2_ n3_ n4_));obtain ⟨hcz18_0,hcz18_1,hcz18_2,hcz18_3,hfz18_0,hfz18_1,hfz18_2,hfz18_3⟩:=yc4 BK353)|((with_reducible refine gate_callee (f:=53) rfl ?_);refine ygl 26 Try.func53 #[.int .u32 t356, .int .i64 a1, .int .i64 a2, .int .i64 a3] ?_;(with_reducible refine (coder_part.calls t356 a1 a2 a3 t362 t363 _ A8.out).mono ?_);rintro e w' ⟨rfl,⟨nd,rfl⟩⟩;refine ⟨_,rfl, ?_⟩;(try (rw [drewN_self w17];generalize hq_ : World.drewN w17 _=w17;have n0_ : Aside0 (Kd.V (Kd.int .u8) 5 w17 w.heap.size (fun k_=>(P0_2_ k_∨w.heap.size≤k_)∧k_≠gb353∧k_≠gb354) (.slice A0_2 l0_2.length c0_2) l0_2):=⟨by rw [← hq_];exact (yr HO0_2)⟩;have n1_ : Aside0 (Kd.V (Kd.int .u8) 5 w17 w.heap.size (fun k_=>(P0_2_ k_∨w.heap.size≤k_)∧k_≠gb353∧k_≠gb354) (.slice Ao16 t357.length co16) t357):=⟨by rw [← hq_];exact (yr HO359)⟩;have n2_ : Aside0 (w17.heap[gb353]? = some (.cells #[.int .u64 t355, .int .u32 t356, .slice Ao16 t357.length co16, .int .i64 t360] 43 (0,0))):=⟨by rw [← hq_];exact (yk BK353)⟩;have n3_ : Aside0 (w17.heap[gb354]? = some (.cells #[.int .u64 0, .int .u32 0, .slice none 0 0, .int .i64 0] 43 (0,0))):=⟨by rw [← hq_];exact (yk BK354)⟩;have n4_ : Aside0 (Below w.heap.size w w17):=⟨by rw [← hq_];exact yhb⟩;clear HO0_2 HO359 BK353 BK354 HB hq_;have HO0_2:=n0_;have HO359:=n1_;have BK353:=n2_;have BK354:=n3_;have HB:=n4_;clear n0_ n1_ n2_ n3_ n4_));obtain ⟨hcz19_0,hcz19_1,hcz19_2,hcz19_3,hfz19_0,hfz19_1,hfz19_2,hfz19_3⟩:=yc4 BK353))
  go_loopg [10] k (fun kq v10 w' => ∃ (x10_1 : Int) (x354000_1 : Int) (x354003_1 : Int),v10=.int .u32 x10_1∧Aside0 (coder_Take.l0 kq x10_1 x354000_1 t356 t357 x354003_1=some (r1,r2,r3,r4,r5))∧Aside0 (kq≤k)∧Aside0 (Kd.V (Kd.int .u8) 5 w' w.heap.size (fun k_=>(P0_2_ k_∨w.heap.size≤k_)∧k_≠gb353∧k_≠gb354) (.slice Ao16 t357.length co16) t357)∧Aside0 (w'.heap[gb353]? = some (.cells #[.int .u64 x354000_1, .int .u32 t356,(.slice Ao16 t357.length co16), .int .i64 x354003_1] 43 (0,0)))∧Aside0 (w'.heap[gb354]? = some (.cells #[.int .u64 0, .int .u32 0,(.slice none 0 0), .int .i64 0] 43 (0,0)))∧Aside0 (Below w.heap.size w w'))
  case atStart=>exact ⟨(t362),(IntKind.u64.wrap (t355 - (ji9))),(t360),yq,H',⟨Nat.le_refl _⟩,⟨yV0 HO359⟩,⟨ykp BK353⟩,⟨yk BK354⟩,⟨yhb⟩⟩
  case round =>
   clear H'
   try clear hcz13_0
   try clear hcz13_1
   try clear hcz13_2
   try clear hcz13_3
   try clear hcz15_0
   try clear hcz15_1
   try clear hcz15_2
   try clear hcz15_3
   try clear hcz18_0
   try clear hcz18_1
   try clear hcz18_2
   try clear hcz18_3
   try clear hcz19_0
   try clear hcz19_1
   try clear hcz19_2
   try clear hcz19_3
   try clear hfz13_0
   try clear hfz13_1
   try clear hfz13_2
   try clear hfz13_3
   try clear hfz15_0
   try clear hfz15_1
   try clear hfz15_2
   try clear hfz15_3
   try clear hfz18_0
   try clear hfz18_1
   try clear hfz18_2
   try clear hfz18_3
   try clear hfz19_0
   try clear hfz19_1
   try clear hfz19_2
   try clear hfz19_3
   obtain ⟨x10_1,x354000_1,x354003_1,rfl,HA,HK1,HO_354002,BK353,BK354,HB⟩:=hrel
   obtain ⟨k1,rfl⟩:=ysu gk (fun h=>by subst h;exact absurd HA.out (by simp [coder_Take.l0]))
   have H:=HA.out;clear HA
   simp only [coder_Take.l0] at H
   by_cases c20 : x10_1 < 16777216
   ·
    rw [if_pos c20] at H
    have c20b0 : decide (x10_1 < 16777216)=true:=decide_eq_true c20
    clear c20
    replace H:=ybi H;obtain ⟨t364,A21,H⟩:=H
    by_cases c22 : x354003_1 < (t357.length : Int)
    ·
     rw [if_pos c22] at H
     have c22b0 : decide (x354003_1 < (t357.length : Int))=true:=decide_eq_true c22
     clear c22
     have H' := zm H
     clear H
     try go_wp2
     replace HO_354002:=zm (zC HO_354002.out)
     replace BK353:=zm (zj BK353.out)
     replace BK354:=zm (zj BK354.out)
     replace HB:=zm (zf HB.out)
     refine yst (fun w' => w'.cell? ⟨gb353,0,none⟩=some (.int .u64 x354000_1)∧w'.cell? ⟨gb353,1,none⟩=some (.int .u32 t356)∧w'.cell? ⟨gb353,2,none⟩=some (.slice Ao16 t357.length co16)∧w'.cell? ⟨gb353,3,none⟩=some (.int .i64 x354003_1)) [11] 12 coder_Take.tab7 coder_Take.bits7 (fun hHeld HT_ HW_ => ?_)
     generalize wr.drew=w23 at HO_354002 BK353 BK354 HB hHeld ⊢
     refine yp 0 39 HT_ ?_
     refine yp 4 43 HT_ ?_
     refine yp 6 45 HT_ ?_
     refine yl 1 40 HT_ HW_ hHeld ?_
     refine yp 2 41 HT_ ?_
     refine yp 3 42 HT_ ?_
     refine yl 5 44 HT_ HW_ hHeld ?_
     refine yl 7 46 HT_ HW_ hHeld ?_
     refine yw 8 47 HT_ (fun K hK => ?_)
     refine ygs Try.func58 #[.slice Ao16 t357.length co16, .int .i64 x354003_1] ?_
     with_reducible refine (coder_at.calls _ _ t357 x354003_1 t364 _ ?side1 ?side2 A21.out).mono ?_
     (case side1=>exact yce (Kd.V_reads' HO_354002.out).2.2)
     (case side2=>exact (Kd.V_reads' HO_354002.out).2.1)
     rintro e w' ⟨rfl,⟨nd,rfl⟩⟩
     refine ⟨_,rfl, ?_⟩
     refine hK.out _ _ yH (fun hHeld => ?_)
     clear hK K
     refine ym (some 47) ?_
     refine yp 9 48 HT_ ?_
     refine yp 10 49 HT_ ?_
     refine last_ (i:=11) (N:=none) #[true,true,true,true,true,true,true,true,true,true,true,true] rfl rfl (one_of HT_.out (by kernel_rfl)) (by decide) (fun K hK => ?_)
     have hs24 : w23.cell? ⟨gb353,0,none⟩=some (.int .u64 x354000_1):=(zs BK353.out 0).trans rfl
     have hfs24:=zx BK353.out 0
     have:=NB354_353.out
     have:=NB353_354.out
     refine skip_ (w1 := ?_) (by rfl) rfl ?_ ?_
     rotate_left
     ·
      go_simp
      rfl
     refine hK.out _ _ ?_
     clear hK K
     refine done_ (done_of HT_.out (by kernel_rfl)) ?_
     have:=NB353_354.out
     have:=NB354_353.out
     obtain ⟨_,_,_,_,_,_,_,_⟩:=yc4 BK353
     try go_wp2
     go_roundg k1
     case measure=>exact yom1 HK1
     case rel=>exact ⟨((x10_1 * 256) % 4294967296),(Go.bits .or .u64 (Go.bits .and .u64 (IntKind.u64.wrap (x354000_1 * 256)) 4294967295) t364),(wrap64 (x354003_1+1)),yq,H',⟨yom1 HK1⟩,⟨yV0 HO_354002⟩,⟨ykp BK353⟩,⟨yk BK354⟩,⟨yhb⟩⟩
    ·
     rw [if_neg c22] at H
     have c22b0 : decide (x354003_1 < (t357.length : Int))=false:=decide_eq_false c22
     clear c22
     have H' := zm H
     clear H
     try go_wp2
     replace HO_354002:=zm (zC HO_354002.out)
     replace BK353:=zm (zj BK353.out)
     replace BK354:=zm (zj BK354.out)
     replace HB:=zm (zf HB.out)
     refine yst (fun w' => w'.cell? ⟨gb353,0,none⟩=some (.int .u64 x354000_1)∧w'.cell? ⟨gb353,1,none⟩=some (.int .u32 t356)∧w'.cell? ⟨gb353,2,none⟩=some (.slice Ao16 t357.length co16)∧w'.cell? ⟨gb353,3,none⟩=some (.int .i64 x354003_1)) [11] 12 coder_Take.tab7 coder_Take.bits7 (fun hHeld HT_ HW_ => ?_)
     generalize wr.drew=w27 at HO_354002 BK353 BK354 HB hHeld ⊢
     refine yp 0 39 HT_ ?_
     refine yp 4 43 HT_ ?_
     refine yp 6 45 HT_ ?_
     refine yl 1 40 HT_ HW_ hHeld ?_
     refine yp 2 41 HT_ ?_
     refine yp 3 42 HT_ ?_
     refine yl 5 44 HT_ HW_ hHeld ?_
     refine yl 7 46 HT_ HW_ hHeld ?_
     refine yw 8 47 HT_ (fun K hK => ?_)
     refine ygs Try.func58 #[.slice Ao16 t357.length co16, .int .i64 x354003_1] ?_
     with_reducible refine (coder_at.calls _ _ t357 x354003_1 t364 _ ?side1 ?side2 A21.out).mono ?_
     (case side1=>exact yce (Kd.V_reads' HO_354002.out).2.2)
     (case side2=>exact (Kd.V_reads' HO_354002.out).2.1)
     rintro e w' ⟨rfl,⟨nd,rfl⟩⟩
     refine ⟨_,rfl, ?_⟩
     refine hK.out _ _ yH (fun hHeld => ?_)
     clear hK K
     refine ym (some 47) ?_
     refine yp 9 48 HT_ ?_
     refine yp 10 49 HT_ ?_
     refine last_ (i:=11) (N:=none) #[true,true,true,true,true,true,true,true,true,true,true,true] rfl rfl (one_of HT_.out (by kernel_rfl)) (by decide) (fun K hK => ?_)
     have hs28 : w27.cell? ⟨gb353,0,none⟩=some (.int .u64 x354000_1):=(zs BK353.out 0).trans rfl
     have hfs28:=zx BK353.out 0
     have:=NB354_353.out
     have:=NB353_354.out
     refine skip_ (w1 := ?_) (by rfl) rfl ?_ ?_
     rotate_left
     ·
      go_simp
      rfl
     refine hK.out _ _ ?_
     clear hK K
     refine done_ (done_of HT_.out (by kernel_rfl)) ?_
     have:=NB353_354.out
     have:=NB354_353.out
     obtain ⟨_,_,_,_,_,_,_,_⟩:=yc4 BK353
     try go_wp2
     go_roundg k1
     case measure=>exact yom1 HK1
     case rel=>exact ⟨((x10_1 * 256) % 4294967296),(Go.bits .or .u64 (Go.bits .and .u64 (IntKind.u64.wrap (x354000_1 * 256)) 4294967295) t364),(x354003_1),yq,H',⟨yom1 HK1⟩,⟨yV0 HO_354002⟩,⟨ykp BK353⟩,⟨yk BK354⟩,⟨yhb⟩⟩
   ·
    rw [if_neg c20] at H
    have c20b0 : decide (x10_1 < 16777216)=false:=decide_eq_false c20
    clear c20
    simp only [Option.some.injEq,Prod.mk.injEq] at H
    obtain ⟨rfl,rfl,rfl,rfl,rfl⟩:=H
    have:=NB353_354.out
    have:=NB354_353.out
    obtain ⟨_,_,_,_,_,_,_,_⟩:=yc4 BK353
    obtain ⟨_,_,_,_,_,_,_,_⟩:=yc4 BK354
    go_wp2
    refine bodyPost_ret (results_ct rfl _ _ gb354 43 #[.int .u64 x354000_1, .int .u32 x10_1, .slice Ao16 t357.length co16, .int .i64 x354003_1] (0,0) _ rfl (ykp BK354) Try.underlying43 rfl (by kernel_rfl)) rfl ?_
    exact ⟨_,by first|rfl|(simp [errW_none,errW_some] <;> rfl)|(simp only [← hji9];first|rfl|(simp [errW_none,errW_some] <;> rfl))|(simp [*,errW_none,errW_some] <;> rfl),yV0 HO_354002,yhb⟩
 ·
  replace c7:=Bool.eq_false_iff.mpr c7
  subst c7
  rw [ynf] at H
  simp only [Option.some.injEq,Prod.mk.injEq] at H
  obtain ⟨rfl,rfl,rfl,rfl,rfl⟩:=H
  go_enter Try.func34,Try.ntmps34
  go_wp2_with (first|((with_reducible refine gate_dst (N:=4) rfl ?_);refine ybx 4 #[.int .u64 a0_0, .int .u32 a0_1, .slice A0_2 l0_2.length c0_2, .int .i64 a0_3] 43 ?_;intro gb353 hg w34 hbox hb;replace HO0_2:=yVe HO0_2 hg hb;have BK353:=zm (hbox);have GW353:=ygw hg;have GE353:=ygw hg;replace HB:=ybs hb;clear hb hbox hg)|((with_reducible refine gate_dst (N:=8) rfl ?_);refine ybx 8 #[.int .u64 0, .int .u32 0, .slice none 0 0, .int .i64 0] 43 ?_;intro gb354 hg w35 hbox hb;replace HO0_2:=yVe HO0_2 hg hb;have BK354:=zm (hbox);have GW354:=ygw hg;have GE354:=ygw hg;replace HB:=ybs hb;have NB353_354:=ynl BK353 hg;have NB354_353:=yng BK353 hg;replace BK353:=ybb BK353 hb;clear hb hbox hg;have:=NB353_354.out;have:=NB354_353.out;obtain ⟨_,_,_,_,_,_,_,_⟩:=yc4 BK353)|((with_reducible refine gate_callee (f:=60) rfl ?_);refine ygl 13 Try.func60 #[.agg #[.int .u64 a0_0, .int .u32 a0_1, .slice A0_2 l0_2.length c0_2, .int .i64 a0_3]] ?_;(with_reducible refine (coder_good.calls a0_0 a0_1 (fun k_=>(((P0_2_ k_∨w.heap.size≤k_)∧k_≠gb353)∧k_≠gb354)) _ _ l0_2 a0_3 t355 t356 t357 t360 _ HO0_2.out A5.out).mono ?_);rintro e w38 ⟨v358,rfl,ho0,hb⟩;refine ⟨_,rfl, ?_⟩;replace HO0_2:=yVb HO0_2 hb;have HO359:=yho (fun k_=>(P0_2_ k_∨w.heap.size≤k_)∧k_≠gb353∧k_≠gb354) ho0 (fun k_ hk_=>⟨Or.elim hk_ (fun hs_=>hs_.1.1) (fun hn_=>(.inr (Nat.le_trans (zE yhb) hn_))),yoB BK353 hk_,yoB BK354 hk_⟩);replace BK353:=ybb BK353 hb;replace BK354:=ybb BK354 hb;replace HB:=ybs hb;(try clear hb);(try clear ho0);obtain ⟨_,_,_,_,_,_,_,_⟩:=yc4 BK353;obtain ⟨Ao40,co40,eo40⟩:=Kd.V_slice HO359.out;subst eo40)|((with_reducible refine gate_store (t:=43) (p:=4) rfl ?_);refine store_event (t:=43) (p:=4) (v := ?vo_w41) (w1:=((((w38.setCell ⟨gb353,0,none⟩ (.int .u64 t355)).setCell ⟨gb353,1,none⟩ (.int .u32 t356)).setCell ⟨gb353,2,none⟩ (.slice Ao40 t357.length co40)).setCell ⟨gb353,3,none⟩ (.int .i64 t360))) ?hg ?ho ?hn ?hr ?_;(case ho=>rfl);(case hg=>rfl);(case hn=>rfl);(case hr=>first|(go_simp;done)|(go_simp;rfl));intro w41 hw;replace HO0_2 : Aside0 (Kd.V (Kd.int .u8) 5 w41 w.heap.size (fun k_=>(P0_2_ k_∨w.heap.size≤k_)∧k_≠gb353∧k_≠gb354) (.slice A0_2 l0_2.length c0_2) l0_2):=⟨(by rw [hw];exact (yV0 HO0_2))⟩;replace HO359 : Aside0 (Kd.V (Kd.int .u8) 5 w41 w.heap.size (fun k_=>(P0_2_ k_∨w.heap.size≤k_)∧k_≠gb353∧k_≠gb354) (.slice Ao40 t357.length co40) t357):=⟨(by rw [hw];exact (yV0 HO359))⟩;replace BK353 : Aside0 (w41.heap[gb353]? = some (.cells #[.int .u64 t355, .int .u32 t356, .slice Ao40 t357.length co40, .int .i64 t360] 43 (0,0))):=⟨(by rw [hw];exact (ykp BK353))⟩;replace BK354 : Aside0 (w41.heap[gb354]? = some (.cells #[.int .u64 0, .int .u32 0, .slice none 0 0, .int .i64 0] 43 (0,0))):=⟨(by rw [hw];exact (yk BK354))⟩;replace HB : Aside0 (Below w.heap.size w w41):=⟨(by rw [hw];exact yhb)⟩;clear hw)|((with_reducible refine gate_callee (f:=52) rfl ?_);refine ygl 17 Try.func52 #[.int .i64 a1, .int .i64 a2, .int .i64 a3] ?_;(with_reducible refine (coder_fair.calls a1 a2 a3 false _ A6.out).mono ?_);rintro e w' ⟨rfl,⟨nd,rfl⟩⟩;refine ⟨_,rfl, ?_⟩;(try (rw [drewN_self w41];generalize hq_ : World.drewN w41 _=w41;have n0_ : Aside0 (Kd.V (Kd.int .u8) 5 w41 w.heap.size (fun k_=>(P0_2_ k_∨w.heap.size≤k_)∧k_≠gb353∧k_≠gb354) (.slice A0_2 l0_2.length c0_2) l0_2):=⟨by rw [← hq_];exact (yr HO0_2)⟩;have n1_ : Aside0 (Kd.V (Kd.int .u8) 5 w41 w.heap.size (fun k_=>(P0_2_ k_∨w.heap.size≤k_)∧k_≠gb353∧k_≠gb354) (.slice Ao40 t357.length co40) t357):=⟨by rw [← hq_];exact (yr HO359)⟩;have n2_ : Aside0 (w41.heap[gb353]? = some (.cells #[.int .u64 t355, .int .u32 t356, .slice Ao40 t357.length co40, .int .i64 t360] 43 (0,0))):=⟨by rw [← hq_];exact (yk BK353)⟩;have n3_ : Aside0 (w41.heap[gb354]? = some (.cells #[.int .u64 0, .int .u32 0, .slice none 0 0, .int .i64 0] 43 (0,0))):=⟨by rw [← hq_];exact (yk BK354)⟩;have n4_ : Aside0 (Below w.heap.size w w41):=⟨by rw [← hq_];exact yhb⟩;clear HO0_2 HO359 BK353 BK354 HB hq_;have HO0_2:=n0_;have HO359:=n1_;have BK353:=n2_;have BK354:=n3_;have HB:=n4_;clear n0_ n1_ n2_ n3_ n4_));obtain ⟨_,_,_,_,_,_,_,_⟩:=yc4 BK353;obtain ⟨_,_,_,_,_,_,_,_⟩:=yc4 BK354))
  refine bodyPost_ret (results_ct rfl _ _ gb354 43 #[.int .u64 t355, .int .u32 t356, .slice Ao40 t357.length co40, .int .i64 t360] (0,0) _ rfl (ykp BK354) Try.underlying43 rfl (by kernel_rfl)) rfl ?_
  exact ⟨_,ye,yV0 HO359,yhb⟩
def num_Clamp.f (a0 : Int) (a1 : Int) (a2 : Int) : Option (Int):=if a0 < a1 then (some a1) else (if a0 > a2 then (some a2) else (some a0))
set_option maxHeartbeats 8000000 in
set_option maxRecDepth 100000 in
theorem num_Clamp.calls (a0 : Int) (a1 : Int) (a2 : Int) (r : Int) (w : World) (h : num_Clamp.f a0 a1 a2=some r) :
  Calls Try.prog 61 #[.int .i64 a0, .int .i64 a1, .int .i64 a2] w fun e w' => e=.returned (.int .i64 r)∧Drawn0 w w' := by
 have H : (if a0 < a1 then (some a1) else (if a0 > a2 then (some a2) else (some a0)))=some r:=h
 clear h
 by_cases c4 : a0 < a1
 ·
  rw [if_pos c4] at H
  have c4b0 : decide (a0 < a1)=true:=decide_eq_true c4
  clear c4
  obtain rfl:=Option.some.inj H
  go_enter Try.func61,Try.ntmps61
  go_wp2
  go_ret
  exact ⟨yq,yd⟩
 ·
  rw [if_neg c4] at H
  have c4b0 : decide (a0 < a1)=false:=decide_eq_false c4
  clear c4
  by_cases c5 : a0 > a2
  ·
   rw [if_pos c5] at H
   have c5b0 : decide (a2 < a0)=true:=decide_eq_true c5
   clear c5
   obtain rfl:=Option.some.inj H
   go_enter Try.func61,Try.ntmps61
   go_wp2
   go_ret
   exact ⟨yq,yd⟩
  ·
   rw [if_neg c5] at H
   have c5b0 : decide (a2 < a0)=false:=decide_eq_false c5
   clear c5
   obtain rfl:=Option.some.inj H
   go_enter Try.func61,Try.ntmps61
   go_wp2
   go_ret
   exact ⟨yq,yd⟩
def coder_Get.f (a0_0 : Int) (a0_1 : Int) (l0_2 : List Int) (a0_3 : Int) (a1 : Int) : Option (Int × Int):=(coder_good.f a0_0 a0_1 l0_2 a0_3).bind fun bt163=>(if a1 < 1 then (some (0,1)) else (if a1 > 65536 then (some (0,1)) else (if ((a1) % 4294967296)=0 then (none) else (if ((Int.tdiv bt163.2.1 ((a1) % 4294967296)) % 4294967296)=0 then (none) else ((num_Clamp.f (wrap64 (IntKind.u64.wrap (Int.tdiv bt163.1 ((Int.tdiv bt163.2.1 ((a1) % 4294967296)) % 4294967296)))) 0 (wrap64 (a1 - 1))).bind fun t169=>(some (t169,0)))))))
set_option maxHeartbeats 8000000 in
set_option maxRecDepth 100000 in
theorem coder_Get.calls (a0_0 : Int) (a0_1 : Int) (A0_2 : Option Addr) (c0_2 : Nat) (l0_2 : List Int) (a0_3 : Int) (a1 : Int) (r1 : Int) (r2 : Int) (w : World) (hr0_2 : Kd.C (Kd.int .u8) w A0_2 l0_2.length l0_2) (hc0_2 : l0_2.length≤c0_2) (h : coder_Get.f a0_0 a0_1 l0_2 a0_3 a1=some (r1,r2)) :
  Calls Try.prog 32 #[.agg #[.int .u64 a0_0, .int .u32 a0_1, .slice A0_2 l0_2.length c0_2, .int .i64 a0_3], .int .i64 a1] w fun e w' => e=.returned (.tuple #[.int .i64 r1, .int .i64 r2])∧Below w.heap.size w w' := by
 have hu43:=Try.underlying43;have HR0_2:=zm hr0_2;have HC0_2:=zm hc0_2;clear hr0_2 hc0_2;have HB:=zm (Below.refl w.heap.size w)
 have H : ((coder_good.f a0_0 a0_1 l0_2 a0_3).bind fun bt163=>(if a1 < 1 then (some (0,1)) else (if a1 > 65536 then (some (0,1)) else (if ((a1) % 4294967296)=0 then (none) else (if ((Int.tdiv bt163.2.1 ((a1) % 4294967296)) % 4294967296)=0 then (none) else ((num_Clamp.f (wrap64 (IntKind.u64.wrap (Int.tdiv bt163.1 ((Int.tdiv bt163.2.1 ((a1) % 4294967296)) % 4294967296)))) 0 (wrap64 (a1 - 1))).bind fun t169=>(some (t169,0))))))))=some (r1,r2):=h
 clear h
 replace H:=ybi H;obtain ⟨⟨t163,t164,t165,t168⟩,A3,H⟩:=H
 try dsimp only at H
 by_cases c4 : a1 < 1
 ·
  rw [if_pos c4] at H
  have c4b0 : decide (a1 < 1)=true:=decide_eq_true c4
  clear c4
  simp only [Option.some.injEq,Prod.mk.injEq] at H
  obtain ⟨rfl,rfl⟩:=H
  go_enter Try.func32,Try.ntmps32
  go_wp2_with (first|((with_reducible refine gate_dst (N:=2) rfl ?_);refine ybx 2 #[.int .u64 a0_0, .int .u32 a0_1, .slice A0_2 l0_2.length c0_2, .int .i64 a0_3] 43 ?_;intro gb162 hg w5 hbox hb;have BK162:=zm (hbox);have GW162:=ygw hg;have GE162:=ygw hg;replace HB:=ybs hb;clear hb hbox hg;obtain ⟨_,_,_,_,_,_,_,_⟩:=yc4 BK162)|(go_at_call 60;(with_reducible refine (coder_good.calls a0_0 a0_1 (fun k_=>k_ < w.heap.size) _ _ l0_2 a0_3 t163 t164 t165 t168 _ ?side1 A3.out).mono ?_);(case side1=>exact Kd.V_mk HC0_2.out (Kd.F_below (Kd.C_F (Kd.heap_int .u8) HR0_2.out) yhb));rintro e w7 ⟨v166,rfl,ho0,hb⟩;have HO167:=yho (fun k_=>k_≠gb162) ho0 (fun k_ hk_=>yoB BK162 hk_);replace BK162:=ybb BK162 hb;replace HB:=ybs hb;(try clear hb);(try clear ho0);obtain ⟨_,_,_,_,_,_,_,_⟩:=yc4 BK162;obtain ⟨Ao9,co9,eo9⟩:=Kd.V_slice HO167.out;subst eo9))
  repeat (go_quiet (first|((with_reducible refine gate_dst (N:=2) rfl ?_);refine ybx 2 #[.int .u64 a0_0, .int .u32 a0_1, .slice A0_2 l0_2.length c0_2, .int .i64 a0_3] 43 ?_;intro gb162 hg w5 hbox hb;have BK162:=zm (hbox);have GW162:=ygw hg;have GE162:=ygw hg;replace HB:=ybs hb;clear hb hbox hg;obtain ⟨_,_,_,_,_,_,_,_⟩:=yc4 BK162)|(go_at_call 60;(with_reducible refine (coder_good.calls a0_0 a0_1 (fun k_=>k_ < w.heap.size) _ _ l0_2 a0_3 t163 t164 t165 t168 _ ?side1 A3.out).mono ?_);(case side1=>exact Kd.V_mk HC0_2.out (Kd.F_below (Kd.C_F (Kd.heap_int .u8) HR0_2.out) yhb));rintro e w7 ⟨v166,rfl,ho0,hb⟩;have HO167:=yho (fun k_=>k_≠gb162) ho0 (fun k_ hk_=>yoB BK162 hk_);replace BK162:=ybb BK162 hb;replace HB:=ybs hb;(try clear hb);(try clear ho0);obtain ⟨_,_,_,_,_,_,_,_⟩:=yc4 BK162;obtain ⟨Ao9,co9,eo9⟩:=Kd.V_slice HO167.out;subst eo9));try go_wp2_with (first|((with_reducible refine gate_dst (N:=2) rfl ?_);refine ybx 2 #[.int .u64 a0_0, .int .u32 a0_1, .slice A0_2 l0_2.length c0_2, .int .i64 a0_3] 43 ?_;intro gb162 hg w5 hbox hb;have BK162:=zm (hbox);have GW162:=ygw hg;have GE162:=ygw hg;replace HB:=ybs hb;clear hb hbox hg;obtain ⟨_,_,_,_,_,_,_,_⟩:=yc4 BK162)|(go_at_call 60;(with_reducible refine (coder_good.calls a0_0 a0_1 (fun k_=>k_ < w.heap.size) _ _ l0_2 a0_3 t163 t164 t165 t168 _ ?side1 A3.out).mono ?_);(case side1=>exact Kd.V_mk HC0_2.out (Kd.F_below (Kd.C_F (Kd.heap_int .u8) HR0_2.out) yhb));rintro e w7 ⟨v166,rfl,ho0,hb⟩;have HO167:=yho (fun k_=>k_≠gb162) ho0 (fun k_ hk_=>yoB BK162 hk_);replace BK162:=ybb BK162 hb;replace HB:=ybs hb;(try clear hb);(try clear ho0);obtain ⟨_,_,_,_,_,_,_,_⟩:=yc4 BK162;obtain ⟨Ao9,co9,eo9⟩:=Kd.V_slice HO167.out;subst eo9)))
  go_ret2
  exact ⟨ye,yhb⟩
 ·
  rw [if_neg c4] at H
  have c4b0 : decide (a1 < 1)=false:=decide_eq_false c4
  clear c4
  by_cases c10 : a1 > 65536
  ·
   rw [if_pos c10] at H
   have c10b0 : decide (65536 < a1)=true:=decide_eq_true c10
   clear c10
   simp only [Option.some.injEq,Prod.mk.injEq] at H
   obtain ⟨rfl,rfl⟩:=H
   go_enter Try.func32,Try.ntmps32
   go_wp2_with (first|((with_reducible refine gate_dst (N:=2) rfl ?_);refine ybx 2 #[.int .u64 a0_0, .int .u32 a0_1, .slice A0_2 l0_2.length c0_2, .int .i64 a0_3] 43 ?_;intro gb162 hg w11 hbox hb;have BK162:=zm (hbox);have GW162:=ygw hg;have GE162:=ygw hg;replace HB:=ybs hb;clear hb hbox hg;obtain ⟨_,_,_,_,_,_,_,_⟩:=yc4 BK162)|(go_at_call 60;(with_reducible refine (coder_good.calls a0_0 a0_1 (fun k_=>k_ < w.heap.size) _ _ l0_2 a0_3 t163 t164 t165 t168 _ ?side1 A3.out).mono ?_);(case side1=>exact Kd.V_mk HC0_2.out (Kd.F_below (Kd.C_F (Kd.heap_int .u8) HR0_2.out) yhb));rintro e w13 ⟨v166,rfl,ho0,hb⟩;have HO167:=yho (fun k_=>k_≠gb162) ho0 (fun k_ hk_=>yoB BK162 hk_);replace BK162:=ybb BK162 hb;replace HB:=ybs hb;(try clear hb);(try clear ho0);obtain ⟨_,_,_,_,_,_,_,_⟩:=yc4 BK162;obtain ⟨Ao15,co15,eo15⟩:=Kd.V_slice HO167.out;subst eo15))
   repeat (go_quiet (first|((with_reducible refine gate_dst (N:=2) rfl ?_);refine ybx 2 #[.int .u64 a0_0, .int .u32 a0_1, .slice A0_2 l0_2.length c0_2, .int .i64 a0_3] 43 ?_;intro gb162 hg w11 hbox hb;have BK162:=zm (hbox);have GW162:=ygw hg;have GE162:=ygw hg;replace HB:=ybs hb;clear hb hbox hg;obtain ⟨_,_,_,_,_,_,_,_⟩:=yc4 BK162)|(go_at_call 60;(with_reducible refine (coder_good.calls a0_0 a0_1 (fun k_=>k_ < w.heap.size) _ _ l0_2 a0_3 t163 t164 t165 t168 _ ?side1 A3.out).mono ?_);(case side1=>exact Kd.V_mk HC0_2.out (Kd.F_below (Kd.C_F (Kd.heap_int .u8) HR0_2.out) yhb));rintro e w13 ⟨v166,rfl,ho0,hb⟩;have HO167:=yho (fun k_=>k_≠gb162) ho0 (fun k_ hk_=>yoB BK162 hk_);replace BK162:=ybb BK162 hb;replace HB:=ybs hb;(try clear hb);(try clear ho0);obtain ⟨_,_,_,_,_,_,_,_⟩:=yc4 BK162;obtain ⟨Ao15,co15,eo15⟩:=Kd.V_slice HO167.out;subst eo15));try go_wp2_with (first|((with_reducible refine gate_dst (N:=2) rfl ?_);refine ybx 2 #[.int .u64 a0_0, .int .u32 a0_1, .slice A0_2 l0_2.length c0_2, .int .i64 a0_3] 43 ?_;intro gb162 hg w11 hbox hb;have BK162:=zm (hbox);have GW162:=ygw hg;have GE162:=ygw hg;replace HB:=ybs hb;clear hb hbox hg;obtain ⟨_,_,_,_,_,_,_,_⟩:=yc4 BK162)|(go_at_call 60;(with_reducible refine (coder_good.calls a0_0 a0_1 (fun k_=>k_ < w.heap.size) _ _ l0_2 a0_3 t163 t164 t165 t168 _ ?side1 A3.out).mono ?_);(case side1=>exact Kd.V_mk HC0_2.out (Kd.F_below (Kd.C_F (Kd.heap_int .u8) HR0_2.out) yhb));rintro e w13 ⟨v166,rfl,ho0,hb⟩;have HO167:=yho (fun k_=>k_≠gb162) ho0 (fun k_ hk_=>yoB BK162 hk_);replace BK162:=ybb BK162 hb;replace HB:=ybs hb;(try clear hb);(try clear ho0);obtain ⟨_,_,_,_,_,_,_,_⟩:=yc4 BK162;obtain ⟨Ao15,co15,eo15⟩:=Kd.V_slice HO167.out;subst eo15)))
   go_ret2
   exact ⟨ye,yhb⟩
  ·
   rw [if_neg c10] at H
   have c10b0 : decide (65536 < a1)=false:=decide_eq_false c10
   clear c10
   replace H:=yie H;obtain ⟨c16,H⟩:=H
   have c16b0 : (((a1) % 4294967296) == 0)=false:=beq_eq_false_iff_ne.mpr c16
   have c16b1 : (((a1) % 4294967296) != 0)=true:=bne_iff_ne.mpr c16
   replace H:=yie H;obtain ⟨c17,H⟩:=H
   have c17b0 : (((Int.tdiv t164 ((a1) % 4294967296)) % 4294967296) == 0)=false:=beq_eq_false_iff_ne.mpr c17
   have c17b1 : (((Int.tdiv t164 ((a1) % 4294967296)) % 4294967296) != 0)=true:=bne_iff_ne.mpr c17
   replace H:=ybi H;obtain ⟨t169,A18,H⟩:=H
   simp only [Option.some.injEq,Prod.mk.injEq] at H
   obtain ⟨rfl,rfl⟩:=H
   go_enter Try.func32,Try.ntmps32
   go_wp2_with (first|((with_reducible refine gate_dst (N:=2) rfl ?_);refine ybx 2 #[.int .u64 a0_0, .int .u32 a0_1, .slice A0_2 l0_2.length c0_2, .int .i64 a0_3] 43 ?_;intro gb162 hg w19 hbox hb;have BK162:=zm (hbox);have GW162:=ygw hg;have GE162:=ygw hg;replace HB:=ybs hb;clear hb hbox hg;obtain ⟨_,_,_,_,_,_,_,_⟩:=yc4 BK162)|(go_at_call 60;(with_reducible refine (coder_good.calls a0_0 a0_1 (fun k_=>k_ < w.heap.size) _ _ l0_2 a0_3 t163 t164 t165 t168 _ ?side1 A3.out).mono ?_);(case side1=>exact Kd.V_mk HC0_2.out (Kd.F_below (Kd.C_F (Kd.heap_int .u8) HR0_2.out) yhb));rintro e w21 ⟨v166,rfl,ho0,hb⟩;have HO167:=yho (fun k_=>k_≠gb162) ho0 (fun k_ hk_=>yoB BK162 hk_);replace BK162:=ybb BK162 hb;replace HB:=ybs hb;(try clear hb);(try clear ho0);obtain ⟨_,_,_,_,_,_,_,_⟩:=yc4 BK162;obtain ⟨Ao23,co23,eo23⟩:=Kd.V_slice HO167.out;subst eo23)|(go_at_call 61;(with_reducible refine (num_Clamp.calls (wrap64 (IntKind.u64.wrap (Int.tdiv t163 ((Int.tdiv t164 ((a1) % 4294967296)) % 4294967296)))) 0 (wrap64 (a1 - 1)) t169 _ A18.out).mono ?_);rintro e w' ⟨rfl,⟨nd,rfl⟩⟩;(try exact yww)))
   repeat (go_quiet (first|((with_reducible refine gate_dst (N:=2) rfl ?_);refine ybx 2 #[.int .u64 a0_0, .int .u32 a0_1, .slice A0_2 l0_2.length c0_2, .int .i64 a0_3] 43 ?_;intro gb162 hg w19 hbox hb;have BK162:=zm (hbox);have GW162:=ygw hg;have GE162:=ygw hg;replace HB:=ybs hb;clear hb hbox hg;obtain ⟨_,_,_,_,_,_,_,_⟩:=yc4 BK162)|(go_at_call 60;(with_reducible refine (coder_good.calls a0_0 a0_1 (fun k_=>k_ < w.heap.size) _ _ l0_2 a0_3 t163 t164 t165 t168 _ ?side1 A3.out).mono ?_);(case side1=>exact Kd.V_mk HC0_2.out (Kd.F_below (Kd.C_F (Kd.heap_int .u8) HR0_2.out) yhb));rintro e w21 ⟨v166,rfl,ho0,hb⟩;have HO167:=yho (fun k_=>k_≠gb162) ho0 (fun k_ hk_=>yoB BK162 hk_);replace BK162:=ybb BK162 hb;replace HB:=ybs hb;(try clear hb);(try clear ho0);obtain ⟨_,_,_,_,_,_,_,_⟩:=yc4 BK162;obtain ⟨Ao23,co23,eo23⟩:=Kd.V_slice HO167.out;subst eo23)|(go_at_call 61;(with_reducible refine (num_Clamp.calls (wrap64 (IntKind.u64.wrap (Int.tdiv t163 ((Int.tdiv t164 ((a1) % 4294967296)) % 4294967296)))) 0 (wrap64 (a1 - 1)) t169 _ A18.out).mono ?_);rintro e w' ⟨rfl,⟨nd,rfl⟩⟩;(try exact yww)));try go_wp2_with (first|((with_reducible refine gate_dst (N:=2) rfl ?_);refine ybx 2 #[.int .u64 a0_0, .int .u32 a0_1, .slice A0_2 l0_2.length c0_2, .int .i64 a0_3] 43 ?_;intro gb162 hg w19 hbox hb;have BK162:=zm (hbox);have GW162:=ygw hg;have GE162:=ygw hg;replace HB:=ybs hb;clear hb hbox hg;obtain ⟨_,_,_,_,_,_,_,_⟩:=yc4 BK162)|(go_at_call 60;(with_reducible refine (coder_good.calls a0_0 a0_1 (fun k_=>k_ < w.heap.size) _ _ l0_2 a0_3 t163 t164 t165 t168 _ ?side1 A3.out).mono ?_);(case side1=>exact Kd.V_mk HC0_2.out (Kd.F_below (Kd.C_F (Kd.heap_int .u8) HR0_2.out) yhb));rintro e w21 ⟨v166,rfl,ho0,hb⟩;have HO167:=yho (fun k_=>k_≠gb162) ho0 (fun k_ hk_=>yoB BK162 hk_);replace BK162:=ybb BK162 hb;replace HB:=ybs hb;(try clear hb);(try clear ho0);obtain ⟨_,_,_,_,_,_,_,_⟩:=yc4 BK162;obtain ⟨Ao23,co23,eo23⟩:=Kd.V_slice HO167.out;subst eo23)|(go_at_call 61;(with_reducible refine (num_Clamp.calls (wrap64 (IntKind.u64.wrap (Int.tdiv t163 ((Int.tdiv t164 ((a1) % 4294967296)) % 4294967296)))) 0 (wrap64 (a1 - 1)) t169 _ A18.out).mono ?_);rintro e w' ⟨rfl,⟨nd,rfl⟩⟩;(try exact yww))))
   go_ret2
   exact ⟨ye,yhb⟩
def coder_TakeNum.j0 : Nat→Int→Bool→Int→Int→List Int→Int→Option (Int × Int × List Int × Int × Int × Int)
 | 0,_,_,_,_,_,_=>none
 | k+1,x1,x21,x514000,x514001,x514002,x514003=>if x21=true then (some (x514000,x514001,x514002,x514003,0,1)) else ((coder_halves.f x1).bind fun bt521=>((coder_Get.f x514000 x514001 x514002 x514003 bt521.1).bind fun bt523=>((coder_Take.f k x514000 x514001 x514002 x514003 bt523.1 (wrap64 (bt523.1+1)) bt521.1).bind fun bt525=>(if bt521.2 > 1 then ((coder_Get.f bt525.1 bt525.2.1 bt525.2.2.1 bt525.2.2.2.1 bt521.2).bind fun bt532=>((coder_Take.f k bt525.1 bt525.2.1 bt525.2.2.1 bt525.2.2.2.1 bt532.1 (wrap64 (bt532.1+1)) bt521.2).bind fun bt534=>(some (bt534.1,bt534.2.1,bt534.2.2.1,bt534.2.2.2.1,mn (IntKind.u64.wrap ((IntKind.u64.wrap ((IntKind.u64.wrap (bt523.1)) * (IntKind.u64.wrap (bt521.2))))+(IntKind.u64.wrap (bt532.1)))) (IntKind.u64.wrap (x1 - 1)),0)))) else (some (bt525.1,bt525.2.1,bt525.2.2.1,bt525.2.2.2.1,mn (IntKind.u64.wrap (bt523.1)) (IntKind.u64.wrap (x1 - 1)),0))))))
def coder_TakeNum.f (k : Nat) (a0_0 : Int) (a0_1 : Int) (l0_2 : List Int) (a0_3 : Int) (a1 : Int) : Option (Int × Int × List Int × Int × Int × Int):=(coder_good.f a0_0 a0_1 l0_2 a0_3).bind fun bt515=>(if a1 < 1 then (coder_TakeNum.j0 k a1 true bt515.1 bt515.2.1 bt515.2.2.1 bt515.2.2.2) else (coder_TakeNum.j0 k a1 (decide (a1 > 4294967296)) bt515.1 bt515.2.1 bt515.2.2.1 bt515.2.2.2))
theorem coder_TakeNum.mono_l : ∀ k,(∀ y0 y1 y2 y3 y4 y5,LeO (coder_TakeNum.j0 k y0 y1 y2 y3 y4 y5) (coder_TakeNum.j0 (k+1) y0 y1 y2 y3 y4 y5))
 | 0=>fun _ _ _ _ _ _ r h=>by simp [coder_TakeNum.j0] at h
 | k+1=>by
  have ih0:=coder_TakeNum.mono_l k
  ·
   intro y0 y1 y2 y3 y4 y5
   unfold coder_TakeNum.j0
   repeat' with_reducible first|apply ih0|apply coder_Take.mono|apply yLr|apply yLn|apply yLi|apply yLb|intro _
theorem coder_TakeNum.mono : ∀ a0 a1 a2 a3 a4 k,LeO (coder_TakeNum.f k a0 a1 a2 a3 a4) (coder_TakeNum.f (k+1) a0 a1 a2 a3 a4):=by
 intro a0 a1 a2 a3 a4 k
 have ih0:=coder_TakeNum.mono_l k
 unfold coder_TakeNum.f
 repeat' with_reducible first|apply ih0|apply coder_Take.mono|apply yLr|apply yLn|apply yLi|apply yLb|intro _
set_option maxHeartbeats 8000000 in
set_option maxRecDepth 100000 in
theorem coder_TakeNum.calls (k : Nat) (a0_0 : Int) (a0_1 : Int) (P0_2_ : Nat→Prop) (A0_2 : Option Addr) (c0_2 : Nat) (l0_2 : List Int) (a0_3 : Int) (a1 : Int) (r1 : Int) (r2 : Int) (r3 : List Int) (r4 : Int) (r5 : Int) (r6 : Int) (w : World) (hs0_2 : Kd.V (Kd.int .u8) 5 w w.heap.size (fun k_=>P0_2_ k_) (.slice A0_2 l0_2.length c0_2) l0_2) (h : coder_TakeNum.f k a0_0 a0_1 l0_2 a0_3 a1=some (r1,r2,r3,r4,r5,r6)) :
  Calls Try.prog 39 #[.agg #[.int .u64 a0_0, .int .u32 a0_1, .slice A0_2 l0_2.length c0_2, .int .i64 a0_3], .int .u64 a1] w fun e w' => ∃ v2_ : Value,e=.returned (.tuple #[.agg #[.int .u64 r1, .int .u32 r2,v2_, .int .i64 r4], .int .u64 r5, .int .i64 r6])∧Kd.V (Kd.int .u8) 5 w' w.heap.size (fun k_=>(P0_2_ k_∨w.heap.size≤k_)) v2_ r3∧Below w.heap.size w w' := by
 have hu43:=Try.underlying43
 have HO0_2:=zm (show Kd.V (Kd.int .u8) 5 w w.heap.size (fun k_=>(P0_2_ k_∨w.heap.size≤k_)) (.slice A0_2 l0_2.length c0_2) l0_2 from zy hs0_2 (fun k_ hk => .inl hk))
 have HB:=zm (Below.refl w.heap.size w)
 have H : ((coder_good.f a0_0 a0_1 l0_2 a0_3).bind fun bt515=>(if a1 < 1 then (coder_TakeNum.j0 k a1 true bt515.1 bt515.2.1 bt515.2.2.1 bt515.2.2.2) else (coder_TakeNum.j0 k a1 (decide (a1 > 4294967296)) bt515.1 bt515.2.1 bt515.2.2.1 bt515.2.2.2)))=some (r1,r2,r3,r4,r5,r6):=h
 clear h
 replace H:=ybi H;obtain ⟨⟨t515,t516,t517,t520⟩,A3,H⟩:=H
 try dsimp only at H
 have HC4:=zm H;clear H
 go_enter Try.func39,Try.ntmps39
 go_upto_region 2 with (first|((with_reducible refine gate_dst (N:=2) rfl ?_);refine ybx 2 #[.int .u64 a0_0, .int .u32 a0_1, .slice A0_2 l0_2.length c0_2, .int .i64 a0_3] 43 ?_;intro gb513 hg w5 hbox hb;replace HO0_2:=yVe HO0_2 hg hb;have BK513:=zm (hbox);have GW513:=ygw hg;have GE513:=ygw hg;replace HB:=ybs hb;clear hb hbox hg)|((with_reducible refine gate_dst (N:=4) rfl ?_);refine ybx 4 #[.int .u64 0, .int .u32 0, .slice none 0 0, .int .i64 0] 43 ?_;intro gb514 hg w6 hbox hb;replace HO0_2:=yVe HO0_2 hg hb;have BK514:=zm (hbox);have GW514:=ygw hg;have GE514:=ygw hg;replace HB:=ybs hb;have NB513_514:=ynl BK513 hg;have NB514_513:=yng BK513 hg;replace BK513:=ybb BK513 hb;clear hb hbox hg;have:=NB513_514.out;have:=NB514_513.out;obtain ⟨hcz8_0,hcz8_1,hcz8_2,hcz8_3,hfz8_0,hfz8_1,hfz8_2,hfz8_3⟩:=yc4 BK513)|((with_reducible refine gate_callee (f:=60) rfl ?_);refine ygl 15 Try.func60 #[.agg #[.int .u64 a0_0, .int .u32 a0_1, .slice A0_2 l0_2.length c0_2, .int .i64 a0_3]] ?_;(with_reducible refine (coder_good.calls a0_0 a0_1 (fun k_=>(((P0_2_ k_∨w.heap.size≤k_)∧k_≠gb513)∧k_≠gb514)) _ _ l0_2 a0_3 t515 t516 t517 t520 _ HO0_2.out A3.out).mono ?_);rintro e w9 ⟨v518,rfl,ho0,hb⟩;refine ⟨_,rfl, ?_⟩;replace HO0_2:=yVb HO0_2 hb;have HO519:=yho (fun k_=>(P0_2_ k_∨w.heap.size≤k_)∧k_≠gb513∧k_≠gb514) ho0 (fun k_ hk_=>⟨Or.elim hk_ (fun hs_=>hs_.1.1) (fun hn_=>(.inr (Nat.le_trans (zE yhb) hn_))),yoB BK513 hk_,yoB BK514 hk_⟩);replace BK513:=ybb BK513 hb;replace BK514:=ybb BK514 hb;replace HB:=ybs hb;(try clear hb);(try clear ho0);obtain ⟨hcz10_0,hcz10_1,hcz10_2,hcz10_3,hfz10_0,hfz10_1,hfz10_2,hfz10_3⟩:=yc4 BK513;obtain ⟨Ao11,co11,eo11⟩:=Kd.V_slice HO519.out;subst eo11))
 (try simp only [Act.put,List.setIfInBounds_toArray,List.set_cons_zero,List.set_cons_succ])
 go_cut [21] (fun v21 wc => ∃ (kq : Nat) (x21_3 : Bool),v21=.bool x21_3∧Aside0 (coder_TakeNum.j0 kq a1 x21_3 t515 t516 t517 t520=some (r1,r2,r3,r4,r5,r6))∧Aside0 (kq≤k)∧Aside0 (Kd.V (Kd.int .u8) 5 wc w.heap.size (fun k_=>(P0_2_ k_∨w.heap.size≤k_)∧k_≠gb513∧k_≠gb514) (.slice Ao11 t517.length co11) t517)∧Aside0 (wc.heap[gb513]? = some (.cells #[.int .u64 t515, .int .u32 t516,(.slice Ao11 t517.length co11), .int .i64 t520] 43 (0,0)))∧Aside0 (wc.heap[gb514]? = some (.cells #[.int .u64 0, .int .u32 0,(.slice none 0 0), .int .i64 0] 43 (0,0)))∧Aside0 (Below w.heap.size w wc))
 case first =>
  have H:=HC4.out;clear HC4
  by_cases c12 : a1 < 1
  ·
   rw [if_pos c12] at H
   have c12b0 : decide (a1 < 1)=true:=decide_eq_true c12
   clear c12
   (first|rw [c12b0]|(simp only [i64_w,i32_w];rw [c12b0])|skip)
   have H' := zm H
   clear H
   go_wp2
   go_meet
   case rel=>exact ⟨_,(true),yq,H',⟨yo⟩,⟨yV0 HO519⟩,⟨ykp BK513⟩,⟨yk BK514⟩,⟨yhb⟩⟩
  ·
   rw [if_neg c12] at H
   have c12b0 : decide (a1 < 1)=false:=decide_eq_false c12
   clear c12
   (first|rw [c12b0]|(simp only [i64_w,i32_w];rw [c12b0])|skip)
   have H' := zm H
   clear H
   go_wp2
   go_meet
   case rel=>exact ⟨_,(decide (a1 > 4294967296)),yq,H',⟨yo⟩,⟨yV0 HO519⟩,⟨ykp BK513⟩,⟨yk BK514⟩,⟨yhb⟩⟩
 case rest =>
  clear HC4
  try clear hcz10_0
  try clear hcz10_1
  try clear hcz10_2
  try clear hcz10_3
  try clear hcz8_0
  try clear hcz8_1
  try clear hcz8_2
  try clear hcz8_3
  try clear hfz10_0
  try clear hfz10_1
  try clear hfz10_2
  try clear hfz10_3
  try clear hfz8_0
  try clear hfz8_1
  try clear hfz8_2
  try clear hfz8_3
  obtain ⟨kq,x21_3,rfl,HA,HJ3,HO_514002,BK513,BK514,HB⟩:=hcut
  obtain ⟨kj3,rfl⟩:=ysu kq (fun h=>by subst h;exact absurd HA.out (by simp [coder_TakeNum.j0]))
  have H:=HA.out;clear HA
  simp only [coder_TakeNum.j0] at H
  by_cases c13 : x21_3=true
  ·
   subst c13
   rw [if_pos rfl] at H
   simp only [Option.some.injEq,Prod.mk.injEq] at H
   obtain ⟨rfl,rfl,rfl,rfl,rfl,rfl⟩:=H
   have:=NB513_514.out
   have:=NB514_513.out
   obtain ⟨_,_,_,_,_,_,_,_⟩:=yc4 BK513
   obtain ⟨_,_,_,_,_,_,_,_⟩:=yc4 BK514
   go_wp2
   refine bodyPost_ret (results_ctt rfl _ _ gb514 43 #[.int .u64 t515, .int .u32 t516, .slice Ao11 t517.length co11, .int .i64 t520] (0,0) _ rfl (ykp BK514) Try.underlying43 rfl (by kernel_rfl)) rfl ?_
   exact ⟨_,ye,yV0 HO_514002,yhb⟩
  ·
   replace c13:=Bool.eq_false_iff.mpr c13
   subst c13
   rw [ynf] at H
   replace H:=ybi H;obtain ⟨⟨t521,t522⟩,A17,H⟩:=H
   try dsimp only at H
   replace H:=ybi H;obtain ⟨⟨t523,t524⟩,A18,H⟩:=H
   try dsimp only at H
   replace H:=ybi H;obtain ⟨⟨t525,t526,t527,t530,t531⟩,A19,H⟩:=H
   try dsimp only at H
   by_cases c20 : t522 > 1
   ·
    rw [if_pos c20] at H
    have c20b0 : decide (1 < t522)=true:=decide_eq_true c20
    clear c20
    replace H:=ybi H;obtain ⟨⟨t532,t533⟩,A21,H⟩:=H
    try dsimp only at H
    replace H:=ybi H;obtain ⟨⟨t534,t535,t536,t539,t540⟩,A22,H⟩:=H
    try dsimp only at H
    obtain ⟨ji23,hji23⟩ : ∃ j_ : Int,(mn (IntKind.u64.wrap ((IntKind.u64.wrap ((IntKind.u64.wrap (t523)) * (IntKind.u64.wrap (t522))))+(IntKind.u64.wrap (t532)))) (IntKind.u64.wrap (a1 - 1)))=j_:=⟨_,rfl⟩
    replace H : (some (t534,t535,t536,t539,ji23,0))=some (r1,r2,r3,r4,r5,r6):=by first|(rw [hji23] at H;exact H)|(simp only [hji23] at H ⊢; exact H)
    (try rw [hji23] at A17)
    (try rw [hji23] at A18)
    (try rw [hji23] at A19)
    (try rw [hji23] at A21)
    (try rw [hji23] at A22)
    have hji23_ : (if (IntKind.u64.wrap (a1 - 1)) < (IntKind.u64.wrap ((IntKind.u64.wrap ((IntKind.u64.wrap (t523)) * (IntKind.u64.wrap (t522))))+(IntKind.u64.wrap (t532)))) then (IntKind.u64.wrap (a1 - 1)) else (IntKind.u64.wrap ((IntKind.u64.wrap ((IntKind.u64.wrap (t523)) * (IntKind.u64.wrap (t522))))+(IntKind.u64.wrap (t532)))))=ji23:=hji23
    simp only [Option.some.injEq,Prod.mk.injEq] at H
    obtain ⟨rfl,rfl,rfl,rfl,rfl,rfl⟩:=H
    go_wp2_with (first|((with_reducible refine gate_callee (f:=63) rfl ?_);refine ygl 25 Try.func63 #[.int .u64 a1] ?_;(with_reducible refine (coder_halves.calls a1 t521 t522 _ A17.out).mono ?_);rintro e w' ⟨rfl,⟨nd,rfl⟩⟩;refine ⟨_,rfl, ?_⟩;(try (rw [drewN_self wc];generalize hq_ : World.drewN wc _=wc;have n0_ : Aside0 (Kd.V (Kd.int .u8) 5 wc w.heap.size (fun k_=>(P0_2_ k_∨w.heap.size≤k_)∧k_≠gb513∧k_≠gb514) (.slice Ao11 t517.length co11) t517):=⟨by rw [← hq_];exact (yr HO_514002)⟩;have n1_ : Aside0 (wc.heap[gb513]? = some (.cells #[.int .u64 t515, .int .u32 t516, .slice Ao11 t517.length co11, .int .i64 t520] 43 (0,0))):=⟨by rw [← hq_];exact (yk BK513)⟩;have n2_ : Aside0 (wc.heap[gb514]? = some (.cells #[.int .u64 0, .int .u32 0, .slice none 0 0, .int .i64 0] 43 (0,0))):=⟨by rw [← hq_];exact (yk BK514)⟩;have n3_ : Aside0 (Below w.heap.size w wc):=⟨by rw [← hq_];exact yhb⟩;clear HO_514002 BK513 BK514 HB hq_;have HO_514002:=n0_;have BK513:=n1_;have BK514:=n2_;have HB:=n3_;clear n0_ n1_ n2_ n3_));have:=NB513_514.out;have:=NB514_513.out;obtain ⟨_,_,_,_,_,_,_,_⟩:=yc4 BK513)|((with_reducible refine gate_callee (f:=32) rfl ?_);refine ygl 31 Try.func32 #[.agg #[.int .u64 t515, .int .u32 t516, .slice Ao11 t517.length co11, .int .i64 t520], .int .i64 t521] ?_;(with_reducible refine (coder_Get.calls t515 t516 _ _ t517 t520 t521 t523 t524 _ ?side1 ?side2 A18.out).mono ?_);(case side1=>exact yce (Kd.V_reads' HO_514002.out).2.2);(case side2=>exact (Kd.V_reads' HO_514002.out).2.1);rintro e w26 ⟨rfl,hb⟩;refine ⟨_,rfl, ?_⟩;replace HO_514002:=yVb HO_514002 hb;replace BK513:=ybb BK513 hb;replace BK514:=ybb BK514 hb;replace HB:=ybs hb;(try clear hb);obtain ⟨_,_,_,_,_,_,_,_⟩:=yc4 BK513)|((with_reducible refine gate_callee (f:=34) rfl ?_);refine ygl 40 Try.func34 #[.agg #[.int .u64 t515, .int .u32 t516, .slice Ao11 t517.length co11, .int .i64 t520], .int .i64 t523, .int .i64 (wrap64 (t523+1)), .int .i64 t521] ?_;(with_reducible refine (coder_Take.calls kj3 t515 t516 (fun k_=>((P0_2_ k_∨w.heap.size≤k_)∧(k_≠gb513∧k_≠gb514))) _ _ t517 t520 t523 (wrap64 (t523+1)) t521 t525 t526 t527 t530 t531 _ HO_514002.out A19.out).mono ?_);rintro e w28 ⟨v528,rfl,ho0,hb⟩;refine ⟨_,rfl, ?_⟩;replace HO_514002:=yVb HO_514002 hb;have HO529:=yho (fun k_=>(P0_2_ k_∨w.heap.size≤k_)∧k_≠gb513∧k_≠gb514) ho0 (fun k_ hk_=>⟨Or.elim hk_ (fun hs_=>hs_.1) (fun hn_=>(.inr (Nat.le_trans (zE yhb) hn_))),yoB BK513 hk_,yoB BK514 hk_⟩);replace BK513:=ybb BK513 hb;replace BK514:=ybb BK514 hb;replace HB:=ybs hb;(try clear hb);(try clear ho0);obtain ⟨_,_,_,_,_,_,_,_⟩:=yc4 BK513;obtain ⟨Ao30,co30,eo30⟩:=Kd.V_slice HO529.out;subst eo30)|((with_reducible refine gate_callee (f:=32) rfl ?_);refine ygl 50 Try.func32 #[.agg #[.int .u64 t525, .int .u32 t526, .slice Ao30 t527.length co30, .int .i64 t530], .int .i64 t522] ?_;(with_reducible refine (coder_Get.calls t525 t526 _ _ t527 t530 t522 t532 t533 _ ?side1 ?side2 A21.out).mono ?_);(case side1=>refine (Kd.V_reads' (e:=5) (base:=w.heap.size) (ok:=fun k_=>((P0_2_ k_∨w.heap.size≤k_)∧(k_≠gb513∧k_≠gb514))) (n:=t527.length) (c:=co30) ?_).2.2;exact (yV0 HO529));(case side2=>exact (Kd.V_reads' HO529.out).2.1);rintro e w31 ⟨rfl,hb⟩;refine ⟨_,rfl, ?_⟩;replace HO_514002:=zm (Kd.V_below (yV0 HO_514002) hb);replace HO529:=zm (Kd.V_below (yV0 HO529) hb);replace BK513:=zm (zF (g:=gb513) (o:=.cells #[.int .u64 t525, .int .u32 t526, .slice Ao30 t527.length co30, .int .i64 t530] 43 (0,0)) (ykp BK513) hb);replace BK514:=ybb BK514 hb;replace HB:=ybs hb;(try clear hb);obtain ⟨_,_,_,_,_,_,_,_⟩:=yc4 BK513)|((with_reducible refine gate_callee (f:=34) rfl ?_);refine ygl 59 Try.func34 #[.agg #[.int .u64 t525, .int .u32 t526, .slice Ao30 t527.length co30, .int .i64 t530], .int .i64 t532, .int .i64 (wrap64 (t532+1)), .int .i64 t522] ?_;(with_reducible refine (coder_Take.calls kj3 t525 t526 (fun k_=>((P0_2_ k_∨w.heap.size≤k_)∧(k_≠gb513∧k_≠gb514))) _ _ t527 t530 t532 (wrap64 (t532+1)) t522 t534 t535 t536 t539 t540 _ HO529.out A22.out).mono ?_);rintro e w33 ⟨v537,rfl,ho0,hb⟩;refine ⟨_,rfl, ?_⟩;replace HO_514002:=yVb HO_514002 hb;replace HO529:=yVb HO529 hb;have HO538:=yho (fun k_=>(P0_2_ k_∨w.heap.size≤k_)∧k_≠gb513∧k_≠gb514) ho0 (fun k_ hk_=>⟨Or.elim hk_ (fun hs_=>hs_.1) (fun hn_=>(.inr (Nat.le_trans (zE yhb) hn_))),yoB BK513 hk_,yoB BK514 hk_⟩);replace BK513:=ybb BK513 hb;replace BK514:=ybb BK514 hb;replace HB:=ybs hb;(try clear hb);(try clear ho0);obtain ⟨_,_,_,_,_,_,_,_⟩:=yc4 BK513;obtain ⟨Ao35,co35,eo35⟩:=Kd.V_slice HO538.out;subst eo35;obtain ⟨_,_,_,_,_,_,_,_⟩:=yc4 BK514))
    refine bodyPost_ret (results_ctt rfl _ _ gb514 43 #[.int .u64 t534, .int .u32 t535, .slice Ao35 t536.length co35, .int .i64 t539] (0,0) _ rfl (ykp BK514) Try.underlying43 rfl (by kernel_rfl)) rfl ?_
    exact ⟨_,by first|rfl|(simp [errW_none,errW_some] <;> rfl)|(simp only [← hji23];first|rfl|(simp [errW_none,errW_some] <;> rfl))|(simp [*,errW_none,errW_some] <;> rfl),yV0 HO538,yhb⟩
   ·
    rw [if_neg c20] at H
    have c20b0 : decide (1 < t522)=false:=decide_eq_false c20
    clear c20
    obtain ⟨ji37,hji37⟩ : ∃ j_ : Int,(mn (IntKind.u64.wrap (t523)) (IntKind.u64.wrap (a1 - 1)))=j_:=⟨_,rfl⟩
    replace H : (some (t525,t526,t527,t530,ji37,0))=some (r1,r2,r3,r4,r5,r6):=by first|(rw [hji37] at H;exact H)|(simp only [hji37] at H ⊢; exact H)
    (try rw [hji37] at A17)
    (try rw [hji37] at A18)
    (try rw [hji37] at A19)
    have hji37_ : (if (IntKind.u64.wrap (a1 - 1)) < (IntKind.u64.wrap (t523)) then (IntKind.u64.wrap (a1 - 1)) else (IntKind.u64.wrap (t523)))=ji37:=hji37
    simp only [Option.some.injEq,Prod.mk.injEq] at H
    obtain ⟨rfl,rfl,rfl,rfl,rfl,rfl⟩:=H
    go_wp2_with (first|((with_reducible refine gate_callee (f:=63) rfl ?_);refine ygl 25 Try.func63 #[.int .u64 a1] ?_;(with_reducible refine (coder_halves.calls a1 t521 t522 _ A17.out).mono ?_);rintro e w' ⟨rfl,⟨nd,rfl⟩⟩;refine ⟨_,rfl, ?_⟩;(try (rw [drewN_self wc];generalize hq_ : World.drewN wc _=wc;have n0_ : Aside0 (Kd.V (Kd.int .u8) 5 wc w.heap.size (fun k_=>(P0_2_ k_∨w.heap.size≤k_)∧k_≠gb513∧k_≠gb514) (.slice Ao11 t517.length co11) t517):=⟨by rw [← hq_];exact (yr HO_514002)⟩;have n1_ : Aside0 (wc.heap[gb513]? = some (.cells #[.int .u64 t515, .int .u32 t516, .slice Ao11 t517.length co11, .int .i64 t520] 43 (0,0))):=⟨by rw [← hq_];exact (yk BK513)⟩;have n2_ : Aside0 (wc.heap[gb514]? = some (.cells #[.int .u64 0, .int .u32 0, .slice none 0 0, .int .i64 0] 43 (0,0))):=⟨by rw [← hq_];exact (yk BK514)⟩;have n3_ : Aside0 (Below w.heap.size w wc):=⟨by rw [← hq_];exact yhb⟩;clear HO_514002 BK513 BK514 HB hq_;have HO_514002:=n0_;have BK513:=n1_;have BK514:=n2_;have HB:=n3_;clear n0_ n1_ n2_ n3_));have:=NB513_514.out;have:=NB514_513.out;obtain ⟨_,_,_,_,_,_,_,_⟩:=yc4 BK513)|((with_reducible refine gate_callee (f:=32) rfl ?_);refine ygl 31 Try.func32 #[.agg #[.int .u64 t515, .int .u32 t516, .slice Ao11 t517.length co11, .int .i64 t520], .int .i64 t521] ?_;(with_reducible refine (coder_Get.calls t515 t516 _ _ t517 t520 t521 t523 t524 _ ?side1 ?side2 A18.out).mono ?_);(case side1=>exact yce (Kd.V_reads' HO_514002.out).2.2);(case side2=>exact (Kd.V_reads' HO_514002.out).2.1);rintro e w40 ⟨rfl,hb⟩;refine ⟨_,rfl, ?_⟩;replace HO_514002:=yVb HO_514002 hb;replace BK513:=ybb BK513 hb;replace BK514:=ybb BK514 hb;replace HB:=ybs hb;(try clear hb);obtain ⟨_,_,_,_,_,_,_,_⟩:=yc4 BK513)|((with_reducible refine gate_callee (f:=34) rfl ?_);refine ygl 40 Try.func34 #[.agg #[.int .u64 t515, .int .u32 t516, .slice Ao11 t517.length co11, .int .i64 t520], .int .i64 t523, .int .i64 (wrap64 (t523+1)), .int .i64 t521] ?_;(with_reducible refine (coder_Take.calls kj3 t515 t516 (fun k_=>((P0_2_ k_∨w.heap.size≤k_)∧(k_≠gb513∧k_≠gb514))) _ _ t517 t520 t523 (wrap64 (t523+1)) t521 t525 t526 t527 t530 t531 _ HO_514002.out A19.out).mono ?_);rintro e w42 ⟨v528,rfl,ho0,hb⟩;refine ⟨_,rfl, ?_⟩;replace HO_514002:=yVb HO_514002 hb;have HO529:=yho (fun k_=>(P0_2_ k_∨w.heap.size≤k_)∧k_≠gb513∧k_≠gb514) ho0 (fun k_ hk_=>⟨Or.elim hk_ (fun hs_=>hs_.1) (fun hn_=>(.inr (Nat.le_trans (zE yhb) hn_))),yoB BK513 hk_,yoB BK514 hk_⟩);replace BK513:=ybb BK513 hb;replace BK514:=ybb BK514 hb;replace HB:=ybs hb;(try clear hb);(try clear ho0);obtain ⟨_,_,_,_,_,_,_,_⟩:=yc4 BK513;obtain ⟨Ao44,co44,eo44⟩:=Kd.V_slice HO529.out;subst eo44;obtain ⟨_,_,_,_,_,_,_,_⟩:=yc4 BK514))
    refine bodyPost_ret (results_ctt rfl _ _ gb514 43 #[.int .u64 t525, .int .u32 t526, .slice Ao44 t527.length co44, .int .i64 t530] (0,0) _ rfl (ykp BK514) Try.underlying43 rfl (by kernel_rfl)) rfl ?_
    exact ⟨_,by first|rfl|(simp [errW_none,errW_some] <;> rfl)|(simp only [← hji37];first|rfl|(simp [errW_none,errW_some] <;> rfl))|(simp [*,errW_none,errW_some] <;> rfl),yV0 HO529,yhb⟩
def gain_take.f (k : Nat) (a0_0 : Int) (a0_1 : Int) (l0_2 : List Int) (a0_3 : Int) (a1 : Int) (a2 : Bool) : Option (Int × Int × List Int × Int × Int):=if a2=true then ((coder_TakeNum.f k a0_0 a0_1 l0_2 a0_3 45).bind fun bt712=>(some (bt712.1,bt712.2.1,bt712.2.2.1,bt712.2.2.2.1,wrap64 (bt712.2.2.2.2.1)))) else ((coder_Get.f a0_0 a0_1 l0_2 a0_3 8).bind fun bt721=>((coder_Take.f k a0_0 a0_1 l0_2 a0_3 bt721.1 (wrap64 (bt721.1+1)) 8).bind fun bt723=>(if bt721.1=7 then ((coder_TakeNum.f k bt723.1 bt723.2.1 bt723.2.2.1 bt723.2.2.2.1 45).bind fun bt730=>(some (bt730.1,bt730.2.1,bt730.2.2.1,bt730.2.2.2.1,wrap64 (bt730.2.2.2.2.1)))) else (some (bt723.1,bt723.2.1,bt723.2.2.1,bt723.2.2.2.1,mx 0 (mn (wrap64 ((wrap64 (a1+bt721.1)) - 3)) 44))))))
theorem gain_take.mono : ∀ a0 a1 a2 a3 a4 a5 k,LeO (gain_take.f k a0 a1 a2 a3 a4 a5) (gain_take.f (k+1) a0 a1 a2 a3 a4 a5):=by
 intro a0 a1 a2 a3 a4 a5 k
 unfold gain_take.f
 repeat' with_reducible first|apply coder_Take.mono|apply coder_TakeNum.mono|apply yLr|apply yLn|apply yLi|apply yLb|intro _
set_option maxHeartbeats 8000000 in
set_option maxRecDepth 100000 in
theorem gain_take.calls (k : Nat) (a0_0 : Int) (a0_1 : Int) (P0_2_ : Nat→Prop) (A0_2 : Option Addr) (c0_2 : Nat) (l0_2 : List Int) (a0_3 : Int) (a1 : Int) (a2 : Bool) (r1 : Int) (r2 : Int) (r3 : List Int) (r4 : Int) (r5 : Int) (w : World) (hs0_2 : Kd.V (Kd.int .u8) 5 w w.heap.size (fun k_=>P0_2_ k_) (.slice A0_2 l0_2.length c0_2) l0_2) (h : gain_take.f k a0_0 a0_1 l0_2 a0_3 a1 a2=some (r1,r2,r3,r4,r5)) :
  Calls Try.prog 65 #[.agg #[.int .u64 a0_0, .int .u32 a0_1, .slice A0_2 l0_2.length c0_2, .int .i64 a0_3], .int .i64 a1, .bool a2] w fun e w' => ∃ v2_ : Value,e=.returned (.tuple #[.agg #[.int .u64 r1, .int .u32 r2,v2_, .int .i64 r4], .int .i64 r5])∧Kd.V (Kd.int .u8) 5 w' w.heap.size (fun k_=>(P0_2_ k_∨w.heap.size≤k_)) v2_ r3∧Below w.heap.size w w' := by
 have hu43:=Try.underlying43
 have HO0_2:=zm (show Kd.V (Kd.int .u8) 5 w w.heap.size (fun k_=>(P0_2_ k_∨w.heap.size≤k_)) (.slice A0_2 l0_2.length c0_2) l0_2 from zy hs0_2 (fun k_ hk => .inl hk))
 have HB:=zm (Below.refl w.heap.size w)
 have H : (if a2=true then ((coder_TakeNum.f k a0_0 a0_1 l0_2 a0_3 45).bind fun bt712=>(some (bt712.1,bt712.2.1,bt712.2.2.1,bt712.2.2.2.1,wrap64 (bt712.2.2.2.2.1)))) else ((coder_Get.f a0_0 a0_1 l0_2 a0_3 8).bind fun bt721=>((coder_Take.f k a0_0 a0_1 l0_2 a0_3 bt721.1 (wrap64 (bt721.1+1)) 8).bind fun bt723=>(if bt721.1=7 then ((coder_TakeNum.f k bt723.1 bt723.2.1 bt723.2.2.1 bt723.2.2.2.1 45).bind fun bt730=>(some (bt730.1,bt730.2.1,bt730.2.2.1,bt730.2.2.2.1,wrap64 (bt730.2.2.2.2.1)))) else (some (bt723.1,bt723.2.1,bt723.2.2.1,bt723.2.2.2.1,mx 0 (mn (wrap64 ((wrap64 (a1+bt721.1)) - 3)) 44)))))))=some (r1,r2,r3,r4,r5):=h
 clear h
 by_cases c4 : a2=true
 ·
  subst c4
  rw [if_pos rfl] at H
  replace H:=ybi H;obtain ⟨⟨t712,t713,t714,t717,t718,t719⟩,A5,H⟩:=H
  try dsimp only at H
  simp only [Option.some.injEq,Prod.mk.injEq] at H
  obtain ⟨rfl,rfl,rfl,rfl,rfl⟩:=H
  go_enter Try.func65,Try.ntmps65
  go_wp2_with (first|((with_reducible refine gate_dst (N:=3) rfl ?_);refine ybx 3 #[.int .u64 a0_0, .int .u32 a0_1, .slice A0_2 l0_2.length c0_2, .int .i64 a0_3] 43 ?_;intro gb710 hg w6 hbox hb;replace HO0_2:=yVe HO0_2 hg hb;have BK710:=zm (hbox);have GW710:=ygw hg;have GE710:=ygw hg;replace HB:=ybs hb;clear hb hbox hg)|((with_reducible refine gate_dst (N:=6) rfl ?_);refine ybx 6 #[.int .u64 0, .int .u32 0, .slice none 0 0, .int .i64 0] 43 ?_;intro gb711 hg w7 hbox hb;replace HO0_2:=yVe HO0_2 hg hb;have BK711:=zm (hbox);have GW711:=ygw hg;have GE711:=ygw hg;replace HB:=ybs hb;have NB710_711:=ynl BK710 hg;have NB711_710:=yng BK710 hg;replace BK710:=ybb BK710 hb;clear hb hbox hg;have:=NB710_711.out;have:=NB711_710.out;obtain ⟨_,_,_,_,_,_,_,_⟩:=yc4 BK710)|((with_reducible refine gate_callee (f:=39) rfl ?_);refine ygl 39 Try.func39 #[.agg #[.int .u64 a0_0, .int .u32 a0_1, .slice A0_2 l0_2.length c0_2, .int .i64 a0_3], .int .u64 45] ?_;(with_reducible refine (coder_TakeNum.calls k a0_0 a0_1 (fun k_=>(((P0_2_ k_∨w.heap.size≤k_)∧k_≠gb710)∧k_≠gb711)) _ _ l0_2 a0_3 45 t712 t713 t714 t717 t718 t719 _ HO0_2.out A5.out).mono ?_);rintro e w10 ⟨v715,rfl,ho0,hb⟩;refine ⟨_,rfl, ?_⟩;replace HO0_2:=yVb HO0_2 hb;have HO716:=yho (fun k_=>(P0_2_ k_∨w.heap.size≤k_)∧k_≠gb710∧k_≠gb711) ho0 (fun k_ hk_=>⟨Or.elim hk_ (fun hs_=>hs_.1.1) (fun hn_=>(.inr (Nat.le_trans (zE yhb) hn_))),yoB BK710 hk_,yoB BK711 hk_⟩);replace BK710:=ybb BK710 hb;replace BK711:=ybb BK711 hb;replace HB:=ybs hb;(try clear hb);(try clear ho0))|((with_reducible refine gate_dst (N:=10) rfl ?_);refine ybx 10 #[.int .u64 0, .int .u32 0, .slice none 0 0, .int .i64 0] 43 ?_;intro gb720 hg w11 hbox hb;replace HO0_2:=yVe HO0_2 hg hb;replace HO716:=yVe HO716 hg hb;have BK720:=zm (hbox);have GW720:=ygw hg;have GE720:=ygw hg;replace HB:=ybs hb;have NB710_720:=ynl BK710 hg;have NB720_710:=yng BK710 hg;replace BK710:=ybb BK710 hb;have NB711_720:=ynl BK711 hg;have NB720_711:=yng BK711 hg;replace BK711:=ybb BK711 hb;clear hb hbox hg;have:=NB720_710.out;have:=NB710_720.out;have:=NB720_711.out;have:=NB711_720.out;obtain ⟨_,_,_,_,_,_,_,_⟩:=yc4 BK720;obtain ⟨Ao15,co15,eo15⟩:=Kd.V_slice HO716.out;subst eo15;obtain ⟨_,_,_,_,_,_,_,_⟩:=yc4 BK711))
  refine bodyPost_ret (results_ct rfl _ _ gb711 43 #[.int .u64 t712, .int .u32 t713, .slice Ao15 t714.length co15, .int .i64 t717] (0,0) _ rfl (ykp BK711) Try.underlying43 rfl (by kernel_rfl)) rfl ?_
  exact ⟨_,ye,yV0 HO716,yhb⟩
 ·
  replace c4:=Bool.eq_false_iff.mpr c4
  subst c4
  rw [ynf] at H
  replace H:=ybi H;obtain ⟨⟨t721,t722⟩,A17,H⟩:=H
  try dsimp only at H
  replace H:=ybi H;obtain ⟨⟨t723,t724,t725,t728,t729⟩,A18,H⟩:=H
  try dsimp only at H
  by_cases c19 : t721=7
  ·
   rw [if_pos c19] at H
   have c19b0 : (t721 == 7)=true:=beq_iff_eq.mpr c19
   have c19b1 : (t721 != 7)=false:=bne_eq_false_iff_eq.mpr c19
   clear c19
   replace H:=ybi H;obtain ⟨⟨t730,t731,t732,t735,t736,t737⟩,A20,H⟩:=H
   try dsimp only at H
   simp only [Option.some.injEq,Prod.mk.injEq] at H
   obtain ⟨rfl,rfl,rfl,rfl,rfl⟩:=H
   go_enter Try.func65,Try.ntmps65
   go_wp2_with (first|((with_reducible refine gate_dst (N:=3) rfl ?_);refine ybx 3 #[.int .u64 a0_0, .int .u32 a0_1, .slice A0_2 l0_2.length c0_2, .int .i64 a0_3] 43 ?_;intro gb710 hg w21 hbox hb;replace HO0_2:=yVe HO0_2 hg hb;have BK710:=zm (hbox);have GW710:=ygw hg;have GE710:=ygw hg;replace HB:=ybs hb;clear hb hbox hg)|((with_reducible refine gate_dst (N:=6) rfl ?_);refine ybx 6 #[.int .u64 0, .int .u32 0, .slice none 0 0, .int .i64 0] 43 ?_;intro gb711 hg w22 hbox hb;replace HO0_2:=yVe HO0_2 hg hb;have BK711:=zm (hbox);have GW711:=ygw hg;have GE711:=ygw hg;replace HB:=ybs hb;have NB710_711:=ynl BK710 hg;have NB711_710:=yng BK710 hg;replace BK710:=ybb BK710 hb;clear hb hbox hg;have:=NB710_711.out;have:=NB711_710.out;obtain ⟨_,_,_,_,_,_,_,_⟩:=yc4 BK710)|((with_reducible refine gate_callee (f:=32) rfl ?_);refine ygl 17 Try.func32 #[.agg #[.int .u64 a0_0, .int .u32 a0_1, .slice A0_2 l0_2.length c0_2, .int .i64 a0_3], .int .i64 8] ?_;(with_reducible refine (coder_Get.calls a0_0 a0_1 _ _ l0_2 a0_3 8 t721 t722 _ ?side1 ?side2 A17.out).mono ?_);(case side1=>exact yce (Kd.V_reads' HO0_2.out).2.2);(case side2=>exact (Kd.V_reads' HO0_2.out).2.1);rintro e w25 ⟨rfl,hb⟩;refine ⟨_,rfl, ?_⟩;replace HO0_2:=yVb HO0_2 hb;replace BK710:=ybb BK710 hb;replace BK711:=ybb BK711 hb;replace HB:=ybs hb;(try clear hb);obtain ⟨_,_,_,_,_,_,_,_⟩:=yc4 BK710)|((with_reducible refine gate_callee (f:=34) rfl ?_);refine ygl 25 Try.func34 #[.agg #[.int .u64 a0_0, .int .u32 a0_1, .slice A0_2 l0_2.length c0_2, .int .i64 a0_3], .int .i64 t721, .int .i64 (wrap64 (t721+1)), .int .i64 8] ?_;(with_reducible refine (coder_Take.calls k a0_0 a0_1 (fun k_=>(((P0_2_ k_∨w.heap.size≤k_)∧k_≠gb710)∧k_≠gb711)) _ _ l0_2 a0_3 t721 (wrap64 (t721+1)) 8 t723 t724 t725 t728 t729 _ HO0_2.out A18.out).mono ?_);rintro e w27 ⟨v726,rfl,ho0,hb⟩;refine ⟨_,rfl, ?_⟩;replace HO0_2:=yVb HO0_2 hb;have HO727:=yho (fun k_=>(P0_2_ k_∨w.heap.size≤k_)∧k_≠gb710∧k_≠gb711) ho0 (fun k_ hk_=>⟨Or.elim hk_ (fun hs_=>hs_.1.1) (fun hn_=>(.inr (Nat.le_trans (zE yhb) hn_))),yoB BK710 hk_,yoB BK711 hk_⟩);replace BK710:=ybb BK710 hb;replace BK711:=ybb BK711 hb;replace HB:=ybs hb;(try clear hb);(try clear ho0);obtain ⟨_,_,_,_,_,_,_,_⟩:=yc4 BK710;obtain ⟨Ao29,co29,eo29⟩:=Kd.V_slice HO727.out;subst eo29)|((with_reducible refine gate_store (t:=43) (p:=3) rfl ?_);refine store_event (t:=43) (p:=3) (v := ?vo_w30) (w1:=((((w27.setCell ⟨gb710,0,none⟩ (.int .u64 t723)).setCell ⟨gb710,1,none⟩ (.int .u32 t724)).setCell ⟨gb710,2,none⟩ (.slice Ao29 t725.length co29)).setCell ⟨gb710,3,none⟩ (.int .i64 t728))) ?hg ?ho ?hn ?hr ?_;(case ho=>rfl);(case hg=>rfl);(case hn=>rfl);(case hr=>first|(go_simp;done)|(go_simp;rfl));intro w30 hw;replace HO0_2 : Aside0 (Kd.V (Kd.int .u8) 5 w30 w.heap.size (fun k_=>(P0_2_ k_∨w.heap.size≤k_)∧k_≠gb710∧k_≠gb711) (.slice A0_2 l0_2.length c0_2) l0_2):=⟨(by rw [hw];exact (yV0 HO0_2))⟩;replace HO727 : Aside0 (Kd.V (Kd.int .u8) 5 w30 w.heap.size (fun k_=>(P0_2_ k_∨w.heap.size≤k_)∧k_≠gb710∧k_≠gb711) (.slice Ao29 t725.length co29) t725):=⟨(by rw [hw];exact (yV0 HO727))⟩;replace BK710 : Aside0 (w30.heap[gb710]? = some (.cells #[.int .u64 t723, .int .u32 t724, .slice Ao29 t725.length co29, .int .i64 t728] 43 (0,0))):=⟨(by rw [hw];exact (ykp BK710))⟩;replace BK711 : Aside0 (w30.heap[gb711]? = some (.cells #[.int .u64 0, .int .u32 0, .slice none 0 0, .int .i64 0] 43 (0,0))):=⟨(by rw [hw];exact (yk BK711))⟩;replace HB : Aside0 (Below w.heap.size w w30):=⟨(by rw [hw];exact yhb)⟩;clear hw;obtain ⟨_,_,_,_,_,_,_,_⟩:=yc4 BK710)|((with_reducible refine gate_callee (f:=39) rfl ?_);refine ygl 39 Try.func39 #[.agg #[.int .u64 t723, .int .u32 t724, .slice Ao29 t725.length co29, .int .i64 t728], .int .u64 45] ?_;(with_reducible refine (coder_TakeNum.calls k t723 t724 (fun k_=>((P0_2_ k_∨w.heap.size≤k_)∧(k_≠gb710∧k_≠gb711))) _ _ t725 t728 45 t730 t731 t732 t735 t736 t737 _ HO727.out A20.out).mono ?_);rintro e w32 ⟨v733,rfl,ho0,hb⟩;refine ⟨_,rfl, ?_⟩;replace HO0_2:=yVb HO0_2 hb;replace HO727:=yVb HO727 hb;have HO734:=yho (fun k_=>(P0_2_ k_∨w.heap.size≤k_)∧k_≠gb710∧k_≠gb711) ho0 (fun k_ hk_=>⟨Or.elim hk_ (fun hs_=>hs_.1) (fun hn_=>(.inr (Nat.le_trans (zE yhb) hn_))),yoB BK710 hk_,yoB BK711 hk_⟩);replace BK710:=ybb BK710 hb;replace BK711:=ybb BK711 hb;replace HB:=ybs hb;(try clear hb);(try clear ho0))|((with_reducible refine gate_dst (N:=10) rfl ?_);refine ybx 10 #[.int .u64 0, .int .u32 0, .slice none 0 0, .int .i64 0] 43 ?_;intro gb738 hg w33 hbox hb;replace HO0_2:=yVe HO0_2 hg hb;replace HO727:=yVe HO727 hg hb;replace HO734:=yVe HO734 hg hb;have BK738:=zm (hbox);have GW738:=ygw hg;have GE738:=ygw hg;replace HB:=ybs hb;have NB710_738:=ynl BK710 hg;have NB738_710:=yng BK710 hg;replace BK710:=ybb BK710 hb;have NB711_738:=ynl BK711 hg;have NB738_711:=yng BK711 hg;replace BK711:=ybb BK711 hb;clear hb hbox hg;have:=NB738_710.out;have:=NB710_738.out;have:=NB738_711.out;have:=NB711_738.out;obtain ⟨_,_,_,_,_,_,_,_⟩:=yc4 BK738;obtain ⟨Ao37,co37,eo37⟩:=Kd.V_slice HO734.out;subst eo37;obtain ⟨_,_,_,_,_,_,_,_⟩:=yc4 BK711))
   refine bodyPost_ret (results_ct rfl _ _ gb711 43 #[.int .u64 t730, .int .u32 t731, .slice Ao37 t732.length co37, .int .i64 t735] (0,0) _ rfl (ykp BK711) Try.underlying43 rfl (by kernel_rfl)) rfl ?_
   exact ⟨_,ye,yV0 HO734,yhb⟩
  ·
   rw [if_neg c19] at H
   have c19b0 : (t721 == 7)=false:=beq_eq_false_iff_ne.mpr c19
   have c19b1 : (t721 != 7)=true:=bne_iff_ne.mpr c19
   obtain ⟨ji39,hji39⟩ : ∃ j_ : Int,(mn (wrap64 ((wrap64 (a1+t721)) - 3)) 44)=j_:=⟨_,rfl⟩
   replace H : (some (t723,t724,t725,t728,mx 0 (ji39)))=some (r1,r2,r3,r4,r5):=by first|(rw [hji39] at H;exact H)|(simp only [hji39] at H ⊢; exact H)
   (try rw [hji39] at A17)
   (try rw [hji39] at A18)
   (try (have hji39h : ji39≤44:=by (rw [← hji39];unfold mn;(repeat' split) <;> omega)))
   (try (have hji39g : ji39≤64:=by omega))
   have hji39_ : (if 44 < (wrap64 ((wrap64 (a1+t721)) - 3)) then 44 else (wrap64 ((wrap64 (a1+t721)) - 3)))=ji39:=hji39
   obtain ⟨ji40,hji40⟩ : ∃ j_ : Int,(mx 0 (ji39))=j_:=⟨_,rfl⟩
   replace H : (some (t723,t724,t725,t728,ji40))=some (r1,r2,r3,r4,r5):=by first|(rw [hji40] at H;exact H)|(simp only [hji40] at H ⊢; exact H)
   (try rw [hji40] at A17)
   (try rw [hji40] at A18)
   have hji40_ : (if 0 < (ji39) then (ji39) else 0)=ji40:=hji40
   simp only [Option.some.injEq,Prod.mk.injEq] at H
   obtain ⟨rfl,rfl,rfl,rfl,rfl⟩:=H
   go_enter Try.func65,Try.ntmps65
   go_wp2_with (first|((with_reducible refine gate_dst (N:=3) rfl ?_);refine ybx 3 #[.int .u64 a0_0, .int .u32 a0_1, .slice A0_2 l0_2.length c0_2, .int .i64 a0_3] 43 ?_;intro gb710 hg w41 hbox hb;replace HO0_2:=yVe HO0_2 hg hb;have BK710:=zm (hbox);have GW710:=ygw hg;have GE710:=ygw hg;replace HB:=ybs hb;clear hb hbox hg)|((with_reducible refine gate_dst (N:=6) rfl ?_);refine ybx 6 #[.int .u64 0, .int .u32 0, .slice none 0 0, .int .i64 0] 43 ?_;intro gb711 hg w42 hbox hb;replace HO0_2:=yVe HO0_2 hg hb;have BK711:=zm (hbox);have GW711:=ygw hg;have GE711:=ygw hg;replace HB:=ybs hb;have NB710_711:=ynl BK710 hg;have NB711_710:=yng BK710 hg;replace BK710:=ybb BK710 hb;clear hb hbox hg;have:=NB710_711.out;have:=NB711_710.out;obtain ⟨_,_,_,_,_,_,_,_⟩:=yc4 BK710)|((with_reducible refine gate_callee (f:=32) rfl ?_);refine ygl 17 Try.func32 #[.agg #[.int .u64 a0_0, .int .u32 a0_1, .slice A0_2 l0_2.length c0_2, .int .i64 a0_3], .int .i64 8] ?_;(with_reducible refine (coder_Get.calls a0_0 a0_1 _ _ l0_2 a0_3 8 t721 t722 _ ?side1 ?side2 A17.out).mono ?_);(case side1=>exact yce (Kd.V_reads' HO0_2.out).2.2);(case side2=>exact (Kd.V_reads' HO0_2.out).2.1);rintro e w45 ⟨rfl,hb⟩;refine ⟨_,rfl, ?_⟩;replace HO0_2:=yVb HO0_2 hb;replace BK710:=ybb BK710 hb;replace BK711:=ybb BK711 hb;replace HB:=ybs hb;(try clear hb);obtain ⟨_,_,_,_,_,_,_,_⟩:=yc4 BK710)|((with_reducible refine gate_callee (f:=34) rfl ?_);refine ygl 25 Try.func34 #[.agg #[.int .u64 a0_0, .int .u32 a0_1, .slice A0_2 l0_2.length c0_2, .int .i64 a0_3], .int .i64 t721, .int .i64 (wrap64 (t721+1)), .int .i64 8] ?_;(with_reducible refine (coder_Take.calls k a0_0 a0_1 (fun k_=>(((P0_2_ k_∨w.heap.size≤k_)∧k_≠gb710)∧k_≠gb711)) _ _ l0_2 a0_3 t721 (wrap64 (t721+1)) 8 t723 t724 t725 t728 t729 _ HO0_2.out A18.out).mono ?_);rintro e w47 ⟨v726,rfl,ho0,hb⟩;refine ⟨_,rfl, ?_⟩;replace HO0_2:=yVb HO0_2 hb;have HO727:=yho (fun k_=>(P0_2_ k_∨w.heap.size≤k_)∧k_≠gb710∧k_≠gb711) ho0 (fun k_ hk_=>⟨Or.elim hk_ (fun hs_=>hs_.1.1) (fun hn_=>(.inr (Nat.le_trans (zE yhb) hn_))),yoB BK710 hk_,yoB BK711 hk_⟩);replace BK710:=ybb BK710 hb;replace BK711:=ybb BK711 hb;replace HB:=ybs hb;(try clear hb);(try clear ho0);obtain ⟨_,_,_,_,_,_,_,_⟩:=yc4 BK710;obtain ⟨Ao49,co49,eo49⟩:=Kd.V_slice HO727.out;subst eo49;obtain ⟨_,_,_,_,_,_,_,_⟩:=yc4 BK711))
   refine bodyPost_ret (results_ct rfl _ _ gb711 43 #[.int .u64 t723, .int .u32 t724, .slice Ao49 t725.length co49, .int .i64 t728] (0,0) _ rfl (ykp BK711) Try.underlying43 rfl (by kernel_rfl)) rfl ?_
   exact ⟨_,by first|rfl|(simp [errW_none,errW_some] <;> rfl)|(simp only [← hji39, ← hji40];first|rfl|(simp [errW_none,errW_some] <;> rfl))|(simp [*,errW_none,errW_some] <;> rfl),yV0 HO727,yhb⟩
end Go.Proofs.Ytkaoiblgfpphoaa.Prt
